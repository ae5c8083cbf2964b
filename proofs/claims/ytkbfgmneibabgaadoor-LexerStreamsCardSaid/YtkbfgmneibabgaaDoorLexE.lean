/- Escapes, and a builder's length and string, by the machine. -/
import Derived.Test.YtkbfgmneibabgaaDoorLexD
set_option linter.unusedSimpArgs false
set_option linter.unusedVariables false
set_option maxRecDepth 1000000
set_option maxHeartbeats 1000000
namespace Go.Proofs.YtkbfgmneibabgaaDoor
open Go Go.Pm Go.RowKit
open LexP hiding place Sep Run
theorem u8_of (c : UInt8) : (z c).toNat.toUInt8 = c := by simp [z]
theorem u8_of' (c : UInt8) : UInt8.ofNat (z c).toNat = c := by simp [z]
theorem z_range (c : UInt8) : 0 ≤ z c ∧ z c ≤ 255 := by have := c.toNat_lt; unfold z; omega
theorem z_surj {n : Int} (h : 0 ≤ n ∧ n ≤ 255) : ∃ c : UInt8, n = z c := ⟨UInt8.ofNat n.toNat, by
  have : (UInt8.ofNat n.toNat).toNat = n.toNat := by simp; omega
  unfold z; rw [this]; omega⟩
theorem z_inj {c d : UInt8} (h : z c = z d) : c = d := by
  unfold z at h
  exact UInt8.toNat_inj.1 (by omega)
abbrev hexS : Bs := [48, 49, 50, 51, 52, 53, 54, 55, 56, 57, 97, 98, 99, 100, 101, 102]
theorem hex_at (c : UInt8) : Lib.indexByte hexS c = hexZ (z c) := byte_all (p := fun c => Lib.indexByte hexS c = hexZ (z c)) (by decide +kernel) c
noncomputable def T101 : FuncId → Option Pm.Spec := tab [(50, .pure false F50)]
theorem T101_eq (g : Nat) : T101 g = tab [(50, .pure false F50)] g := rfl
theorem x101 (c : UInt8) : XFn Y T101 Tryd.f101 [u8 (z c)] [] (Is (.i (hexZ (z c)))) := by
  unfold XFn Tryd.f101
  rw [enter_1 _ (by decide)]
  have h : F50 [.str hexS, u8 (z c)] = some (.i (hexZ (z c))) := by simp only [F50, u8_of, hex_at]
  simp [T101_eq, h]
def F101 : List SV → Option SV
  | [.pv (.int .u8 n)] => if 0 ≤ n ∧ n ≤ 255 then some (.i (hexZ n)) else none
  | _ => none
theorem meets101 (W0 : World) : OkAt W0 101 F101 := meets_fn env (tok_cons (meets50 W0) tok_nil) mixed Tryd.func101 (by kernel_rfl) (by kernel_rfl) fun args r h => by
  unfold F101 at h
  split at h
  · split at h
    · rename_i hc; cases h; obtain ⟨c, rfl⟩ := z_surj hc; exact x101 c
    · cases h
  · cases h
theorem F101_at (c : UInt8) : F101 [u8 (z c)] = some (.i (hexZ (z c))) := by have := z_range c; simp [F101, this]
/-- The length and the string of a builder. -/
theorem meets87 (W0 : World) : Enterable Tryd.prog 87 ∧ Meets Tryd.prog W0 87 (specFn (.heap (arunAll Y T0 Tryd.f87))) := meets_heap env tok_nil mixed Tryd.func87 (by kernel_rfl) (by kernel_rfl)
theorem all87 {k : Nat} {bs : Bs} {H : List Blk} (h : Bld k bs H) : arunAll Y T0 Tryd.f87 [.ptr k 0] H = some (.i bs.length, H) := by
  obtain ⟨a, buf, hk, ha, hacc⟩ := h.st
  have hx : XFn Y T0 Tryd.f87 [.ptr k 0] H (fun x => x = (.i bs.length, H)) := by
    unfold XFn Tryd.f87
    rw [enter_1 _ (by decide)]
    rcases hacc with ⟨h1, rfl⟩ | ⟨h1, kt, v, rfl, h2⟩
    · have : bs = [] := by simpa [bRow] using h1
      subst this
      simp [hk]
    · simp [hk, bRow]
  obtain ⟨r, H', h1, h2⟩ := all_of_XFn (by rfl) hx
  rw [h1, h2]
theorem str_at {k : Nat} {bs : Bs} {H : List Blk} (h : Bld k bs H) : stringF 5 [.ptr k 0] H = some (.str bs, H) := by
  obtain ⟨a, buf, hk, ha, hacc⟩ := h.st
  rcases hacc with ⟨h1, rfl⟩ | ⟨h1, kt, v, rfl, h2⟩
  · have : bs = [] := by simpa [bRow] using h1
    subst this
    simp [stringF, hk]
  · have hb : bytesB (bRow bs) = some bs := bytesB_row bs
    simp [stringF, hk, h2, h1, hb]
/-- What stands behind a backslash. -/
abbrev escS : Bs := [110, 116, 92, 34]
noncomputable def T88 : FuncId → Option Pm.Spec := tab [(49, .heap (arunAll Y T49 Tryd.f49)), (50, .pure false F50), (101, .pure false F101)]
theorem T88_eq (g : Nat) : T88 g = tab [(49, .heap (arunAll Y T49 Tryd.f49)), (50, .pure false F50), (101, .pure false F101)] g := rfl
theorem tok88 (W0 : World) : TOk Tryd.prog W0 T88 := tok_cons (meets49 W0) (tok_cons (meets50 W0) (tok_cons (meets101 W0) tok_nil))
theorem meets88 (W0 : World) : Enterable Tryd.prog 88 ∧ Meets Tryd.prog W0 88 (specFn (.heap (arunAll Y T88 Tryd.f88))) := meets_heap env (tok88 W0) mixed Tryd.func88 (by kernel_rfl) (by kernel_rfl)
def EscQ (k : Nat) (bs : Bs) (H : List Blk) (s : Bs) (x : SV × List Blk) : Prop := match escL s with
  | .wrong n => x = (.tuple [.i n, .bool true], H)
  | .ok n b => x.1 = .tuple [.i n, .bool false] ∧ Bld k (bs ++ [b]) x.2 ∧ FrE k 5 H x.2
theorem esc_one {k : Nat} {bs : Bs} {H : List Blk} (h : Bld k bs H) (hl : bs.length ≤ 10000000) (c b : UInt8) (r : Bs) (hr : r.length ≤ 10000000)
    (hc : (c = 110 ∧ b = 10) ∨ (c = 116 ∧ b = 9) ∨ (c = 92 ∧ b = 92) ∨ (c = 34 ∧ b = 34)) : XFn Y T88 Tryd.f88 [.str (c :: r), .ptr k 0] H (EscQ k bs H (c :: r)) := by
  obtain ⟨H', h1, h2, h3⟩ := all49 h (z b) (z_range b) hl
  rw [u8_of'] at h2
  unfold XFn Tryd.f88
  rw [enter_2 _ (by decide)]
  have hF : ∀ (c : UInt8), F50 [.str escS, u8 (z c)] = some (.i (Lib.indexByte escS c)) := fun c => by simp only [F50, u8_of]
  unfold EscQ
  rcases hc with ⟨rfl, rfl⟩ | ⟨rfl, rfl⟩ | ⟨rfl, rfl⟩ | ⟨rfl, rfl⟩
  · have hF : F50 [.str escS, u8 110] = some (.i 0) := by rfl
    have h1 : arunAll Y T49 Tryd.f49 [.ptr k 0, u8 10] H = some (.pv .nilIface, H') := h1
    simp [T88_eq, hF, h1, h2, h3, escL, z]
  · have hF : F50 [.str escS, u8 116] = some (.i 1) := by rfl
    have h1 : arunAll Y T49 Tryd.f49 [.ptr k 0, u8 9] H = some (.pv .nilIface, H') := h1
    simp [T88_eq, hF, h1, h2, h3, escL, z]
  · have hF : F50 [.str escS, u8 92] = some (.i 2) := by rfl
    have h1 : arunAll Y T49 Tryd.f49 [.ptr k 0, u8 92] H = some (.pv .nilIface, H') := h1
    simp [T88_eq, hF, h1, h2, h3, escL, z]
  · have hF : F50 [.str escS, u8 34] = some (.i 3) := by rfl
    have h1 : arunAll Y T49 Tryd.f49 [.ptr k 0, u8 34] H = some (.pv .nilIface, H') := h1
    simp [T88_eq, hF, h1, h2, h3, escL, z]
theorem esc_not (c : UInt8) (h : ¬ (c = 110 ∨ c = 116 ∨ c = 92 ∨ c = 34)) : Lib.indexByte escS c = -1 := by
  have := byte_all (p := fun c => (c = 110 ∨ c = 116 ∨ c = 92 ∨ c = 34) ∨ Lib.indexByte escS c = -1) (by decide +kernel) c
  rcases this with h1 | h1
  · exact absurd h1 h
  · exact h1
theorem wrap_u8 {n : Int} (h : 0 ≤ n) (h' : n ≤ 255) : IntKind.u8.wrap n = n := by
  unfold IntKind.wrap; simp [IntKind.bits, IntKind.signed]; omega
theorem hex_range (c : UInt8) : -1 ≤ hexZ (z c) ∧ hexZ (z c) ≤ 15 := by
  have := z_range c
  unfold hexZ digZ
  split
  · rename_i h; simp at h; omega
  · split <;> omega
theorem x88 {k : Nat} {bs : Bs} {H : List Blk} (h : Bld k bs H) (hl : bs.length ≤ 10000000) (s : Bs) (hs : s.length ≤ 10000000) : XFn Y T88 Tryd.f88 [.str s, .ptr k 0] H (EscQ k bs H s) := by
  cases s with
  | nil =>
    unfold XFn Tryd.f88 EscQ
    rw [enter_2 _ (by decide)]
    simp [escL]
  | cons c r =>
    simp at hs
    by_cases hc : c = 110 ∨ c = 116 ∨ c = 92 ∨ c = 34
    · rcases hc with rfl | rfl | rfl | rfl
      · exact esc_one h hl _ 10 r (by omega) (by simp)
      · exact esc_one h hl _ 9 r (by omega) (by simp)
      · exact esc_one h hl _ 92 r (by omega) (by simp)
      · exact esc_one h hl _ 34 r (by omega) (by simp)
    have hi := esc_not c hc
    have hF : F50 [.str escS, u8 (z c)] = some (.i (-1)) := by simp only [F50, u8_of, hi]
    have hn : ¬ z c = 110 ∧ ¬ z c = 116 ∧ ¬ z c = 92 ∧ ¬ z c = 34 := by
      refine ⟨fun e => hc ?_, fun e => hc ?_, fun e => hc ?_, fun e => hc ?_⟩
      · exact .inl (z_inj (c := c) (d := 110) e)
      · exact .inr (.inl (z_inj (c := c) (d := 116) e))
      · exact .inr (.inr (.inl (z_inj (c := c) (d := 92) e)))
      · exact .inr (.inr (.inr (z_inj (c := c) (d := 34) e)))
    by_cases hx : z c = 120
    · have hcx : c = 120 := z_inj (c := c) (d := 120) hx
      subst hcx
      have hF : F50 [.str escS, u8 120] = some (.i (-1)) := hF
      have hE : escL (120 :: r) = escX r := by simp [escL, z]
      unfold XFn Tryd.f88 EscQ
      rw [enter_2 _ (by decide), hE]
      simp [T88_eq, hF]
      refine X_keep (r := [(0, .str (120 :: r)), (1, .ptr k 0), (7, .i 0), (8, .i 1)]) ?_ (by simp)
      refine X_loop_of rfl ?_
      cases r with
      | nil => simp [T88_eq, escX]
      | cons a r1 =>
        have hA : F101 [u8 (a.toNat : Int)] = some (.i (hexZ (z a))) := F101_at a
        have ha := hex_range a
        simp at hs
        have q1 : ¬ (1 : Int) = (r1.length : Int) + 1 + 1 := by omega
        by_cases h1 : hexZ (z a) < 0
        · simp [-Int.not_lt, T88_eq, hA, q1, h1, escX]
        · have w1 : IntKind.i64.wrap (hexZ (z a)) = hexZ (z a) := wrap64 (by omega) (by omega)
          have wz : IntKind.i64.wrap 0 = 0 := wrap64 (by omega) (by omega)
          have wt : IntKind.i64.wrap 2 = 2 := wrap64 (by omega) (by omega)
          simp [-Int.not_lt, T88_eq, hA, q1, h1, w1]
          refine X_keep (r := [(0, .str (120 :: a :: r1)), (1, .ptr k 0), (7, .i (hexZ (z a))), (8, .i 2)]) ?_ (by simp [wz, wt, w1])
          refine X_loop_of rfl ?_
          cases r1 with
          | nil => simp [-Int.not_lt, T88_eq, escX, h1]
          | cons b r2 =>
            have hB : F101 [u8 (b.toNat : Int)] = some (.i (hexZ (z b))) := F101_at b
            have hb := hex_range b
            have q2 : ¬ (2 : Int) = (r2.length : Int) + 1 + 1 + 1 := by omega
            by_cases h2 : hexZ (z b) < 0
            · simp [-Int.not_lt, T88_eq, hB, q2, h2, escX, h1]
            · have w2 : IntKind.i64.wrap (16 * hexZ (z a)) = 16 * hexZ (z a) := wrap64 (by omega) (by omega)
              have w3 : IntKind.i64.wrap (16 * hexZ (z a) + hexZ (z b)) = 16 * hexZ (z a) + hexZ (z b) := wrap64 (by omega) (by omega)
              simp [-Int.not_lt, T88_eq, hB, q2, h2, w2, w3]
              refine X_keep (r := [(0, .str (120 :: a :: b :: r2)), (1, .ptr k 0), (7, .i (16 * hexZ (z a) + hexZ (z b))), (8, .i 3)]) ?_ (by simp [show IntKind.i64.wrap 3 = 3 from wrap64 (by omega) (by omega)])
              refine X_loop_of rfl ?_
              have w4 : IntKind.u8.wrap (16 * hexZ (z a) + hexZ (z b)) = 16 * hexZ (z a) + hexZ (z b) := wrap_u8 (by omega) (by omega)
              obtain ⟨H', g1, g2, g3⟩ := all49 h (16 * hexZ (z a) + hexZ (z b)) (by omega) hl
              simp [-Int.not_lt, T88_eq, escX, h1, h2, w4, g1, g2, g3]
    · have hx' : ¬ (c.toNat : Int) = 120 := hx
      have hF : F50 [.str escS, u8 (c.toNat : Int)] = some (.i (-1)) := hF
      unfold XFn Tryd.f88 EscQ
      rw [enter_2 _ (by decide)]
      simp [T88_eq, hF, hx', escL, hn, hx]
theorem all88 {k : Nat} {bs : Bs} {H : List Blk} (h : Bld k bs H) (hl : bs.length ≤ 10000000) (s : Bs) (hs : s.length ≤ 10000000) : ∃ r H', arunAll Y T88 Tryd.f88 [.str s, .ptr k 0] H = some (r, H') ∧ EscQ k bs H s (r, H') := all_of_XFn (by rfl) (x88 h hl s hs)
end Go.Proofs.YtkbfgmneibabgaaDoor
