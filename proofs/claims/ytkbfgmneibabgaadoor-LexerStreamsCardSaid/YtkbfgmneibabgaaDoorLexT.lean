/- The reference's strings, by the machine. -/
import Derived.Test.YtkbfgmneibabgaaDoorLexS
set_option linter.unusedSimpArgs false
set_option linter.unusedVariables false
set_option maxRecDepth 1000000
set_option maxHeartbeats 2000000
namespace Go.Proofs.YtkbfgmneibabgaaDoor
open Go Go.Pm Go.RowKit
open LexP hiding place Sep Run
theorem app_b {H : List Blk} {buf : SV} {bs : Bs} (h : Acc 5 1 H (bRow bs) buf) (hl : bs.length ≤ 20000000) (b : UInt8) :
    ∃ out' H', aAppend Y H 36 36 buf (.tight 1 [[.int .u8 (b.toNat : Int)]]) = some (out', H') ∧ Acc 5 1 H' (bRow (bs ++ [b])) out' := by
  obtain ⟨out', H2, e2, ha2, nb, f2⟩ := app_fr (t := 36) (x := [PV.int .u8 (b.toNat : Int)]) 0 (by rfl) Y_5 (by decide) (by decide) (by decide) (by simp [bRow, maxRow]; omega) h
  have ha2 : Acc 5 1 H2 (bRow bs ++ [[PV.int .u8 (b.toNat : Int)]]) out' := ha2
  refine ⟨out', H2, e2, ?_⟩
  rw [show bRow (bs ++ [b]) = bRow bs ++ [[PV.int .u8 (b.toNat : Int)]] by simp [bRow]]
  exact ha2
noncomputable def T44 : FuncId → Option Pm.Spec := tab [(79, .pure false F79)]
theorem T44_eq (g : Nat) : T44 g = tab [(79, .pure false F79)] g := rfl
theorem tok44 (W0 : World) : TOk Tryd.prog W0 T44 := tok_cons (meets79 W0) tok_nil
abbrev rs44 : List ResultVar := [.tmp 4, .tmp 5, .tmp 6, .tmp 7]
theorem loop44 {F : List Fr} {P : SV × List Blk → Prop} {s : Bs} {n : Nat} (hs : s.length ≤ 10000000) :
    ∀ (f i : Nat) (bs r pre : Bs) (buf : SV) (H : List Blk), r.length < f → pre ++ r = s → pre.length = n + i → bs.length ≤ i → Acc 5 1 H (bRow bs) buf →
    (∀ H', strA f i bs r = .short → P (.tuple [.str [], .i 0, .i n, .i 4], H')) →
    (∀ H' o, strA f i bs r = .bad o → P (.tuple [.str [], .i 0, .i (n + o : Nat), .i 6], H')) →
    (∀ H' buf' m bs', strA f i bs r = .ok (m + 1) bs' → Acc 5 1 H' (bRow bs') buf' → bs'.length ≤ m → n + m < s.length → X Y T44 rs44 F (.exit 0) ⟨mk 116 .J [(0, .str s), (1, .i n), (8, buf'), (9, .i (n + m : Nat))], H'⟩ P) →
    X Y T44 rs44 F (.loop (loopN Tryd.f44 0)) ⟨mk 116 .J [(0, .str s), (1, .i n), (8, buf), (9, .i (n + i : Nat))], H⟩ P
  | 0, i, bs, r, pre, buf, H, hf, hr, hp, hbl, hA, h1, h2, h3 => by omega
  | f + 1, i, bs, [], pre, buf, H, hf, hr, hp, hbl, hA, h1, h2, h3 => by
    have hlen : ((n + i : Nat) : Int) = (s.length : Int) := by rw [← hr, ← hp]; simp
    apply X_loop_of
    · simp only [loopN, Tryd.f44, loopsOf, List.nil_append, List.append_nil, List.cons_append, List.getD_cons_succ, List.getD_cons_zero]; rfl
    have hq := h1 H (by simp [strA])
    rw [hlen]
    simp [hq]
  | f + 1, i, bs, c :: r, pre, buf, H, hf, hr, hp, hbl, hA, h1, h2, h3 => by
    have hsl : s.length = n + i + (r.length + 1) := by rw [← hr, List.length_append, List.length_cons, hp]
    have hi : s[n + i]? = some c := by rw [← hr, ← hp]; simp
    have e1 : ((n + i : Nat) : Int).toNat = n + i := by omega
    have e2 : (0 : Int) ≤ ((n + i : Nat) : Int) := by omega
    have e3 : ¬ (s.length : Int) ≤ ((n + i : Nat) : Int) := by omega
    have w1 : IntKind.i64.wrap (((n + i : Nat) : Int) + 1) = ((n + (i + 1) : Nat) : Int) := by rw [wrap64 (by omega) (by omega)]; omega
    have hlive := hA.live
    apply X_loop_of
    · simp only [loopN, Tryd.f44, loopsOf, List.nil_append, List.append_nil, List.cons_append, List.getD_cons_succ, List.getD_cons_zero]; rfl
    by_cases c1 : z c = 34
    · have c1' : (c.toNat : Int) = 34 := c1
      have c1n : c.toNat = 34 := by omega
      have hq := h3 H buf i bs (by rw [strA, if_pos c1]) hA hbl (by omega)
      generalize ((n + (i + 1) : Nat) : Int) = E1 at *
      generalize ((n + i : Nat) : Int) = E at *
      simp [-Int.not_lt, -Int.not_le, hi, e1, e2, e3, c1', c1n]
      refine X_keep hq ?_
      simp
    have c1' : ¬ (c.toNat : Int) = 34 := c1
    have c1n : ¬ c.toNat = 34 := by omega
    by_cases c2 : stdZ (z c) = true
    · have hc : 32 ≤ (c.toNat : Int) ∧ ¬ (c.toNat : Int) = 127 ∧ ¬ (c.toNat : Int) = 92 := by
        simp [stdZ, z] at c2; omega
      have hcn : ¬ (c.toNat : Int) < 32 ∧ ¬ c.toNat < 32 ∧ ¬ c.toNat = 127 ∧ ¬ c.toNat = 92 := by omega
      have hres : strA (f + 1) i bs (c :: r) = strA f (i + 1) (bs ++ [c]) r := by rw [strA, if_neg c1, if_pos c2]
      simp only [hres] at h1 h2 h3
      obtain ⟨buf', H', a1, a2⟩ := app_b hA (by omega) c
      have ih := loop44 (F := F) (P := P) hs f (i + 1) (bs ++ [c]) r (pre ++ [c]) buf' H' (by simp at hf; omega) (by rw [← hr]; simp) (by simp; omega) (by simp; omega) a2 h1 h2 h3
      generalize ((n + (i + 1) : Nat) : Int) = E1 at *
      generalize ((n + i : Nat) : Int) = E at *
      simp [-Int.not_lt, -Int.not_le, -aAppend, hi, e1, e2, e3, c1', c1n, hc, hcn, hlive, a1, a2.live, w1]
      refine X_keep ih ?_
      simp
    have c2f : stdZ (z c) = false := by simpa using c2
    by_cases c3 : z c = 92
    · have c3' : (c.toNat : Int) = 92 := c3
      have c3n : c.toNat = 92 := by omega
      cases r with
      | nil =>
        have hlen : ((n + (i + 1) : Nat) : Int) = (s.length : Int) := by rw [hsl]; simp; omega
        have hq := h1 H (by rw [strA, if_neg c1, if_neg c2, if_pos c3]; simp [escL])
        rw [hlen] at w1
        generalize ((n + i : Nat) : Int) = E at *
        simp [-Int.not_lt, -Int.not_le, hi, e1, e2, e3, c3', c3n, w1, hq]
      | cons a r2 =>
        have i1 : s[n + (i + 1)]? = some a := by rw [← hr, ← Nat.add_assoc, ← hp, List.getElem?_append_right (by omega)]; simp
        have f1 : ((n + (i + 1) : Nat) : Int).toNat = n + (i + 1) := by omega
        have f2 : (0 : Int) ≤ ((n + (i + 1) : Nat) : Int) := by omega
        have f3 : ¬ (s.length : Int) ≤ ((n + (i + 1) : Nat) : Int) := by rw [hsl]; simp; omega
        have w2 : IntKind.i64.wrap (((n + (i + 1) : Nat) : Int) + 1) = ((n + (i + 1 + 1) : Nat) : Int) := by rw [wrap64 (by omega) (by omega)]; omega
        have one : ∀ b : UInt8, escL (a :: r2) = .ok 1 b → strA (f + 1) i bs (c :: a :: r2) = strA f (i + 1 + 1) (bs ++ [b]) r2 := fun b hE => by
          rw [strA, if_neg c1, if_neg c2, if_pos c3, hE]; rfl
        have ihs : ∀ (b : UInt8), escL (a :: r2) = .ok 1 b → ∃ out' H', aAppend Y H 36 36 buf (.tight 1 [[.int .u8 (b.toNat : Int)]]) = some (out', H') ∧ live out' = some out' ∧
            X Y T44 rs44 F (.loop (loopN Tryd.f44 0)) ⟨mk 116 .J [(0, .str s), (1, .i n), (8, out'), (9, .i (n + (i + 1 + 1) : Nat))], H'⟩ P := fun b hE => by
          have hres := one b hE
          rw [hres] at h1 h2 h3
          obtain ⟨buf', H', a1, a2⟩ := app_b hA (by omega) b
          exact ⟨buf', H', a1, a2.live, loop44 (F := F) (P := P) hs f (i + 1 + 1) (bs ++ [b]) r2 (pre ++ [c, a]) buf' H' (by simp at hf; omega) (by rw [← hr]; simp) (by simp; omega) (by simp; omega) a2 h1 h2 h3⟩
        by_cases a110 : z a = 110
        · have ha : (a.toNat : Int) = 110 := a110
          have han : a.toNat = 110 := by omega
          obtain ⟨out', H', a1, a2, a3⟩ := ihs 10 (by rw [escL, if_pos a110])
          have a1 : aAppend Y H 36 36 buf (.tight 1 [[.int .u8 10]]) = some (out', H') := a1
          generalize ((n + (i + 1 + 1) : Nat) : Int) = E2 at *
          generalize ((n + (i + 1) : Nat) : Int) = E1 at *
          generalize ((n + i : Nat) : Int) = E at *
          simp [-Int.not_lt, -Int.not_le, -aAppend, hi, e1, e2, e3, c3', c3n, w1, f1, f2, f3, i1, ha, han, hlive, a1, a2, w2]
          refine X_keep a3 ?_
          simp
        have n110 : ¬ (a.toNat : Int) = 110 := a110
        have m110 : ¬ a.toNat = 110 := by omega
        by_cases a116 : z a = 116
        · have ha : (a.toNat : Int) = 116 := a116
          have han : a.toNat = 116 := by omega
          obtain ⟨out', H', a1, a2, a3⟩ := ihs 9 (by rw [escL, if_neg a110, if_pos a116])
          have a1 : aAppend Y H 36 36 buf (.tight 1 [[.int .u8 9]]) = some (out', H') := a1
          generalize ((n + (i + 1 + 1) : Nat) : Int) = E2 at *
          generalize ((n + (i + 1) : Nat) : Int) = E1 at *
          generalize ((n + i : Nat) : Int) = E at *
          simp [-Int.not_lt, -Int.not_le, -aAppend, hi, e1, e2, e3, c3', c3n, w1, f1, f2, f3, i1, ha, han, hlive, a1, a2, w2]
          refine X_keep a3 ?_
          simp
        have n116 : ¬ (a.toNat : Int) = 116 := a116
        have m116 : ¬ a.toNat = 116 := by omega
        by_cases a92 : z a = 92
        · have ha : (a.toNat : Int) = 92 := a92
          have han : a.toNat = 92 := by omega
          obtain ⟨out', H', a1, a2, a3⟩ := ihs 92 (by rw [escL, if_neg a110, if_neg a116, if_pos a92])
          have a1 : aAppend Y H 36 36 buf (.tight 1 [[.int .u8 92]]) = some (out', H') := a1
          generalize ((n + (i + 1 + 1) : Nat) : Int) = E2 at *
          generalize ((n + (i + 1) : Nat) : Int) = E1 at *
          generalize ((n + i : Nat) : Int) = E at *
          simp [-Int.not_lt, -Int.not_le, -aAppend, hi, e1, e2, e3, c3', c3n, w1, f1, f2, f3, i1, ha, han, hlive, a1, a2, w2]
          refine X_keep a3 ?_
          simp
        have n92 : ¬ (a.toNat : Int) = 92 := a92
        have m92 : ¬ a.toNat = 92 := by omega
        by_cases a34 : z a = 34
        · have ha : (a.toNat : Int) = 34 := a34
          have han : a.toNat = 34 := by omega
          obtain ⟨out', H', a1, a2, a3⟩ := ihs 34 (by rw [escL, if_neg a110, if_neg a116, if_neg a92, if_pos a34])
          have a1 : aAppend Y H 36 36 buf (.tight 1 [[.int .u8 34]]) = some (out', H') := a1
          generalize ((n + (i + 1 + 1) : Nat) : Int) = E2 at *
          generalize ((n + (i + 1) : Nat) : Int) = E1 at *
          generalize ((n + i : Nat) : Int) = E at *
          simp [-Int.not_lt, -Int.not_le, -aAppend, hi, e1, e2, e3, c3', c3n, w1, f1, f2, f3, i1, ha, han, hlive, a1, a2, w2]
          refine X_keep a3 ?_
          simp
        have n34 : ¬ (a.toNat : Int) = 34 := a34
        have m34 : ¬ a.toNat = 34 := by omega
        by_cases a120 : z a = 120
        · have ha : (a.toNat : Int) = 120 := a120
          have han : a.toNat = 120 := by omega
          have hE : escL (a :: r2) = escX r2 := by rw [escL, if_neg a110, if_neg a116, if_neg a92, if_neg a34, if_pos a120]
          have wz : IntKind.i64.wrap 0 = 0 := wrap64 (by omega) (by omega)
          have wt : IntKind.i64.wrap 2 = 2 := wrap64 (by omega) (by omega)
          have w3' : IntKind.i64.wrap 3 = 3 := wrap64 (by omega) (by omega)
          cases r2 with
          | nil =>
            have hq := h1 H (by rw [strA, if_neg c1, if_neg c2, if_pos c3, hE]; simp [escX])
            have hlen : ((n + (i + 1 + 1) : Nat) : Int) = (s.length : Int) := by rw [hsl]; simp; omega
            rw [hlen] at w2
            generalize ((n + (i + 1) : Nat) : Int) = E1 at *
            generalize ((n + i : Nat) : Int) = E at *
            simp [-Int.not_lt, -Int.not_le, hi, e1, e2, e3, c3', c3n, w1, f1, f2, f3, i1, ha, han]
            refine X_keep (r := [(0, .str s), (1, .i n), (8, buf), (9, .i E1), (11, .i 0), (12, .i 1)]) ?_ (by simp)
            refine X_loop_of rfl ?_
            simp [-Int.not_lt, -Int.not_le, w2, hq]
          | cons b1 r3 =>
            have i2 : s[n + (i + 1 + 1)]? = some b1 := by rw [← hr, ← Nat.add_assoc, ← Nat.add_assoc, ← hp, List.getElem?_append_right (by omega)]; simp [show pre.length + 1 + 1 - pre.length = 2 by omega]
            have g1 : ((n + (i + 1 + 1) : Nat) : Int).toNat = n + (i + 1 + 1) := by omega
            have g2 : (0 : Int) ≤ ((n + (i + 1 + 1) : Nat) : Int) := by omega
            have g3 : ¬ (s.length : Int) ≤ ((n + (i + 1 + 1) : Nat) : Int) := by rw [hsl]; simp; omega
            have hx1 := F79_at b1
            have hr1 := hex_range b1
            by_cases hn1 : hexZ (z b1) < 0
            · have hq := h2 H (i + 1 + 1) (by rw [strA, if_neg c1, if_neg c2, if_pos c3, hE, escX.eq_def]; simp only []; rw [if_pos hn1]; simp; try omega)
              generalize ((n + (i + 1 + 1) : Nat) : Int) = E2 at *
              generalize ((n + (i + 1) : Nat) : Int) = E1 at *
              generalize ((n + i : Nat) : Int) = E at *
              simp [-Int.not_lt, -Int.not_le, hi, e1, e2, e3, c3', c3n, w1, f1, f2, f3, i1, ha, han]
              refine X_keep (r := [(0, .str s), (1, .i n), (8, buf), (9, .i E1), (11, .i 0), (12, .i 1)]) ?_ (by simp)
              refine X_loop_of rfl ?_
              simp [-Int.not_lt, -Int.not_le, T44_eq, w2, g1, g2, g3, i2, hx1, hn1, hq]
            · have w4 : IntKind.i64.wrap (hexZ (z b1)) = hexZ (z b1) := wrap64 (by omega) (by omega)
              have w5 : IntKind.i64.wrap (((n + (i + 1) : Nat) : Int) + 2) = ((n + (i + 1 + 2) : Nat) : Int) := by rw [wrap64 (by omega) (by omega)]; omega
              cases r3 with
              | nil =>
                have hq := h1 H (by rw [strA, if_neg c1, if_neg c2, if_pos c3, hE]; simp only [escX]; rw [if_neg hn1]; simp)
                have hlen : ((n + (i + 1 + 2) : Nat) : Int) = (s.length : Int) := by rw [hsl]; simp; omega
                rw [hlen] at w5
                generalize ((n + (i + 1 + 1) : Nat) : Int) = E2 at *
                generalize ((n + (i + 1) : Nat) : Int) = E1 at *
                generalize ((n + i : Nat) : Int) = E at *
                simp [-Int.not_lt, -Int.not_le, hi, e1, e2, e3, c3', c3n, w1, f1, f2, f3, i1, ha, han]
                refine X_keep (r := [(0, .str s), (1, .i n), (8, buf), (9, .i E1), (11, .i 0), (12, .i 1)]) ?_ (by simp)
                refine X_loop_of rfl ?_
                simp [-Int.not_lt, -Int.not_le, T44_eq, w2, g1, g2, g3, i2, hx1, hn1]
                refine X_keep (r := [(0, .str s), (1, .i n), (8, buf), (9, .i E1), (11, .i (hexZ (z b1))), (12, .i 2)]) ?_ (by simp [wz, wt, w4])
                refine X_loop_of rfl ?_
                simp [-Int.not_lt, -Int.not_le, T44_eq, w5, hq]
              | cons b2 r4 =>
                have i3 : s[n + (i + 1 + 2)]? = some b2 := by rw [← hr, ← Nat.add_assoc, ← Nat.add_assoc, ← hp, List.getElem?_append_right (by omega)]; simp [show pre.length + 1 + 2 - pre.length = 3 by omega]
                have k1 : ((n + (i + 1 + 2) : Nat) : Int).toNat = n + (i + 1 + 2) := by omega
                have k2 : (0 : Int) ≤ ((n + (i + 1 + 2) : Nat) : Int) := by omega
                have k3 : ¬ (s.length : Int) ≤ ((n + (i + 1 + 2) : Nat) : Int) := by rw [hsl]; simp; omega
                have hx2 := F79_at b2
                have hr2 := hex_range b2
                by_cases hn2 : hexZ (z b2) < 0
                · have hq := h2 H (i + 1 + 2) (by rw [strA, if_neg c1, if_neg c2, if_pos c3, hE, escX, if_neg hn1]; simp [hn2]; try omega)
                  generalize ((n + (i + 1 + 2) : Nat) : Int) = E3 at *
                  generalize ((n + (i + 1 + 1) : Nat) : Int) = E2 at *
                  generalize ((n + (i + 1) : Nat) : Int) = E1 at *
                  generalize ((n + i : Nat) : Int) = E at *
                  simp [-Int.not_lt, -Int.not_le, hi, e1, e2, e3, c3', c3n, w1, f1, f2, f3, i1, ha, han]
                  refine X_keep (r := [(0, .str s), (1, .i n), (8, buf), (9, .i E1), (11, .i 0), (12, .i 1)]) ?_ (by simp)
                  refine X_loop_of rfl ?_
                  simp [-Int.not_lt, -Int.not_le, T44_eq, w2, g1, g2, g3, i2, hx1, hn1]
                  refine X_keep (r := [(0, .str s), (1, .i n), (8, buf), (9, .i E1), (11, .i (hexZ (z b1))), (12, .i 2)]) ?_ (by simp [wz, wt, w4])
                  refine X_loop_of rfl ?_
                  simp [-Int.not_lt, -Int.not_le, T44_eq, w5, k1, k2, k3, i3, hx2, hn2, hq]
                · have hb : ((UInt8.ofNat (16 * hexZ (z b1) + hexZ (z b2)).toNat).toNat : Int) = 16 * hexZ (z b1) + hexZ (z b2) := by
                    have : (UInt8.ofNat (16 * hexZ (z b1) + hexZ (z b2)).toNat).toNat = (16 * hexZ (z b1) + hexZ (z b2)).toNat := by simp; omega
                    rw [this]; omega
                  have hres : strA (f + 1) i bs (c :: a :: b1 :: b2 :: r4) = strA f (i + 1 + 3) (bs ++ [UInt8.ofNat (16 * hexZ (z b1) + hexZ (z b2)).toNat]) r4 := by
                    rw [strA, if_neg c1, if_neg c2, if_pos c3, hE, escX, if_neg hn1]; simp [hn2]
                  rw [hres] at h1 h2 h3
                  obtain ⟨buf', H', a1, a2⟩ := app_b hA (by omega) (UInt8.ofNat (16 * hexZ (z b1) + hexZ (z b2)).toNat)
                  rw [hb] at a1
                  have a3 := a2.live
                  have ih := loop44 (F := F) (P := P) hs f (i + 1 + 3) _ r4 (pre ++ [c, a, b1, b2]) buf' H' (by simp at hf; omega) (by rw [← hr]; simp) (by simp; omega) (by simp; omega) a2 h1 h2 h3
                  have w6 : IntKind.i64.wrap (16 * hexZ (z b1)) = 16 * hexZ (z b1) := wrap64 (by omega) (by omega)
                  have w7 : IntKind.i64.wrap (16 * hexZ (z b1) + hexZ (z b2)) = 16 * hexZ (z b1) + hexZ (z b2) := wrap64 (by omega) (by omega)
                  have w8 : IntKind.u8.wrap (16 * hexZ (z b1) + hexZ (z b2)) = 16 * hexZ (z b1) + hexZ (z b2) := wrap_u8 (by omega) (by omega)
                  have w9 : IntKind.i64.wrap (((n + (i + 1 + 2) : Nat) : Int) + 1) = ((n + (i + 1 + 3) : Nat) : Int) := by rw [wrap64 (by omega) (by omega)]; omega
                  generalize ((n + (i + 1 + 3) : Nat) : Int) = E4 at *
                  generalize ((n + (i + 1 + 2) : Nat) : Int) = E3 at *
                  generalize ((n + (i + 1 + 1) : Nat) : Int) = E2 at *
                  generalize ((n + (i + 1) : Nat) : Int) = E1 at *
                  generalize ((n + i : Nat) : Int) = E at *
                  simp [-Int.not_lt, -Int.not_le, hi, e1, e2, e3, c3', c3n, w1, f1, f2, f3, i1, ha, han]
                  refine X_keep (r := [(0, .str s), (1, .i n), (8, buf), (9, .i E1), (11, .i 0), (12, .i 1)]) ?_ (by simp)
                  refine X_loop_of rfl ?_
                  simp [-Int.not_lt, -Int.not_le, T44_eq, w2, g1, g2, g3, i2, hx1, hn1]
                  refine X_keep (r := [(0, .str s), (1, .i n), (8, buf), (9, .i E1), (11, .i (hexZ (z b1))), (12, .i 2)]) ?_ (by simp [wz, wt, w4])
                  refine X_loop_of rfl ?_
                  simp [-Int.not_lt, -Int.not_le, T44_eq, w5, k1, k2, k3, i3, hx2, hn2, w6, w7]
                  refine X_keep (r := [(0, .str s), (1, .i n), (8, buf), (9, .i E1), (11, .i (16 * hexZ (z b1) + hexZ (z b2))), (12, .i 3)]) ?_ (by simp [w3', w7])
                  refine X_loop_of rfl ?_
                  simp [-Int.not_lt, -Int.not_le, -aAppend, w8, hlive, a1, a3, w5, w9]
                  refine X_keep ih ?_
                  simp
        · have n120 : ¬ (a.toNat : Int) = 120 := a120
          have m120 : ¬ a.toNat = 120 := by omega
          have hE : escL (a :: r2) = .wrong 0 := by rw [escL, if_neg a110, if_neg a116, if_neg a92, if_neg a34, if_neg a120]
          have hres : strA (f + 1) i bs (c :: a :: r2) = .bad (i + 1) := by
            rw [strA, if_neg c1, if_neg c2, if_pos c3, hE]; simp
          have hq := h2 H _ hres
          generalize ((n + (i + 1) : Nat) : Int) = E1 at *
          generalize ((n + i : Nat) : Int) = E at *
          simp [-Int.not_lt, -Int.not_le, hi, e1, e2, e3, c3', c3n, w1, f1, f2, f3, i1, n110, m110, n116, m116, n92, m92, n34, m34, n120, m120, hq]
    · have hres : strA (f + 1) i bs (c :: r) = .bad i := by rw [strA, if_neg c1, if_neg c2, if_neg c3]
      have hq := h2 H i hres
      have c3' : ¬ (c.toNat : Int) = 92 := c3
      by_cases hlow : (c.toNat : Int) < 32
      · have hlown : c.toNat < 32 := by omega
        generalize ((n + (i + 1) : Nat) : Int) = E1 at *
        generalize ((n + i : Nat) : Int) = E at *
        simp [-Int.not_lt, -Int.not_le, hi, e1, e2, e3, c1', c1n, hlow, hlown, hq]
      · have h127 : (c.toNat : Int) = 127 := by
          simp [stdZ, z] at c2f; omega
        have h127n : c.toNat = 127 := by omega
        generalize ((n + (i + 1) : Nat) : Int) = E1 at *
        generalize ((n + i : Nat) : Int) = E at *
        simp [-Int.not_lt, -Int.not_le, hi, e1, e2, e3, c1', c1n, h127, h127n, hq]
/-- What the reference's str returns. -/
def strR (n : Nat) (r : Bs) : SV := match strA (r.length + 1) 1 [] r with
  | .short => .tuple [.str [], .i 0, .i n, .i 4]
  | .bad o => .tuple [.str [], .i 0, .i (n + o : Nat), .i 6]
  | .ok m bs => if 4096 < bs.length then .tuple [.str [], .i 0, .i n, .i 5] else .tuple [.str bs, .i (n + m : Nat), .i 0, .i 0]
def F44 : List SV → Option SV
  | [.pv (.str s), .pv (.int .i64 n)] => if 0 ≤ n ∧ n < s.length ∧ s.length ≤ 10000000 then some (strR n.toNat (s.drop (n.toNat + 1))) else none
  | _ => none
theorem bytesOf_row : ∀ bs : Bs, bytesOf (bRow bs) = some bs
  | [] => rfl
  | c :: r => by
    show bytesOf ([PV.int .u8 (c.toNat : Int)] :: bRow r) = _
    simp [bytesOf, bytesOf_row r]
theorem strA_ok_pos {f i : Nat} {acc r : Bs} {n : Nat} {bs : Bs} (h : strA f i acc r = .ok n bs) : ∃ m, n = m + 1 := ⟨n - 1, by have := (str_local f i acc r n bs h).1; omega⟩
theorem meets44 (W0 : World) : OkAt W0 44 F44 := meets_fn env (tok44 W0) mixed Tryd.func44 (by kernel_rfl) (by kernel_rfl) fun args r h => by
  unfold F44 at h
  split at h
  · rename_i s n
    split at h
    · rename_i hc
      cases h
      obtain ⟨k, rfl⟩ : ∃ k : Nat, n = (k : Int) := ⟨n.toNat, by omega⟩
      have hk : k + 1 ≤ s.length := by omega
      have e2 : (s.take (k + 1)).length = k + 1 := by rw [List.length_take]; omega
      have w1 : IntKind.i64.wrap ((k : Int) + 1) = ((k + 1 : Nat) : Int) := by rw [wrap64 (by omega) (by omega)]; omega
      simp only [Int.toNat_natCast]
      unfold XFn Tryd.f44
      rw [enter_2 _ (by decide)]
      simp [-Int.natCast_add, w1]
      refine X_keep (loop44 (n := k) hc.2.2 ((s.drop (k + 1)).length + 1) 1 [] (s.drop (k + 1)) (s.take (k + 1)) (.pv .nilSlice) _ (by omega) (List.take_append_drop _ _) e2 (by simp) (.inl ⟨rfl, rfl⟩) ?_ ?_ ?_) ?_
      · intro H' hq
        simp only [strR, hq]; simp [-Int.natCast_add, Is_mk, outR, outP, outL]
      · intro H' o hq
        simp only [strR, hq]; simp [-Int.natCast_add, Is_mk, outR, outP, outL]
      · intro H' buf' m bs' hq hA hb hm
        have hlive := hA.live
        have w2 : IntKind.i64.wrap (((k + m : Nat) : Int) + 1) = ((k + (m + 1) : Nat) : Int) := by rw [wrap64 (by omega) (by omega)]; omega
        have hlen : aLen Y 36 buf' = some bs'.length := by
          rcases hA with ⟨h1, rfl⟩ | ⟨h1, kt, v, rfl, h2⟩
          · have : bs' = [] := by simpa [bRow] using h1
            subst this; rfl
          · simp [bRow, sliceElems]
        have hcv : aConv Y 36 9 buf' = some (.str bs') := by
          rcases hA with ⟨h1, rfl⟩ | ⟨h1, kt, v, rfl, h2⟩
          · have : bs' = [] := by simpa [bRow] using h1
            subst this; rfl
          · have := bytesOf_row bs'
            simp [aConv, sliceElems, strideOk, this]
        simp only [strR, hq]
        generalize ((k + (m + 1) : Nat) : Int) = E1 at *
        generalize ((k + m : Nat) : Int) = E at *
        by_cases hl : 4096 < bs'.length
        · have hl' : (4096 : Int) < (bs'.length : Int) := by omega
          simp [-Int.not_lt, -aLen, hlive, hlen, hl, hl', Is_mk, outR, outP, outL]
        · have hl' : ¬ (4096 : Int) < (bs'.length : Int) := by omega
          simp [-Int.not_lt, -aLen, -aConv, hlive, hlen, hcv, hl, hl', w2, Is_mk, outR, outP, outL]
      · simp
    · cases h
  · cases h
theorem F44_at {s : Bs} {n : Nat} (hn : n < s.length) (hs : s.length ≤ 10000000) : F44 [.str s, .i n] = some (strR n (s.drop (n + 1))) := by
  simp only [F44]
  rw [if_pos ⟨by omega, by omega, hs⟩]
  simp
end Go.Proofs.YtkbfgmneibabgaaDoor
