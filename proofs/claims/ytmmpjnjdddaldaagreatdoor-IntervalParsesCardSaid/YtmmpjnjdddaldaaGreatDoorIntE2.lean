/- The reference's Parse, by the machine. -/
import Derived.Test.YtmmpjnjdddaldaaGreatDoorIntD2
set_option linter.unusedSimpArgs false
set_option linter.unusedVariables false
set_option maxRecDepth 1000000
set_option maxHeartbeats 1000000
namespace Go.Proofs.YtmmpjnjdddaldaaGreatDoor
open Go Go.Pm Go.RowKit
theorem nextI {m : Nat} (h : m ≤ 100000) : IntKind.i64.wrap ((m : Int) + 1) = ((m + 1 : Nat) : Int) := by rw [show ((m : Int) + 1) = ((m + 1 : Nat) : Int) by omega]; exact wrap64 (by omega) (by omega)
noncomputable def zT6 : FuncId → Option Pm.Spec := tab [(11, .pure false zF11)]
theorem zT6_eq (g : Nat) : zT6 g = tab [(11, .pure false zF11)] g := rfl
abbrev zb : Blk := .box [.i 0, .i 0]
theorem loop6a {F : List Fr} {P : SV × List Blk → Prop} {rs : List ResultVar} (s : Bs) (hs : s.length ≤ 400) : ∀ (a : Nat), a ≤ s.length →
    X Y zT6 rs F (.exit 0) ⟨mk 83 .J [(0, .str s), (2, .ptr 0 0), (4, .i (atR s a : Nat)), (5, .i 0)], [zb]⟩ P →
    X Y zT6 rs F (.loop (loopN Tryz.f6 0)) ⟨mk 83 .J [(0, .str s), (2, .ptr 0 0), (4, .i (a : Nat)), (5, .i 0)], [zb]⟩ P
  | 0, ha, hx => by
    apply X_loop_of
    · simp only [loopN, Tryz.f6, loopsOf, List.nil_append, List.append_nil, List.cons_append, List.getD_cons_succ, List.getD_cons_zero]; rfl
    simp
    refine X_keep hx ?_
    simp [atR]
  | a + 1, ha, hx => by
    have r1 : s[a]? = some (s.getD a 0) := by simp [show a < s.length by omega]
    have w1 : IntKind.i64.wrap (((a + 1 : Nat) : Int) - 1) = (a : Int) := by rw [show ((a + 1 : Nat) : Int) - 1 = (a : Int) by omega]; exact wrap64 (by omega) (by omega)
    have q1 : (0 : Int) < ((a + 1 : Nat) : Int) := by omega
    unfold atR at hx
    have ih := loop6a (F := F) (P := P) (rs := rs) s hs a (by omega)
    generalize s.getD a 0 = c at *
    apply X_loop_of
    · simp only [loopN, Tryz.f6, loopsOf, List.nil_append, List.append_nil, List.cons_append, List.getD_cons_succ, List.getD_cons_zero]; rfl
    by_cases h1 : 48 ≤ c.toNat
    · have h1' : (48 : Int) ≤ (c.toNat : Int) := by omega
      by_cases h2 : c.toNat ≤ 57
      · have h2' : (c.toNat : Int) ≤ (57 : Int) := by omega
        have hd : isD c = true := by simp [isD, h1, h2]
        rw [if_pos hd] at hx
        simp [-Int.natCast_add, -getElem?_pos, -Int.not_lt, -Int.not_le, q1, w1, r1, h1, h1', h2, h2']
        refine X_keep (ih hx) ?_
        simp [-Int.natCast_add]
      · have h2' : ¬ (c.toNat : Int) ≤ (57 : Int) := by omega
        have hd : ¬ isD c = true := by simp [isD, h1, h2]
        rw [if_neg hd] at hx
        simp [-Int.natCast_add, -getElem?_pos, -Int.not_lt, -Int.not_le, -Nat.not_le, -Nat.not_lt, q1, w1, r1, h1, h1', h2, h2']
        refine X_keep hx ?_
        simp [-Int.natCast_add]
    · have h1' : ¬ (48 : Int) ≤ (c.toNat : Int) := by omega
      have hd : ¬ isD c = true := by simp [isD, h1]
      rw [if_neg hd] at hx
      simp [-Int.natCast_add, -getElem?_pos, -Int.not_lt, -Int.not_le, -Nat.not_le, -Nat.not_lt, q1, w1, r1, h1, h1']
      refine X_keep hx ?_
      simp [-Int.natCast_add]
theorem loop6b {F : List Fr} {P : SV × List Blk → Prop} {rs : List ResultVar} (s : Bs) (hs : s.length ≤ 400) : ∀ (r k : Nat) (n : Int), k + r = s.length → 0 ≤ n ∧ n ≤ 10000 → (∀ b ∈ s.drop k, isD b = true) →
    X Y zT6 rs F (.exit 2) ⟨mk 83 .J [(0, .str s), (2, .ptr 0 0), (5, .i (numR n (s.drop k)))], [zb]⟩ P →
    X Y zT6 rs F (.loop (loopN Tryz.f6 1)) ⟨mk 83 .J [(0, .str s), (2, .ptr 0 0), (5, .i n), (6, .i (k : Nat))], [zb]⟩ P := by
  intro r
  induction r with
  | zero =>
    intro k n e hn hd hx
    have q2 : ¬ (k : Int) < (s.length : Int) := by omega
    rw [List.drop_eq_nil_of_le (by omega), numR] at hx
    apply X_loop_of
    · simp only [loopN, Tryz.f6, loopsOf, List.nil_append, List.append_nil, List.cons_append, List.getD_cons_succ, List.getD_cons_zero]; rfl
    simp [-Int.not_lt, -Int.not_le, q2]
    refine X_keep hx ?_
    simp
  | succ r ih =>
    intro k n e hn hd hx
    have hk : k < s.length := by omega
    have q2 : (k : Int) < (s.length : Int) := by omega
    have r1 : s[k]? = some (s.getD k 0) := by simp [hk]
    have e1 : s.drop k = s.getD k 0 :: s.drop (k + 1) := by rw [List.drop_eq_getElem_cons hk]; simp [hk]
    have q3 := nextI (m := k) (by omega)
    rw [e1] at hx hd
    have hd0 := hd _ (List.mem_cons_self)
    have hd1 : ∀ b ∈ s.drop (k + 1), isD b = true := fun b hb => hd b (List.mem_cons_of_mem _ hb)
    rw [numR] at hx
    generalize s.getD k 0 = c at *
    simp only [isD, Bool.and_eq_true, decide_eq_true_eq] at hd0
    have w1 : IntKind.u8.wrap ((c.toNat : Int) - 48) = (c.toNat : Int) - 48 := u8w (by omega)
    have w4 : IntKind.i64.wrap ((c.toNat : Int) - 48) = (c.toNat : Int) - 48 := wrap64 (by omega) (by omega)
    have w2 : IntKind.i64.wrap (10 * n) = 10 * n := wrap64 (by omega) (by omega)
    have w3 : IntKind.i64.wrap (10 * n + ((c.toNat : Int) - 48)) = 10 * n + ((c.toNat : Int) - 48) := wrap64 (by omega) (by omega)
    apply X_loop_of
    · simp only [loopN, Tryz.f6, loopsOf, List.nil_append, List.append_nil, List.cons_append, List.getD_cons_succ, List.getD_cons_zero]; rfl
    by_cases h : n < 1000
    · rw [if_pos h] at hx
      simp [-Int.natCast_add, -getElem?_pos, -Int.not_lt, -Int.not_le, q2, q3, r1, h, w1, w2, w3, w4]
      refine X_keep (ih (k + 1) _ (by omega) (by omega) hd1 hx) ?_
      simp [-Int.natCast_add]
    · rw [if_neg h] at hx
      simp [-Int.natCast_add, -getElem?_pos, -Int.not_lt, -Int.not_le, q2, q3, r1, h]
      refine X_keep hx ?_
      simp [-Int.natCast_add]
theorem in6 {F : List Fr} {P : SV × List Blk → Prop} (s : Bs) (n : Int) (hn : 1 ≤ n ∧ n ≤ 78) (m : Int) (hm : -140 ≤ m ∧ m ≤ 140) (Hx : List Blk) (sg a sg' : Int) (hsg : (sg = -1 ∧ a = 1 - n ∧ sg' = 1) ∨ (sg = 1 ∧ a = n - 1 ∧ sg' = 3))
    (hp : textZ a m = s → ∀ H', P (.tuple [I2 a m, .i 0], H'))
    (hx : ¬ textZ a m = s → ∀ Hx', X Y zT6 [.cell 2 23, .tmp 3] F (.loop (loopN Tryz.f6 3)) ⟨mk 83 .J [(0, .str s), (2, .ptr 0 0), (5, .i n), (7, .i m), (8, .i sg')], zb :: Hx'⟩ P) :
    X Y zT6 [.cell 2 23, .tmp 3] F (.loop (loopN Tryz.f6 3)) ⟨mk 83 .J [(0, .str s), (2, .ptr 0 0), (5, .i n), (7, .i m), (8, .i sg)], zb :: Hx⟩ P := by
  have g1 : ∀ b : Blk, (Hx ++ [b])[Hx.length]? = some b := fun b => by rw [List.getElem?_append_right (Nat.le_refl _)]; simp
  have g2 : ∀ b b' : Blk, (Hx ++ [b]).set Hx.length b' = Hx ++ [b'] := fun b b' => by rw [List.set_append_right _ _ (Nat.le_refl _)]; simp
  have w0 : IntKind.i64.wrap (n - 1) = n - 1 := wrap64 (by omega) (by omega)
  have w1 : IntKind.i64.wrap (1 - n) = 1 - n := wrap64 (by omega) (by omega)
  have w2 : IntKind.i64.wrap (-(n - 1)) = 1 - n := by rw [show -(n - 1) = 1 - n by omega]; exact w1
  have w3 : IntKind.i64.wrap (-1 * (n - 1)) = 1 - n := by rw [show -1 * (n - 1) = 1 - n by omega]; exact w1
  have w4 : IntKind.i64.wrap 1 = 1 := rfl
  have w5 : IntKind.i64.wrap 3 = 3 := rfl
  have hI : isI a m := ⟨⟨by omega, by omega⟩, hm⟩
  have gz : ∀ {α : Type} (b : α) (l : List α), (b :: l)[0]? = some b := fun _ _ => rfl
  apply X_loop_of
  · simp only [loopN, Tryz.f6, loopsOf, List.nil_append, List.append_nil, List.cons_append, List.getD_cons_succ, List.getD_cons_zero]; rfl
  rcases hsg with ⟨rfl, rfl, rfl⟩ | ⟨rfl, rfl, rfl⟩
  · by_cases ht : textZ (1 - n) m = s
    · simp [-Int.not_lt, -Int.not_le, -getElem?_pos, List.getElem?_cons_succ, w0, w1, w2, w3, w4, w5, g1, g2, gz, zT6_eq, zF11, hI, ht]
      simpa using hp ht _
    · simp [-Int.not_lt, -Int.not_le, -getElem?_pos, List.getElem?_cons_succ, w0, w1, w2, w3, w4, w5, g1, g2, gz, zT6_eq, zF11, hI, ht]
      refine X_keep (hx ht _) ?_
      simp
  · by_cases ht : textZ (n - 1) m = s
    · simp [-Int.not_lt, -Int.not_le, -getElem?_pos, List.getElem?_cons_succ, w0, w1, w2, w3, w4, w5, g1, g2, gz, zT6_eq, zF11, hI, ht]
      simpa using hp ht _
    · simp [-Int.not_lt, -Int.not_le, -getElem?_pos, List.getElem?_cons_succ, w0, w1, w2, w3, w4, w5, g1, g2, gz, zT6_eq, zF11, hI, ht]
      refine X_keep (hx ht _) ?_
      simp
theorem loop6c {F : List Fr} {P : SV × List Blk → Prop} (s : Bs) (n : Int) (hn : 1 ≤ n ∧ n ≤ 78) : ∀ (r : Nat) (Hx : List Blk), r ≤ 281 →
    (∀ i, (candL n r).find? (fun i => decide (textZ i.1 i.2 = s)) = some i → ∀ H', P (.tuple [I2 i.1 i.2, .i 0], H')) →
    ((candL n r).find? (fun i => decide (textZ i.1 i.2 = s)) = none → ∀ Hx', X Y zT6 [.cell 2 23, .tmp 3] F (.exit 4) ⟨mk 83 .J [(2, .ptr 0 0)], zb :: Hx'⟩ P) →
    X Y zT6 [.cell 2 23, .tmp 3] F (.loop (loopN Tryz.f6 2)) ⟨mk 83 .J [(0, .str s), (2, .ptr 0 0), (5, .i n), (7, .i (141 - (r : Int)))], zb :: Hx⟩ P := by
  intro r
  induction r with
  | zero =>
    intro Hx hr hp hx
    apply X_loop_of
    · simp only [loopN, Tryz.f6, loopsOf, List.nil_append, List.append_nil, List.cons_append, List.getD_cons_succ, List.getD_cons_zero]; rfl
    simp
    refine X_keep (hx rfl Hx) ?_
    simp
  | succ r ih =>
    intro Hx hr hp hx
    have e1 : (141 : Int) - ((r + 1 : Nat) : Int) = 140 - r := by omega
    have q1 : (140 : Int) - r ≤ 140 := by omega
    have w1 : IntKind.i64.wrap (140 - (r : Int) + 1) = 141 - r := by rw [show (140 : Int) - r + 1 = 141 - r by omega]; exact wrap64 (by omega) (by omega)
    simp only [candL] at hp hx
    rw [e1]
    apply X_loop_of
    · simp only [loopN, Tryz.f6, loopsOf, List.nil_append, List.append_nil, List.cons_append, List.getD_cons_succ, List.getD_cons_zero]; rfl
    simp [-Int.natCast_add, -Int.not_lt, -Int.not_le, q1]
    refine X_keep (in6 s n hn (140 - r) (by omega) Hx (-1) (1 - n) 1 (.inl ⟨rfl, rfl, rfl⟩) (fun ht H' => ?_) (fun ht Hx1 => ?_)) ?_
    · exact hp (1 - n, 140 - (r : Int)) (by rw [List.find?_cons]; simp [ht]) H'
    · refine in6 s n hn (140 - r) (by omega) Hx1 1 (n - 1) 3 (.inr ⟨rfl, rfl, rfl⟩) (fun ht2 H' => ?_) (fun ht2 Hx2 => ?_)
      · exact hp (n - 1, 140 - (r : Int)) (by rw [List.find?_cons]; simp only [ht, decide_false]; rw [List.find?_cons]; simp [ht2]) H'
      · apply X_loop_of
        · simp only [loopN, Tryz.f6, loopsOf, List.nil_append, List.append_nil, List.cons_append, List.getD_cons_succ, List.getD_cons_zero]; rfl
        simp [-Int.natCast_add, -Int.not_lt, -Int.not_le, w1]
        refine X_keep (ih Hx2 (by omega) (fun i hi H' => hp i (by rw [List.find?_cons]; simp only [ht, decide_false]; rw [List.find?_cons]; simp only [ht2, decide_false]; exact hi) H') (fun hi Hx' => hx (by rw [List.find?_cons]; simp only [ht, decide_false]; rw [List.find?_cons]; simp only [ht2, decide_false]; exact hi) Hx')) ?_
        simp [-Int.natCast_add]
    · simp [-Int.natCast_add]
theorem zx6 (s : Bs) (hs : s.length ≤ 400) : XFn Y zT6 Tryz.f6 [.str s] [] (Is (piV (rz s))) := by
  unfold XFn Tryz.f6
  rw [enter_1 _ (by decide)]
  unfold rz
  by_cases h0 : s = []
  · simp [h0]
  by_cases h1 : 300 < s.length
  · have h1' : (300 : Int) < (s.length : Int) := by omega
    simp [-Int.not_lt, -Int.not_le, h0, h1, h1']
  have h1' : ¬ (300 : Int) < (s.length : Int) := by omega
  have ht := atR_tail s s.length (Nat.le_refl _)
  have hle := atR_le s s.length
  rw [List.take_length] at ht
  rw [if_neg h0, if_neg h1]
  simp [-Int.not_lt, -Int.not_le, h0, h1']
  refine X_keep (loop6a s hs s.length (Nat.le_refl _) ?_) ?_
  · simp [-Int.not_lt, -Int.not_le]
    refine X_keep (loop6b s hs (s.length - atR s s.length) (atR s s.length) 0 (by omega) (by omega) (fun b hb => tail_digits (s := s) b (by rw [← ht]; exact hb)) ?_) ?_
    · rw [ht]
      generalize numR 0 (tailD s) = n
      by_cases c1 : n < 1
      · simp [-Int.not_lt, -Int.not_le, c1]
      · by_cases c2 : 78 < n
        · simp [-Int.not_lt, -Int.not_le, c1, c2]
        · rw [if_neg (by rintro (h | h) <;> contradiction)]
          simp [-Int.not_lt, -Int.not_le, c1, c2]
          refine X_keep (loop6c s n (by omega) 281 [] (by omega) (fun i hi H' => ?_) (fun hi Hx' => ?_)) ?_
          · have : candR n = candL n 281 := rfl
            rw [this, hi]
            simp
          · have : candR n = candL n 281 := rfl
            rw [this, hi]
            simp
          · simp
    · simp
  · simp
def zF6 : List SV → Option SV
  | [.pv (.str s)] => if s.length ≤ 400 then some (piV (rz s)) else none
  | _ => none
theorem zmeets6 (W0 : World) : OkAt W0 6 zF6 := meets_fn env (tok_cons (zmeets11 W0) tok_nil) mixed Tryz.func6 (by kernel_rfl) (by kernel_rfl) fun args r h => by
  unfold zF6 at h
  split at h
  · split at h
    · rename_i hc; cases h; exact zx6 _ hc
    · cases h
  · cases h
end Go.Proofs.YtmmpjnjdddaldaaGreatDoor
