/- The reference's decimal and Text, by the machine. -/
import Derived.Test.YtooajpojikkkdaaDoorParseB
set_option linter.unusedSimpArgs false
set_option linter.unusedVariables false
set_option maxRecDepth 1000000
set_option maxHeartbeats 400000
namespace Go.Proofs.YtooajpojikkkdaaDoor
open Go Go.Pm Go.RowKit
def F52 (k : Nat) : List SV → Option SV
  | [.pv (.int .i64 n)] => if k ≠ 0 ∧ 0 ≤ n ∧ n < 100 ∧ (k = 1 → n < 10) then some (.str (d100 n.toNat)) else none
  | _ => none
theorem F52_zero (args : List SV) : F52 0 args = none := by
  unfold F52
  split
  · simp
  · rfl
theorem none_meetsF (W0 : World) (f : Nat) (F : List SV → Option SV) (hF : ∀ args, F args = none) : Meets Tryd.prog W0 f (specFn (.pure false F)) := by
  intro C args vs r H' h
  exfalso
  simp only [specFn] at h
  split at h
  · rw [hF] at h; cases h
  · cases h
noncomputable def T52 (k : Nat) : FuncId → Option Pm.Spec := tab [(52, .pure false (F52 k))]
theorem T52_eq (k g : Nat) : T52 k g = tab [(52, .pure false (F52 k))] g := rfl
theorem u8_digit : ∀ n : Nat, n < 10 → ((48 + n : Nat) : Int).toNat.toUInt8 = UInt8.ofNat (48 + n) ∧ IntKind.u8.wrap (48 + (n : Int)) = ((48 + n : Nat) : Int) := by decide +kernel
theorem u8_dig2 : ∀ n : Nat, n < 10 → UInt8.ofNat (48 + (n : Int)).toNat = 48 + UInt8.ofNat n := by decide +kernel
theorem x52 (k : Nat) (n : Int) (h0 : 0 ≤ n) (h1 : n < 100) (h2 : k = 0 → n < 10) : XFn Y (T52 k) Tryd.f52 [.i n] [] (Is (.str (d100 n.toNat))) := by
  unfold XFn Tryd.f52
  rw [enter_1 _ (by decide)]
  obtain ⟨m, rfl⟩ : ∃ m : Nat, n = m := ⟨n.toNat, by omega⟩
  unfold d100
  simp only [Int.toNat_natCast]
  have dg : ∀ j : Nat, j < 10 → IntKind.i64.wrap (48 + (j : Int)) = 48 + (j : Int) := fun j hj => wrap64 (by omega) (by omega)
  by_cases h3 : m < 10
  · have h3' : (m : Int) < 10 := by omega
    obtain ⟨d1, d2⟩ := u8_digit m h3
    rw [if_pos h3]
    simp [-Int.not_lt, -Int.not_le, h3', dg m h3, d2, d1, bytesOf]
    exact u8_dig2 m h3
  · have h3' : ¬ (m : Int) < 10 := by omega
    rw [if_neg h3]
    have hk : k ≠ 0 := fun e => by have := h2 e; omega
    have t1 : (m : Int).tdiv 10 = ((m / 10 : Nat) : Int) := rfl
    have t2 : (m : Int).tmod 10 = ((m % 10 : Nat) : Int) := rfl
    have w1 : IntKind.i64.wrap ((m / 10 : Nat) : Int) = ((m / 10 : Nat) : Int) := wrap64 (by omega) (by omega)
    obtain ⟨d1, d2⟩ := u8_digit (m % 10) (by omega)
    have w2 := dg (m % 10) (by omega)
    have hF : F52 k [.i ((m / 10 : Nat) : Int)] = some (.str [UInt8.ofNat (48 + m / 10)]) := by
      show (if k ≠ 0 ∧ (0 : Int) ≤ ((m / 10 : Nat) : Int) ∧ ((m / 10 : Nat) : Int) < 100 ∧ (k = 1 → ((m / 10 : Nat) : Int) < 10) then some (SV.str (d100 (((m / 10 : Nat) : Int)).toNat)) else none) = _
      rw [if_pos ⟨hk, by omega, by omega, fun _ => by omega⟩, Int.toNat_natCast, d100, if_pos (by omega)]
    have d3 := u8_dig2 (m % 10) (by omega)
    generalize m / 10 = a at *
    generalize m % 10 = b at *
    simp [-Int.not_lt, -Int.not_le, -Int.natCast_ediv, -Int.natCast_emod, h3', t1, t2, w1, T52_eq, hF, w2, d2, d1, bytesOf]
    exact d3
theorem meets52 (W0 : World) : ∀ k, OkAt W0 52 (F52 k)
  | 0 => ⟨enterable_of Tryd.func52 (by kernel_rfl), none_meetsF W0 52 _ F52_zero⟩
  | k + 1 => meets_fn env (tok_cons (meets52 W0 k) tok_nil) mixed Tryd.func52 (by kernel_rfl) (by kernel_rfl) fun args r h => by
    unfold F52 at h
    split at h
    · split at h
      · rename_i hc
        cases h
        exact x52 k _ hc.2.1 hc.2.2.1 fun e => hc.2.2.2 (by omega)
      · cases h
    · cases h
noncomputable def T34 : FuncId → Option Pm.Spec := tab [(52, .pure false (F52 2))]
theorem T34_eq (g : Nat) : T34 g = tab [(52, .pure false (F52 2))] g := rfl
theorem F52_ok {n : Int} (h0 : 0 ≤ n) (h1 : n < 100) : F52 2 [.i n] = some (.str (d100 n.toNat)) := by
  show (if _ then _ else _) = _
  rw [if_pos ⟨by decide, h0, h1, fun e => by cases e⟩]
/-- The groups written one behind the other. -/
def strT : List Int → Nat → List UInt8 → List UInt8
  | [], _, s => s
  | g :: r, m, s => if 0 < g then strT r (m + 1) (if m = 0 then d100 g.toNat else s ++ [43] ++ d100 g.toNat) else s
theorem loop34 {F : List Fr} {P : SV × List Blk → Prop} {rs : List ResultVar} {H : List Blk} (c u g0 g1 g2 g3 g4 g5 : Int) (hH : H[0]? = some (.box (M8 c u g0 g1 g2 g3 g4 g5))) (h100 : ∀ g ∈ [g0, g1, g2, g3, g4, g5], g < 100) : ∀ (r m : Nat) (s : List UInt8), m + r = 6 → s.length ≤ 3 * m + 2 →
    (X Y T34 rs F (.exit 0) ⟨mk 39 .J [(1, .ptr 0 0), (3, .str (strT ([g0, g1, g2, g3, g4, g5].drop m) m s))], H⟩ P) →
    X Y T34 rs F (.loop (loopN Tryd.f34 0)) ⟨mk 39 .J [(1, .ptr 0 0), (3, .str s), (4, .i (m : Nat))], H⟩ P := by
  intro r
  induction r with
  | zero =>
    intro m s e hl hx
    have e1 : m = 6 := by omega
    subst e1
    apply X_loop_of
    · simp only [loopN, Tryd.f34, loopsOf, List.nil_append, List.append_nil, List.cons_append, List.getD_cons_succ, List.getD_cons_zero]; rfl
    simp
    refine X_keep hx ?_
    simp [strT]
  | succ r ih =>
    intro m s e hl hx
    have hm : m < 6 := by omega
    have hg := m8_at c u g0 g1 g2 g3 g4 g5 hm
    have h1 : gAt g0 g1 g2 g3 g4 g5 m < 100 := h100 _ (by
      have := g6_drop g0 g1 g2 g3 g4 g5 hm
      exact List.mem_of_mem_drop (i := m) (by rw [this]; simp))
    rw [g6_drop g0 g1 g2 g3 g4 g5 hm] at hx
    generalize gAt g0 g1 g2 g3 g4 g5 m = g at *
    rw [strT] at hx
    have q2 : ((m : Int) < 6) := by omega
    have q3 := next_i (m := m) (by omega)
    have m2 : 2 + m ≤ 7 := by omega
    have wr1 : IntKind.i64.wrap 1 = 1 := rfl
    have gz : ∀ {α : Type} (b : α) (l : List α), (b :: l)[0]? = some b := fun _ _ => rfl
    apply X_loop_of
    · simp only [loopN, Tryd.f34, loopsOf, List.nil_append, List.append_nil, List.cons_append, List.getD_cons_succ, List.getD_cons_zero]; rfl
    by_cases hp : 0 < g
    · have hF := F52_ok (n := g) (by omega) h1
      rw [if_pos hp] at hx
      have dl := d100_len g.toNat
      by_cases hm0 : m = 0
      · subst hm0
        rw [if_pos rfl] at hx
        simp at hg
        subst hg
        simp [-Int.natCast_add, -Int.not_lt, -Int.not_le, q2, hH, hp, T34_eq, hF, wr1]
        refine X_keep (ih 1 _ (by omega) (by omega) hx) ?_
        simp
      · rw [if_neg hm0] at hx
        have w1 : s.length + 1 ≤ 4611686018427387904 := by omega
        have w2 : s.length + 1 + (d100 g.toNat).length ≤ 4611686018427387904 := by omega
        simp [-Int.natCast_add, -Int.not_lt, -Int.not_le, -getElem?_pos, q2, q3, hH, hg, hp, T34_eq, hF, hm0, m2, w1, w2, gz]
        refine X_keep (ih (m + 1) _ (by omega) (by simp; omega) hx) ?_
        simp [-Int.natCast_add]
    · rw [if_neg hp] at hx
      simp [-Int.natCast_add, -Int.not_lt, -Int.not_le, -getElem?_pos, q2, q3, hH, hg, hp, T34_eq, m2, gz]
      refine X_keep hx ?_
      simp
theorem strT_len : ∀ (l : List Int) (m : Nat) (s : List UInt8), (strT l m s).length ≤ s.length + 3 * l.length + 2
  | [], m, s => by simp [strT]
  | g :: r, m, s => by
    rw [strT]
    have dl := d100_len g.toNat
    split
    · by_cases h : m = 0
      · rw [if_pos h]
        have := strT_len r (m + 1) (d100 g.toNat)
        simp only [List.length_cons]; omega
      · rw [if_neg h]
        have := strT_len r (m + 1) (s ++ [43] ++ d100 g.toNat)
        simp only [List.length_cons, List.length_append, List.length_nil] at this ⊢; omega
    · simp only [List.length_cons]; omega
theorem strT_text {c u g0 g1 g2 g3 g4 g5 : Int} (h : okM c u [g0, g1, g2, g3, g4, g5]) : strT [g0, g1, g2, g3, g4, g5] 0 (d100 c.toNat) ++ [47] ++ d100 u.toNat = textZ c u [g0, g1, g2, g3, g4, g5] := by
  unfold textZ
  congr 2
  by_cases hz : g0 = 0
  · have hz' : [g0, g1, g2, g3, g4, g5] = [0, 0, 0, 0, 0, 0] := by
      rcases grp_first h.2.2 with e | e
      · exact e
      · omega
    rw [hz']
    simp [strT, txs, Lib.join_one]
  · obtain ⟨n, hn, hp, hzz, hg⟩ := grp_shape h rfl (by simpa using hz)
    obtain ⟨f1, _, _, _⟩ := grpL_facts h rfl
    rw [hg] at f1
    rcases (by omega : n = 2 ∨ n = 3 ∨ n = 4 ∨ n = 5 ∨ n = 6) with rfl | rfl | rfl | rfl | rfl
    · have z2 := hzz 2 (by omega); have z3 := hzz 3 (by omega); have z4 := hzz 4 (by omega); have z5 := hzz 5 (by omega)
      simp at z2 z3 z4 z5 f1
      subst z2 z3 z4 z5
      have p0 : 0 < g0 := by omega
      have p1 : 0 < g1 := by omega
      simp [strT, txs, p0, p1, Lib.join, List.intercalate]
    · have z3 := hzz 3 (by omega); have z4 := hzz 4 (by omega); have z5 := hzz 5 (by omega)
      simp at z3 z4 z5 f1
      subst z3 z4 z5
      have p0 : 0 < g0 := by omega
      have p1 : 0 < g1 := by omega
      have p2 : 0 < g2 := by omega
      simp [strT, txs, p0, p1, p2, Lib.join, List.intercalate]
    · have z4 := hzz 4 (by omega); have z5 := hzz 5 (by omega)
      simp at z4 z5 f1
      subst z4 z5
      have p0 : 0 < g0 := by omega
      have p1 : 0 < g1 := by omega
      have p2 : 0 < g2 := by omega
      have p3 : 0 < g3 := by omega
      simp [strT, txs, p0, p1, p2, p3, Lib.join, List.intercalate]
    · have z5 := hzz 5 (by omega)
      simp at z5 f1
      subst z5
      have p0 : 0 < g0 := by omega
      have p1 : 0 < g1 := by omega
      have p2 : 0 < g2 := by omega
      have p3 : 0 < g3 := by omega
      have p4 : 0 < g4 := by omega
      simp [strT, txs, p0, p1, p2, p3, p4, Lib.join, List.intercalate]
    · simp at f1
      have p0 : 0 < g0 := by omega
      have p1 : 0 < g1 := by omega
      have p2 : 0 < g2 := by omega
      have p3 : 0 < g3 := by omega
      have p4 : 0 < g4 := by omega
      have p5 : 0 < g5 := by omega
      simp [strT, txs, p0, p1, p2, p3, p4, p5, Lib.join, List.intercalate]
theorem x34 (c u g0 g1 g2 g3 g4 g5 : Int) (h : okM c u [g0, g1, g2, g3, g4, g5]) : XFn Y T34 Tryd.f34 [.agg (M8 c u g0 g1 g2 g3 g4 g5)] [] (Is (.str (textZ c u [g0, g1, g2, g3, g4, g5]))) := by
  unfold XFn Tryd.f34
  rw [enter_1 _ (by decide)]
  have hc := h.1
  have hu : 0 ≤ u ∧ u < 100 := by rcases uOk_cases h.2.1 with rfl | rfl | rfl | rfl | rfl | rfl | rfl <;> decide
  have hs := okM_small h
  have k1 := F52_ok (n := c) (by omega) (by omega)
  have k2 := F52_ok hu.1 hu.2
  have dl := d100_len c.toNat
  have du := d100_len u.toNat
  simp [-Int.not_lt, -Int.not_le, T34_eq, k1]
  refine X_keep (loop34 c u g0 g1 g2 g3 g4 g5 rfl hs 6 0 (d100 c.toNat) (by omega) (by omega) ?_) ?_
  · rw [List.drop_zero, ← strT_text h]
    have ls := strT_len [g0, g1, g2, g3, g4, g5] 0 (d100 c.toNat)
    simp only [List.length_cons, List.length_nil] at ls
    generalize strT [g0, g1, g2, g3, g4, g5] 0 (d100 c.toNat) = t at *
    have w1 : t.length + 1 ≤ 4611686018427387904 := by omega
    have w2 : t.length + 1 + (d100 u.toNat).length ≤ 4611686018427387904 := by omega
    simp [-Int.not_lt, -Int.not_le, T34_eq, k2, w1, w2]
  · simp
def F34 : List SV → Option SV := F48
theorem meets34 (W0 : World) : OkAt W0 34 F34 := meets_fn env (tok_cons (meets52 W0 2) tok_nil) mixed Tryd.func34 (by kernel_rfl) (by kernel_rfl) fun args r h => by
  unfold F34 F48 at h
  split at h
  · split at h
    · cases h; rename_i hu; exact x34 _ _ _ _ _ _ _ _ hu
    · cases h
  · cases h
end Go.Proofs.YtooajpojikkkdaaDoor
