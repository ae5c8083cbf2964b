/- Time signatures: the levels of the reference, by the machine. -/
import Derived.Test.YtooajpojikkkdaaDoorMetreC
set_option linter.unusedSimpArgs false
set_option linter.unusedVariables false
set_option maxRecDepth 1000000
set_option maxHeartbeats 400000
namespace Go.Proofs.YtooajpojikkkdaaDoor
open Go Go.Pm
/-- All like the first one, and an even number of them. -/
def eqB (l : List Int) : Bool := (l.drop 1).all (fun x => x == l.getD 0 0) && decide (l.length % 2 = 0)
theorem row_at {l : List Int} {m : Nat} (hm : m < l.length) : (rowI l)[m]? = some [.int .i64 (l.getD m 0)] := by
  rw [rowI_get]; simp [hm]
theorem loop43 {F : List Fr} {P : SV × List Blk → Prop} (l : List Int) (h1 : 1 ≤ l.length) (hl : l.length ≤ 100000) : ∀ (r m : Nat), m + r = l.length → 1 ≤ m →
    (((l.drop m).all (fun x => x == l.getD 0 0) = true → X Y T0 [.tmp 2] F (.exit 0) ⟨mk 22 .J [(0, .pv (.slice 1 (rowI l)))], []⟩ P) ∧ ((l.drop m).all (fun x => x == l.getD 0 0) = false → P (.bool false, []))) →
    X Y T0 [.tmp 2] F (.loop (loopN Tryd.f43 0)) ⟨mk 22 .J [(0, .pv (.slice 1 (rowI l))), (3, .i (m : Nat))], []⟩ P := by
  intro r
  induction r with
  | zero =>
    intro m e hm hx
    have q2 : ¬ (m : Int) < (l.length : Int) := by omega
    rw [List.drop_eq_nil_of_le (by omega)] at hx
    apply X_loop_of
    · simp only [loopN, Tryd.f43, loopsOf, List.nil_append, List.append_nil, List.cons_append, List.getD_cons_succ, List.getD_cons_zero]; rfl
    simp [-Int.not_lt, -Int.not_le, rowI_len, q2]
    refine X_keep (hx.1 rfl) ?_
    simp
  | succ r ih =>
    intro m e hm hx
    have hml : m < l.length := by omega
    have q2 : (m : Int) < (l.length : Int) := by omega
    have q3 : IntKind.i64.wrap ((m : Int) + 1) = ((m + 1 : Nat) : Int) := by rw [show ((m : Int) + 1) = ((m + 1 : Nat) : Int) by omega]; exact wrap64 (by omega) (by omega)
    have r1 := row_at hml
    have r2 := row_at (l := l) (m := 0) (by omega)
    have e1 : l.drop m = l.getD m 0 :: l.drop (m + 1) := by rw [List.drop_eq_getElem_cons hml]; simp [hml]
    rw [e1, List.all_cons] at hx
    generalize l.getD m 0 = g at *
    generalize l.getD 0 0 = g0 at *
    apply X_loop_of
    · simp only [loopN, Tryd.f43, loopsOf, List.nil_append, List.append_nil, List.cons_append, List.getD_cons_succ, List.getD_cons_zero]; rfl
    simp [-Int.natCast_add, -Int.not_lt, -Int.not_le, q2, q3, r1, r2, rowI_len, -getElem?_pos]
    refine ⟨fun h => ?_, fun h => ?_⟩
    · subst h
      refine X_keep (ih (m + 1) (by omega) (by omega) (by simpa using hx)) ?_
      simp
    · exact hx.2 (by simp [h])
theorem x43 (l : List Int) (h1 : 1 ≤ l.length) (hl : l.length ≤ 100000) : XFn Y T0 Tryd.f43 [.pv (.slice 1 (rowI l))] [] (Is (.bool (eqB l))) := by
  unfold XFn Tryd.f43
  rw [enter_1 _ (by decide)]
  simp
  refine X_keep (loop43 l h1 hl (l.length - 1) 1 (by omega) (by omega) ⟨fun h => ?_, fun h => ?_⟩) ?_
  · have c2 : ((l.length : Int)).tmod 2 = ((l.length % 2 : Nat) : Int) := by rw [Int.tmod_eq_emod_of_nonneg (by omega)]; omega
    simp [-Int.natCast_emod, rowI_len, c2]
    unfold eqB
    rw [h, Bool.true_and]
    by_cases h2 : l.length % 2 = 0
    · simp [h2]
    · simp [h2]; omega
  · have e : eqB l = false := by unfold eqB; rw [h]; rfl
    simp [e]
  · simp
/-- A list of ints as the interpreter has it. -/
def unrow : List (List PV) → Option (List Int)
  | [] => some []
  | [.int .i64 n] :: r => (unrow r).map (n :: ·)
  | _ => none
theorem unrow_eq : ∀ {es : List (List PV)} {l : List Int}, unrow es = some l → es = rowI l
  | [], l, h => by simp [unrow] at h; subst h; rfl
  | e :: r, l, h => by
    unfold unrow at h
    split at h
    · rename_i h0; cases h0
    · rename_i n r' h0
      cases h0
      cases hr : unrow r with
      | none => simp [hr] at h
      | some l' =>
        simp [hr] at h
        subst h
        rw [unrow_eq hr]; rfl
    · cases h
theorem unrow_row : ∀ (l : List Int), unrow (rowI l) = some l
  | [] => rfl
  | n :: r => by
    show (unrow (rowI r)).map (n :: ·) = _
    rw [unrow_row r]; rfl
def F43 : List SV → Option SV
  | [.pv (.slice 1 es)] => match unrow es with
    | some l => if 1 ≤ l.length ∧ l.length ≤ 100000 then some (.bool (eqB l)) else none
    | none => none
  | _ => none
theorem meets43 (W0 : World) : OkAt W0 43 F43 := meets_fn env tok_nil mixed Tryd.func43 (by kernel_rfl) (by kernel_rfl) fun args r h => by
  unfold F43 at h
  split at h
  · split at h
    · rename_i l hu
      split at h
      · cases h; rename_i hl; rw [unrow_eq hu]; exact x43 l hl.1 hl.2
      · cases h
    · cases h
  · cases h
/-- The beat of a tick and its offset: the last onset that is not behind it. -/
def atL (t : Int) : List Int → Int → Int × Int → Int × Int
  | [], _, r => r
  | b :: l, i, r => if b ≤ t then atL t l (i + 1) (i, t - b) else r
noncomputable def T42 : FuncId → Option Pm.Spec := tab [(20, .pure false F20), (29, .pure false F29)]
theorem T42_eq (g : Nat) : T42 g = tab [(20, .pure false F20), (29, .pure false F29)] g := rfl
theorem tok42 (W0 : World) : TOk Tryd.prog W0 T42 := tok_cons (meets20 W0) (tok_cons (meets29 W0) tok_nil)
theorem loop42 {F : List Fr} {P : SV × List Blk → Prop} {rs : List ResultVar} {H : List Blk} (bs : List Int) (t : Int) (ht : 0 ≤ t ∧ t ≤ 123863040) (hb : ∀ b ∈ bs, 0 ≤ b ∧ b ≤ 123863040) (hl : bs.length ≤ 64) : ∀ (r m : Nat) (x y : Int), m + r = bs.length →
    X Y T42 rs F (.exit 0) ⟨mk 38 .J [(4, .i (atL t (bs.drop m) m (x, y)).1), (5, .i (atL t (bs.drop m) m (x, y)).2)], H⟩ P →
    X Y T42 rs F (.loop (loopN Tryd.f42 0)) ⟨mk 38 .J [(4, .i x), (5, .i y), (6, .i t), (7, .pv (.slice 1 (rowI bs))), (8, .i (m : Nat))], H⟩ P := by
  intro r
  induction r with
  | zero =>
    intro m x y e hx
    have q2 : ¬ (m : Int) < (bs.length : Int) := by omega
    rw [List.drop_eq_nil_of_le (by omega)] at hx
    apply X_loop_of
    · simp only [loopN, Tryd.f42, loopsOf, List.nil_append, List.append_nil, List.cons_append, List.getD_cons_succ, List.getD_cons_zero]; rfl
    simp [-Int.not_lt, -Int.not_le, rowI_len, q2]
    refine X_keep hx ?_
    simp [atL]
  | succ r ih =>
    intro m x y e hx
    have hml : m < bs.length := by omega
    have q2 : (m : Int) < (bs.length : Int) := by omega
    have q3 : IntKind.i64.wrap ((m : Int) + 1) = ((m + 1 : Nat) : Int) := by rw [show ((m : Int) + 1) = ((m + 1 : Nat) : Int) by omega]; exact wrap64 (by omega) (by omega)
    have r1 := row_at hml
    have e1 : bs.drop m = bs.getD m 0 :: bs.drop (m + 1) := by rw [List.drop_eq_getElem_cons hml]; simp [hml]
    have hgb : 0 ≤ bs.getD m 0 ∧ bs.getD m 0 ≤ 123863040 := hb _ (by simp [hml])
    rw [e1] at hx
    generalize bs.getD m 0 = g at *
    have q4 : IntKind.i64.wrap (t - g) = t - g := wrap64 (by omega) (by omega)
    apply X_loop_of
    · simp only [loopN, Tryd.f42, loopsOf, List.nil_append, List.append_nil, List.cons_append, List.getD_cons_succ, List.getD_cons_zero]; rfl
    simp [-Int.natCast_add, -Int.not_lt, -Int.not_le, q2, q3, q4, r1, rowI_len, -getElem?_pos]
    refine ⟨fun h => ?_, fun h => ?_⟩
    · rw [atL, if_pos h, show (m : Int) + 1 = ((m + 1 : Nat) : Int) by omega] at hx
      refine X_keep (ih (m + 1) _ _ (by omega) hx) ?_
      simp
    · rw [atL, if_neg h] at hx
      refine X_keep hx ?_
      simp
theorem onsets_range (q : Int) (hq : 0 ≤ q) : ∀ (l : List Int) (a : Int), (∀ g ∈ l, 1 ≤ g ∧ g ≤ 64) → ∀ b ∈ onsets q a l, a ≤ b ∧ b ≤ a + l.sum * q
  | [], a, _, b, h => by simp [onsets] at h
  | g :: r, a, hl, b, h => by
    have hg := hl g (by simp)
    have hr := sum_nonneg (l := r) fun x hx => hl x (by simp [hx])
    have e : (g + r.sum) * q = g * q + r.sum * q := Int.add_mul _ _ _
    have h1 : 0 ≤ g * q := Int.mul_nonneg (by omega) hq
    have h2 : 0 ≤ r.sum * q := Int.mul_nonneg hr hq
    simp only [List.sum_cons, e]
    rcases List.mem_cons.1 h with rfl | h
    · omega
    · have := onsets_range q hq r (a + g * q) (fun x hx => hl x (by simp [hx])) b h
      omega
theorem beatsZ_facts {c u : Int} {gs : List Int} (h : okM c u gs) (h6 : gs.length = 6) : (∀ b ∈ beatsZ c u gs, 0 ≤ b ∧ b ≤ 123863040) ∧ (beatsZ c u gs).length ≤ 64 ∧ 1 ≤ (beatsZ c u gs).length := by
  obtain ⟨f1, f2, f3, f4⟩ := grpL_facts h h6
  have hr := unitZ_range h.2.1
  have hl := lenZ_range h.1 h.2.1
  refine ⟨fun b hb => ?_, by rw [beatsZ, onsets_len]; exact f3, by rw [beatsZ, onsets_len]; cases hg : grpL c u gs <;> simp_all⟩
  have := onsets_range (unitZ u) (by omega) _ 0 f1 b hb
  rw [f2] at this
  unfold lenZ at hl
  omega
/-- The tick within its measure. -/
def inM (c u : Int) (a : Int) : Int := a % lenZ c u
theorem inM_range {c u a : Int} (hc : 1 ≤ c ∧ c ≤ 64) (hu : uOk u = true) : 0 ≤ inM c u a ∧ inM c u a ≤ 123863040 ∧ inM c u a < lenZ c u := by
  have := lenZ_range hc hu
  have h1 := Int.emod_nonneg a (b := lenZ c u) (by omega)
  have h2 := Int.emod_lt_of_pos a (b := lenZ c u) (by omega)
  unfold inM; omega
def atZ (c u : Int) (gs : List Int) (a : Int) : Int × Int := atL (inM c u a) (beatsZ c u gs) 0 (0, 0)
theorem x42 (c u g0 g1 g2 g3 g4 g5 a : Int) (h : okM c u [g0, g1, g2, g3, g4, g5]) (ha : 0 ≤ a) : XFn Y T42 Tryd.f42 [.agg (M8 c u g0 g1 g2 g3 g4 g5), .i a] [] (Is (.tuple [.i (atZ c u [g0, g1, g2, g3, g4, g5] a).1, .i (atZ c u [g0, g1, g2, g3, g4, g5] a).2])) := by
  unfold XFn Tryd.f42
  rw [enter_2 _ (by decide)]
  have hl := lenZ_range h.1 h.2.1
  have h0 : lenZ c u ≠ 0 := by omega
  have e1 : a.tmod (lenZ c u) = inM c u a := Int.tmod_eq_emod_of_nonneg ha
  obtain ⟨b1, b2, b3⟩ := beatsZ_facts h rfl
  have hm := inM_range (a := a) h.1 h.2.1
  simp [T42_eq, F20, F29, h, h.1, h.2.1, h0, e1]
  refine X_keep (loop42 _ (inM c u a) (by omega) b1 b2 (beatsZ c u [g0, g1, g2, g3, g4, g5]).length 0 0 0 (by rw [Nat.zero_add]) ?_) ?_
  · simp [atZ]
  · simp
def F42 : List SV → Option SV
  | [.agg [.pv (.int .i64 c), .pv (.int .i64 u), .pv (.int .i64 g0), .pv (.int .i64 g1), .pv (.int .i64 g2), .pv (.int .i64 g3), .pv (.int .i64 g4), .pv (.int .i64 g5)], .pv (.int .i64 a)] =>
    if okM c u [g0, g1, g2, g3, g4, g5] ∧ 0 ≤ a then some (.tuple [.i (atZ c u [g0, g1, g2, g3, g4, g5] a).1, .i (atZ c u [g0, g1, g2, g3, g4, g5] a).2]) else none
  | _ => none
theorem meets42 (W0 : World) : OkAt W0 42 F42 := meets_fn env (tok42 W0) mixed Tryd.func42 (by kernel_rfl) (by kernel_rfl) fun args r h => by
  unfold F42 at h
  split at h
  · split at h
    · cases h; rename_i hu; exact x42 _ _ _ _ _ _ _ _ _ hu.1 hu.2
    · cases h
  · cases h
/-- The halves of a unit. -/
def qv (u : Int) (k : Nat) : Int := unitZ u / 2 ^ k
def okq (u : Int) (k : Nat) : Prop := qv u k * 2 ^ k = unitZ u ∧ 7560 ≤ qv u k
instance (u : Int) (k : Nat) : Decidable (okq u k) := inferInstanceAs (Decidable (_ ∧ _))
def subZ (u t : Int) : Nat → Nat → Int
  | 0, _ => 15
  | r + 1, k => if okq u k ∧ t % qv u k = 0 then 3 + k else subZ u t r (k + 1)
def levelZ (c u : Int) (gs : List Int) (a : Int) : Int :=
  if inM c u a = 0 then 0 else if 2 * inM c u a = lenZ c u ∧ eqB (grpL c u gs) = true then 1 else if (atZ c u gs a).2 = 0 then 2 else subZ u (inM c u a) 9 0
theorem shr_u {u : Int} (hu : uOk u = true) {k : Nat} (hk : k < 9) : aShift .shr .i64 (unitZ u) (k : Nat) = some (.int .i64 (qv u k)) ∧ aShift .shl .i64 (qv u k) (k : Nat) = some (.int .i64 (qv u k * 2 ^ k)) ∧ 0 < qv u k := by
  have hk' : k = 0 ∨ k = 1 ∨ k = 2 ∨ k = 3 ∨ k = 4 ∨ k = 5 ∨ k = 6 ∨ k = 7 ∨ k = 8 := by omega
  rcases uOk_cases hu with rfl | rfl | rfl | rfl | rfl | rfl | rfl <;> rcases hk' with rfl | rfl | rfl | rfl | rfl | rfl | rfl | rfl | rfl <;> exact ⟨rfl, rfl, by decide⟩
noncomputable def T22 : FuncId → Option Pm.Spec := tab [(20, .pure false F20), (42, .pure false F42), (28, .pure false F28), (43, .pure false F43), (39, .pure false F39)]
theorem T22_eq (g : Nat) : T22 g = tab [(20, .pure false F20), (42, .pure false F42), (28, .pure false F28), (43, .pure false F43), (39, .pure false F39)] g := rfl
theorem tok22 (W0 : World) : TOk Tryd.prog W0 T22 := tok_cons (meets20 W0) (tok_cons (meets42 W0) (tok_cons (meets28 W0) (tok_cons (meets43 W0) (tok_cons (meets39 W0) tok_nil))))
theorem loop22 {F : List Fr} {P : SV × List Blk → Prop} (c u g0 g1 g2 g3 g4 g5 t : Int) (hu : uOk u = true) (ht : 0 ≤ t) : ∀ (r k : Nat), k + r = 9 →
    (subZ u t r k = 15 → X Y T22 [.tmp 4] F (.exit 1) ⟨mk 63 .J [], [.box (M8 c u g0 g1 g2 g3 g4 g5)]⟩ P) →
    (subZ u t r k ≠ 15 → P (.i (subZ u t r k), [.box (M8 c u g0 g1 g2 g3 g4 g5)])) →
    X Y T22 [.tmp 4] F (.loop (loopN Tryd.f22 0)) ⟨mk 63 .J [(2, .ptr 0 0), (5, .i t), (8, .i (k : Nat))], [.box (M8 c u g0 g1 g2 g3 g4 g5)]⟩ P := by
  intro r
  induction r with
  | zero =>
    intro k e hx hp
    have e1 : k = 9 := by omega
    subst e1
    apply X_loop_of
    · simp only [loopN, Tryd.f22, loopsOf, List.nil_append, List.append_nil, List.cons_append, List.getD_cons_succ, List.getD_cons_zero]; rfl
    simp
    refine X_keep (hx rfl) ?_
    simp
  | succ r ih =>
    intro k e hx hp
    have hk : k < 9 := by omega
    have q2 : (k : Int) ≤ 8 := by omega
    have q3 : IntKind.i64.wrap ((k : Int) + 1) = ((k + 1 : Nat) : Int) := by rw [show ((k : Int) + 1) = ((k + 1 : Nat) : Int) by omega]; exact wrap64 (by omega) (by omega)
    have q5 : IntKind.i64.wrap (3 + (k : Int)) = 3 + (k : Int) := wrap64 (by omega) (by omega)
    obtain ⟨s1, s2, s3⟩ := shr_u hu hk
    have h0 : qv u k ≠ 0 := by omega
    have e1 : t.tmod (qv u k) = t % qv u k := Int.tmod_eq_emod_of_nonneg ht
    apply X_loop_of
    · simp only [loopN, Tryd.f22, loopsOf, List.nil_append, List.append_nil, List.cons_append, List.getD_cons_succ, List.getD_cons_zero]; rfl
    by_cases hq : okq u k ∧ t % qv u k = 0
    · rw [subZ, if_pos hq] at hx hp
      have hp' := hp (by omega)
      obtain ⟨⟨a1, a2⟩, a3⟩ := hq
      simp [-Int.natCast_add, -Int.not_lt, -Int.not_le, q2, q3, q5, s1, s2, h0, e1, T22_eq, F39, hu, a1, a2, a3]
      exact hp'
    · rw [subZ, if_neg hq] at hx hp
      have next := ih (k + 1) (by omega) hx hp
      by_cases a1 : qv u k * 2 ^ k = unitZ u
      · by_cases a2 : 7560 ≤ qv u k
        · have a3 : ¬ t % qv u k = 0 := fun h => hq ⟨⟨a1, a2⟩, h⟩
          simp [-Int.natCast_add, -Int.not_lt, -Int.not_le, q2, q3, q5, s1, s2, h0, e1, T22_eq, F39, hu, a1, a2, a3]
          refine X_keep next ?_
          simp
        · simp [-Int.natCast_add, -Int.not_lt, -Int.not_le, q2, q3, q5, s1, s2, h0, e1, T22_eq, F39, hu, a1, a2]
          refine X_keep next ?_
          simp
      · simp [-Int.natCast_add, -Int.not_lt, -Int.not_le, q2, q3, q5, s1, s2, h0, e1, T22_eq, F39, hu, a1]
        refine X_keep next ?_
        simp
theorem x22 (c u g0 g1 g2 g3 g4 g5 a : Int) (h : okM c u [g0, g1, g2, g3, g4, g5]) (ha : 0 ≤ a) : XFn Y T22 Tryd.f22 [.agg (M8 c u g0 g1 g2 g3 g4 g5), .i a] [] (Is (.i (levelZ c u [g0, g1, g2, g3, g4, g5] a))) := by
  unfold XFn Tryd.f22
  rw [enter_2 _ (by decide)]
  have hl := lenZ_range h.1 h.2.1
  have h0 : lenZ c u ≠ 0 := by omega
  have e1 : a.tmod (lenZ c u) = inM c u a := Int.tmod_eq_emod_of_nonneg ha
  obtain ⟨f1, f2, f3, f4⟩ := grpL_facts h rfl
  have hm := inM_range (a := a) h.1 h.2.1
  have e2 : IntKind.i64.wrap (2 * inM c u a) = 2 * inM c u a := wrap64 (by omega) (by omega)
  have f5 : 1 ≤ (grpL c u [g0, g1, g2, g3, g4, g5]).length := by cases hg : grpL c u [g0, g1, g2, g3, g4, g5] <;> simp_all
  have f6 : (grpL c u [g0, g1, g2, g3, g4, g5]).length ≤ 100000 := by omega
  have key : ¬ inM c u a = 0 → ¬ (2 * inM c u a = lenZ c u ∧ eqB (grpL c u [g0, g1, g2, g3, g4, g5]) = true) → ¬ (atZ c u [g0, g1, g2, g3, g4, g5] a).2 = 0 → levelZ c u [g0, g1, g2, g3, g4, g5] a = subZ u (inM c u a) 9 0 := by
    intro h1 h2 h3
    unfold levelZ
    rw [if_neg h1, if_neg h2, if_neg h3]
  have l0 : inM c u a = 0 → levelZ c u [g0, g1, g2, g3, g4, g5] a = 0 := fun h => by unfold levelZ; rw [if_pos h]
  have l1 : ¬ inM c u a = 0 → 2 * inM c u a = lenZ c u → eqB (grpL c u [g0, g1, g2, g3, g4, g5]) = true → levelZ c u [g0, g1, g2, g3, g4, g5] a = 1 := fun h h2 h3 => by unfold levelZ; rw [if_neg h, if_pos ⟨h2, h3⟩]
  have l2 : ¬ inM c u a = 0 → ¬ (2 * inM c u a = lenZ c u ∧ eqB (grpL c u [g0, g1, g2, g3, g4, g5]) = true) → (atZ c u [g0, g1, g2, g3, g4, g5] a).2 = 0 → levelZ c u [g0, g1, g2, g3, g4, g5] a = 2 := fun h h2 h3 => by unfold levelZ; rw [if_neg h, if_neg h2, if_pos h3]
  generalize levelZ c u [g0, g1, g2, g3, g4, g5] a = L at *
  simp [-Int.not_lt, -Int.not_le, T22_eq, F20, F42, F28, F43, unrow_row, h, h.1, h.2.1, h0, e1, e2, ha, f5, f6]
  have last : ∀ (F : List Fr), subZ u (inM c u a) 9 0 = L → (subZ u (inM c u a) 9 0 = 15 → X Y T22 [.tmp 4] F (.exit 1) ⟨mk 63 .J [], [.box (M8 c u g0 g1 g2 g3 g4 g5)]⟩ (Is (.i L))) →
      X Y T22 [.tmp 4] F (.loop (loopN Tryd.f22 0)) ⟨mk 63 .J [(2, .ptr 0 0), (5, .i (inM c u a)), (8, .i (0 : Nat))], [.box (M8 c u g0 g1 g2 g3 g4 g5)]⟩ (Is (.i L)) := by
    intro F e hx
    exact loop22 c u g0 g1 g2 g3 g4 g5 (inM c u a) h.2.1 hm.1 9 0 rfl hx (fun _ => by rw [e]; simp)
  refine ⟨fun h1 => (l0 h1).symm, fun h1 => ⟨fun h2 => ⟨fun h3 => (l1 h1 h2 h3).symm, fun h3 => ⟨fun h4 => (l2 h1 (by simp [h3]) h4).symm, fun h4 => ?_⟩⟩, fun h2 => ⟨fun h4 => (l2 h1 (by simp [h2]) h4).symm, fun h4 => ?_⟩⟩⟩
  · have e := key h1 (by simp [h3]) h4
    refine X_keep (last _ e.symm fun h15 => ?_) ?_
    · rw [h15] at e; subst e; simp
    · simp
  · have e := key h1 (by simp [h2]) h4
    refine X_keep (last _ e.symm fun h15 => ?_) ?_
    · rw [h15] at e; subst e; simp
    · simp
def F22 : List SV → Option SV
  | [.agg [.pv (.int .i64 c), .pv (.int .i64 u), .pv (.int .i64 g0), .pv (.int .i64 g1), .pv (.int .i64 g2), .pv (.int .i64 g3), .pv (.int .i64 g4), .pv (.int .i64 g5)], .pv (.int .i64 a)] =>
    if okM c u [g0, g1, g2, g3, g4, g5] ∧ 0 ≤ a then some (.i (levelZ c u [g0, g1, g2, g3, g4, g5] a)) else none
  | _ => none
theorem meets22 (W0 : World) : OkAt W0 22 F22 := meets_fn env (tok22 W0) mixed Tryd.func22 (by kernel_rfl) (by kernel_rfl) fun args r h => by
  unfold F22 at h
  split at h
  · split at h
    · cases h; rename_i hu; exact x22 _ _ _ _ _ _ _ _ _ hu.1 hu.2
    · cases h
  · cases h
end Go.Proofs.YtooajpojikkkdaaDoor
