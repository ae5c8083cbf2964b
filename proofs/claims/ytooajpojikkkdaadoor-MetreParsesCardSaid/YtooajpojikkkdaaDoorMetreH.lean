/- Time signatures: the program's beats and levels, by the machine. -/
import Derived.Test.YtooajpojikkkdaaDoorMetreG
set_option linter.unusedSimpArgs false
set_option linter.unusedVariables false
set_option maxRecDepth 1000000
set_option maxHeartbeats 400000
namespace Go.Proofs.YtooajpojikkkdaaDoor
open Go Go.Pm Go.RowKit
noncomputable def T45 : FuncId → Option Pm.Spec := tab [(44, .pure false F44), (58, .pure false F39)]
theorem T45_eq (g : Nat) : T45 g = tab [(44, .pure false F44), (58, .pure false F39)] g := rfl
theorem loop45 {F : List Fr} {P : SV × List Blk → Prop} {rs : List ResultVar} (c u g0 g1 g2 g3 g4 g5 : Int) (hu : uOk u = true) (gr : List Int) : ∀ (r m : Nat) (H : List Blk) (es : List Int) (out : SV) (a : Int), m + r = gr.length → es.length = m → (∀ g ∈ gr.drop m, 1 ≤ g ∧ g ≤ 64) →
    0 ≤ a → a + (gr.drop m).sum * unitZ u ≤ 123863040 → H[0]? = some (.box (M8 c u g0 g1 g2 g3 g4 g5)) → Pm.Acc 3 1 H (rowI es) out → gr.length ≤ 64 →
    (∀ H' out', Pm.Acc 3 1 H' (rowI (es ++ onsets (unitZ u) a (gr.drop m))) out' → X Y T45 rs F (.exit 0) ⟨mk 26 .J [(3, out')], H'⟩ P) →
    X Y T45 rs F (.loop (loopN Tryd.f45 0)) ⟨mk 26 .J [(1, .ptr 0 0), (3, out), (4, .i a), (8, .pv (.slice 1 (rowI gr))), (9, .i (gr.length : Nat)), (10, .i (m : Nat))], H⟩ P := by
  intro r
  induction r with
  | zero =>
    intro m H es out a h1 hl hg ha hs hb hA h64 hx
    have e1 : m = gr.length := by omega
    have q2 : ¬ (m : Int) < (gr.length : Int) := by omega
    rw [List.drop_eq_nil_of_le (by omega)] at hx
    apply X_loop_of
    · simp only [loopN, Tryd.f45, loopsOf, List.nil_append, List.append_nil, List.cons_append, List.getD_cons_succ, List.getD_cons_zero]; rfl
    simp [-Int.not_lt, -Int.not_le, rowI_len, q2]
    refine X_keep (hx H out (by simpa [onsets] using hA)) ?_
    simp
  | succ r ih =>
    intro m H es out a h1 hl hg ha hs hb hA h64 hx
    have hm : m < gr.length := by omega
    have q2 : (m : Int) < (gr.length : Int) := by omega
    have hr := unitZ_range hu
    have e1 := List.drop_eq_getElem_cons hm
    have hgm : gr[m]? = some gr[m] := by simp [hm]
    rw [e1] at hg hs hx
    generalize gr[m] = g at *
    have h1g := hg g (by simp)
    have hsum := sum_nonneg (l := gr.drop (m + 1)) fun x hx => hg x (by simp [hx])
    have hrow : (rowI gr)[m]? = some [.int .i64 g] := by rw [rowI_get, hgm]; rfl
    have hmul : 0 ≤ (gr.drop (m + 1)).sum * unitZ u := Int.mul_nonneg hsum (by omega)
    have hsd : (g + (gr.drop (m + 1)).sum) * unitZ u = g * unitZ u + (gr.drop (m + 1)).sum * unitZ u := Int.add_mul _ _ _
    have hgu : 0 ≤ g * unitZ u := Int.mul_nonneg (by omega) (by omega)
    simp only [List.sum_cons, hsd] at hs
    have q3 := next_i (m := m) (by omega)
    have q4 : IntKind.i64.wrap (g * unitZ u) = g * unitZ u := wrap64 (by omega) (by omega)
    have q5 : IntKind.i64.wrap (a + g * unitZ u) = a + g * unitZ u := wrap64 (by omega) (by omega)
    obtain ⟨out1, H1, a1, a2, a3⟩ := app3 a (by omega) hA
    apply X_loop_of
    · simp only [loopN, Tryd.f45, loopsOf, List.nil_append, List.append_nil, List.cons_append, List.getD_cons_succ, List.getD_cons_zero]; rfl
    simp [-aAppend, -Int.natCast_add, -Int.not_lt, -Int.not_le, q2, q3, q4, q5, hrow, hb, a3 _ _ hb, a1, hA.live, a2.live, T45_eq, F39, hu, rowI_len, -getElem?_pos]
    refine X_keep (ih (m + 1) H1 (es ++ [a]) out1 (a + g * unitZ u) (by omega) (by simp; omega) (fun x hx => hg x (by simp [hx])) (by omega) (by omega) (a3 _ _ hb) a2 h64 (fun H' out' hA' => hx H' out' ?_)) ?_
    · rw [onsets, List.append_cons]; exact hA'
    · simp
theorem x45 (c u g0 g1 g2 g3 g4 g5 : Int) (h : okM c u [g0, g1, g2, g3, g4, g5]) : XFn Y T45 Tryd.f45 [.agg (M8 c u g0 g1 g2 g3 g4 g5)] [] (Is (.fresh 3 1 (rowI (beatsZ c u [g0, g1, g2, g3, g4, g5])))) := by
  unfold XFn Tryd.f45
  rw [enter_1 _ (by decide)]
  obtain ⟨f1, f2, f3, f4⟩ := grpL_facts h rfl
  have hl := lenZ_range h.1 h.2.1
  simp [-outR, T45_eq, F44, h, rowI_len]
  refine X_keep (loop45 c u g0 g1 g2 g3 g4 g5 h.2.1 (grpL c u [g0, g1, g2, g3, g4, g5]) _ 0 _ [] _ 0 (by rw [Nat.zero_add]) rfl (by simpa using f1) (by omega) (by simp [f2]; unfold lenZ at hl; omega) rfl Acc.nil f3 ?_) ?_
  · intro H' out' hA
    simp only [List.nil_append, List.drop_zero] at hA
    simp [-outR, hA.live]
    rw [hA.outR, if_neg]
    · rfl
    · intro e
      have := congrArg List.length e
      simp [rowI, onsets_len] at this
      exact f4 this
  · simp
theorem meets45 (W0 : World) : OkAt W0 45 F29 := meets_fn env (tok_cons (meets44 W0) (tok_cons (meets58 W0) tok_nil)) mixed Tryd.func45 (by kernel_rfl) (by kernel_rfl) fun args r h => by
  unfold F29 at h
  split at h
  · split at h
    · cases h; rename_i hu; exact x45 _ _ _ _ _ _ _ _ hu
    · cases h
  · cases h
/-- Onsets rise. -/
theorem onsets_up (q : Int) (hq : 0 < q) : ∀ (l : List Int) (a : Int), (∀ g ∈ l, 1 ≤ g ∧ g ≤ 64) → (onsets q a l).Pairwise (· < ·)
  | [], a, _ => by simp [onsets]
  | g :: r, a, hl => by
    have hg := hl g (by simp)
    have h1 : 0 < g * q := Int.mul_pos (by omega) hq
    rw [onsets, List.pairwise_cons]
    refine ⟨fun b hb => ?_, onsets_up q hq r _ fun x hx => hl x (by simp [hx])⟩
    have := onsets_range q (by omega) r (a + g * q) (fun x hx => hl x (by simp [hx])) b hb
    omega
/-- The offset is 0 just at the beats. -/
theorem atL_zero (t : Int) : ∀ (l : List Int) (i : Int) (r : Int × Int), l.Pairwise (· < ·) → ((atL t l i r).2 = 0 ↔ t ∈ l ∨ ((∀ b ∈ l, t < b) ∧ r.2 = 0))
  | [], i, r, _ => by simp [atL]
  | b :: l, i, r, h => by
    rw [List.pairwise_cons] at h
    rw [atL]
    by_cases hb : b ≤ t
    · rw [if_pos hb, atL_zero t l (i + 1) _ h.2]
      simp only [List.mem_cons]
      constructor
      · rintro (h1 | ⟨h1, h2⟩)
        · exact .inl (.inr h1)
        · exact .inl (.inl (by omega))
      · rintro ((h1 | h1) | ⟨h1, h2⟩)
        · subst h1; exact .inr ⟨fun x hx => h.1 x hx, by omega⟩
        · exact .inl h1
        · have := h1 b (.inl rfl); omega
    · rw [if_neg hb]
      constructor
      · intro h0
        refine .inr ⟨fun x hx => ?_, h0⟩
        rcases List.mem_cons.1 hx with rfl | hx
        · omega
        · have := h.1 x hx; omega
      · rintro (h1 | ⟨_, h2⟩)
        · rcases List.mem_cons.1 h1 with rfl | h1
          · omega
          · have := h.1 t h1; omega
        · exact h2
theorem at_zero {c u a : Int} {gs : List Int} (h : okM c u gs) (h6 : gs.length = 6) : (atZ c u gs a).2 = 0 ↔ inM c u a ∈ beatsZ c u gs := by
  obtain ⟨f1, f2, f3, f4⟩ := grpL_facts h h6
  have hr := unitZ_range h.2.1
  have hm := inM_range (a := a) h.1 h.2.1
  unfold atZ
  have hup : (beatsZ c u gs).Pairwise (· < ·) := onsets_up _ (by omega) _ 0 f1
  rw [atL_zero _ _ _ _ hup]
  constructor
  · rintro (h1 | ⟨h1, _⟩)
    · exact h1
    · exfalso
      unfold beatsZ at h1
      cases hg : grpL c u gs with
      | nil => exact f4 hg
      | cons g r =>
        rw [hg, onsets] at h1
        have := h1 0 (by simp)
        omega
  · exact .inl
/-- All equal: the least is the greatest. -/
theorem foldl_min_le : ∀ (l : List Int) (x : Int), l.foldl (fun a b => if b < a then b else a) x ≤ x ∧ ∀ y ∈ l, l.foldl (fun a b => if b < a then b else a) x ≤ y
  | [], x => by simp
  | y :: r, x => by
    have := foldl_min_le r (if y < x then y else x)
    simp only [List.foldl_cons]
    refine ⟨?_, fun z hz => ?_⟩
    · have := this.1; split at this <;> omega
    · rcases List.mem_cons.1 hz with rfl | hz
      · have := this.1; split at this <;> omega
      · exact this.2 z hz
theorem foldl_max_ge : ∀ (l : List Int) (x : Int), x ≤ l.foldl (fun a b => if b > a then b else a) x ∧ ∀ y ∈ l, y ≤ l.foldl (fun a b => if b > a then b else a) x
  | [], x => by simp
  | y :: r, x => by
    have := foldl_max_ge r (if y > x then y else x)
    simp only [List.foldl_cons]
    refine ⟨?_, fun z hz => ?_⟩
    · have := this.1; split at this <;> omega
    · rcases List.mem_cons.1 hz with rfl | hz
      · have := this.1; split at this <;> omega
      · exact this.2 z hz
theorem foldl_same (f : Int → Int → Int) (hf : ∀ a, f a a = a) : ∀ (l : List Int) (x : Int), (∀ y ∈ l, y = x) → l.foldl f x = x
  | [], x, _ => rfl
  | y :: r, x, h => by
    have := h y (by simp)
    subst this
    rw [List.foldl_cons, hf]
    exact foldl_same f hf r y fun z hz => h z (by simp [hz])
theorem minmax_eq (l : List Int) : (minL l = maxL l) ↔ (l.drop 1).all (fun x => x == l.getD 0 0) = true := by
  unfold minL maxL
  generalize l.getD 0 0 = x
  generalize l.drop 1 = r
  rw [List.all_eq_true]
  constructor
  · intro h y hy
    have h1 := foldl_min_le r x
    have h2 := foldl_max_ge r x
    rw [← h] at h2
    have := h1.1; have := h1.2 y hy; have := h2.1; have := h2.2 y hy
    simp; omega
  · intro h
    have h' : ∀ y ∈ r, y = x := fun y hy => by simpa using h y hy
    rw [foldl_same _ (fun a => by simp) r x h', foldl_same _ (fun a => by simp) r x h']
theorem eqB_iff (l : List Int) : eqB l = true ↔ (l.length % 2 = 0 ∧ minL l = maxL l) := by
  unfold eqB
  rw [Bool.and_eq_true, decide_eq_true_iff, minmax_eq]
  exact And.comm
/-- Halves. -/
theorem half_u {u : Int} (hu : uOk u = true) {k : Nat} (h1 : 1 ≤ k) (hk : k ≤ 9) : ((qv u (k - 1) % 2 = 0 ∧ 7560 ≤ qv u (k - 1) / 2 ∧ okq u (k - 1)) → (okq u k ∧ qv u (k - 1) / 2 = qv u k)) ∧ (okq u k → qv u (k - 1) % 2 = 0 ∧ 7560 ≤ qv u (k - 1) / 2) ∧ (0 ≤ qv u (k - 1) ∧ qv u (k - 1) ≤ 1935360) ∧ (okq u (k + 1) → okq u k) := by
  have hk' : k = 1 ∨ k = 2 ∨ k = 3 ∨ k = 4 ∨ k = 5 ∨ k = 6 ∨ k = 7 ∨ k = 8 ∨ k = 9 := by omega
  rcases uOk_cases hu with rfl | rfl | rfl | rfl | rfl | rfl | rfl <;> rcases hk' with rfl | rfl | rfl | rfl | rfl | rfl | rfl | rfl | rfl <;> decide
theorem okq0 {u : Int} (hu : uOk u = true) : okq u 0 ∧ qv u 0 = unitZ u ∧ ¬ okq u 9 := by
  rcases uOk_cases hu with rfl | rfl | rfl | rfl | rfl | rfl | rfl <;> decide
theorem sub_none {u t : Int} (hu : uOk u = true) : ∀ (r k : Nat), k + r = 9 → 1 ≤ k → ¬ okq u k → subZ u t r k = 15
  | 0, k, _, _, _ => rfl
  | r + 1, k, e, h1, hn => by
    rw [subZ, if_neg (fun h => hn h.1)]
    exact sub_none hu r (k + 1) (by omega) (by omega) fun h => hn ((half_u hu h1 (by omega)).2.2.2 h)
noncomputable def T41 : FuncId → Option Pm.Spec := tab [(38, .pure false F20), (44, .pure false F44), (59, .pure false (Frow minL)), (60, .pure false (Frow maxL)), (45, .pure false F29), (61, .pure false F61), (58, .pure false F39)]
theorem T41_eq (g : Nat) : T41 g = tab [(38, .pure false F20), (44, .pure false F44), (59, .pure false (Frow minL)), (60, .pure false (Frow maxL)), (45, .pure false F29), (61, .pure false F61), (58, .pure false F39)] g := rfl
theorem tok41 (W0 : World) : TOk Tryd.prog W0 T41 := tok_cons (meets38 W0) (tok_cons (meets44 W0) (tok_cons (meets59 W0) (tok_cons (meets60 W0) (tok_cons (meets45 W0) (tok_cons (meets61 W0) (tok_cons (meets58 W0) tok_nil))))))
theorem loop41 {F : List Fr} {P : SV × List Blk → Prop} {H : List Blk} (u t : Int) (hu : uOk u = true) (ht : 0 ≤ t) : ∀ (r k : Nat), k + r = 9 → 1 ≤ k → okq u (k - 1) →
    (subZ u t r k = 15 → X Y T41 [.tmp 4] F (.exit 1) ⟨mk 68 .J [], H⟩ P) →
    (subZ u t r k ≠ 15 → P (.i (subZ u t r k), H)) →
    X Y T41 [.tmp 4] F (.loop (loopN Tryd.f41 0)) ⟨mk 68 .J [(5, .i t), (7, .i (k : Nat)), (8, .i (qv u (k - 1)))], H⟩ P := by
  intro r
  induction r with
  | zero =>
    intro k e h1 hk0 hx hp
    have e1 : k = 9 := by omega
    subst e1
    obtain ⟨a1, a2, a3, a4⟩ := half_u hu (k := 9) (by omega) (by omega)
    have hno := (okq0 hu).2.2
    have m1 : (qv u (9 - 1)).tmod 2 = qv u (9 - 1) % 2 := Int.tmod_eq_emod_of_nonneg a3.1
    have m2 : (qv u (9 - 1)).tdiv 2 = qv u (9 - 1) / 2 := Int.tdiv_eq_ediv_of_nonneg a3.1
    have m3 : IntKind.i64.wrap (qv u (9 - 1) / 2) = qv u (9 - 1) / 2 := wrap64 (by omega) (by omega)
    have hc : ¬ (qv u (9 - 1) % 2 = 0 ∧ 7560 ≤ qv u (9 - 1) / 2) := fun h => hno (a1 ⟨h.1, h.2, hk0⟩).1
    apply X_loop_of
    · simp only [loopN, Tryd.f41, loopsOf, List.nil_append, List.append_nil, List.cons_append, List.getD_cons_succ, List.getD_cons_zero]; rfl
    generalize qv u (9 - 1) = q at *
    simp [-Int.not_lt, -Int.not_le, m1, m2, m3]
    refine ⟨fun h2 => ⟨fun h3 => absurd ⟨h2, h3⟩ hc, fun h3 => ?_⟩, fun h2 => ?_⟩
    · refine X_keep (hx rfl) ?_
      simp
    · refine X_keep (hx rfl) ?_
      simp
  | succ r ih =>
    intro k e h1 hk0 hx hp
    obtain ⟨a1, a2, a3, a4⟩ := half_u hu h1 (by omega : k ≤ 9)
    have q3 := next_i (m := k) (by omega)
    have q5 : IntKind.i64.wrap (3 + (k : Int)) = 3 + (k : Int) := wrap64 (by omega) (by omega)
    have m1 : (qv u (k - 1)).tmod 2 = qv u (k - 1) % 2 := Int.tmod_eq_emod_of_nonneg a3.1
    have m2 : (qv u (k - 1)).tdiv 2 = qv u (k - 1) / 2 := Int.tdiv_eq_ediv_of_nonneg a3.1
    have m3 : IntKind.i64.wrap (qv u (k - 1) / 2) = qv u (k - 1) / 2 := wrap64 (by omega) (by omega)
    apply X_loop_of
    · simp only [loopN, Tryd.f41, loopsOf, List.nil_append, List.append_nil, List.cons_append, List.getD_cons_succ, List.getD_cons_zero]; rfl
    by_cases hc : qv u (k - 1) % 2 = 0 ∧ 7560 ≤ qv u (k - 1) / 2
    · obtain ⟨b1, b2⟩ := a1 ⟨hc.1, hc.2, hk0⟩
      have h0 : qv u k ≠ 0 := by have := b1.2; omega
      have m4 : t.tmod (qv u k) = t % qv u k := Int.tmod_eq_emod_of_nonneg ht
      rw [b2] at hc m2 m3
      have next : okq u (k + 1 - 1) := by simpa using b1
      rw [subZ] at hx hp
      have ihk := ih (k + 1) (by omega) (by omega) next
      simp only [Nat.add_sub_cancel] at ihk
      generalize qv u (k - 1) = q at *
      simp [-Int.natCast_add, -Int.not_lt, -Int.not_le, m1, m2, m3, m4, hc.1, hc.2, h0, q3, q5]
      refine ⟨fun h2 => ?_, fun h2 => ?_⟩
      · rw [if_pos ⟨b1, h2⟩] at hp
        exact hp (by omega)
      · rw [if_neg (fun h => h2 h.2)] at hx hp
        refine X_keep (ihk hx hp) ?_
        simp
    · have hno : ¬ okq u k := fun h => hc (a2 h)
      have e15 := sub_none (t := t) hu (r + 1) k e h1 hno
      generalize qv u (k - 1) = q at *
      simp [-Int.natCast_add, -Int.not_lt, -Int.not_le, m1, m2, m3]
      refine ⟨fun h2 => ⟨fun h3 => absurd ⟨h2, h3⟩ hc, fun h3 => ?_⟩, fun h2 => ?_⟩
      · refine X_keep (hx e15) ?_
        simp
      · refine X_keep (hx e15) ?_
        simp
theorem x41 (c u g0 g1 g2 g3 g4 g5 a : Int) (h : okM c u [g0, g1, g2, g3, g4, g5]) (ha : 0 ≤ a) : XFn Y T41 Tryd.f41 [.agg (M8 c u g0 g1 g2 g3 g4 g5), .i a] [] (Is (.i (levelZ c u [g0, g1, g2, g3, g4, g5] a))) := by
  unfold XFn Tryd.f41
  rw [enter_2 _ (by decide)]
  have hl := lenZ_range h.1 h.2.1
  have hur := unitZ_range h.2.1
  have h0 : lenZ c u ≠ 0 := by omega
  have hu0 : unitZ u ≠ 0 := by omega
  have e1 : a.tmod (lenZ c u) = inM c u a := Int.tmod_eq_emod_of_nonneg ha
  obtain ⟨f1, f2, f3, f4⟩ := grpL_facts h rfl
  obtain ⟨b1, b2, b3⟩ := beatsZ_facts h rfl
  have hm := inM_range (a := a) h.1 h.2.1
  have e2 : IntKind.i64.wrap (2 * inM c u a) = 2 * inM c u a := wrap64 (by omega) (by omega)
  have e4 : (inM c u a).tmod (unitZ u) = inM c u a % unitZ u := Int.tmod_eq_emod_of_nonneg hm.1
  have f5 : 1 ≤ (grpL c u [g0, g1, g2, g3, g4, g5]).length := by cases hg : grpL c u [g0, g1, g2, g3, g4, g5] <;> simp_all
  have f6 : (grpL c u [g0, g1, g2, g3, g4, g5]).length ≤ 100000 := by omega
  have b4 : (beatsZ c u [g0, g1, g2, g3, g4, g5]).length ≤ 100000 := by omega
  have e5 : ((grpL c u [g0, g1, g2, g3, g4, g5]).length : Int).tmod 2 = ((grpL c u [g0, g1, g2, g3, g4, g5]).length : Int) % 2 := Int.tmod_eq_emod_of_nonneg (by omega)
  have heq := eqB_iff (grpL c u [g0, g1, g2, g3, g4, g5])
  have hat := at_zero (a := a) h rfl
  obtain ⟨o1, o2, o3⟩ := okq0 h.2.1
  have hsub : subZ u (inM c u a) 9 0 = if inM c u a % unitZ u = 0 then 3 else subZ u (inM c u a) 8 1 := by
    rw [subZ, o2]
    by_cases hh : inM c u a % unitZ u = 0
    · rw [if_pos ⟨o1, hh⟩, if_pos hh]; rfl
    · rw [if_neg (fun x => hh x.2), if_neg hh]
  have k0 : inM c u a = 0 → levelZ c u [g0, g1, g2, g3, g4, g5] a = 0 := fun h => by unfold levelZ; rw [if_pos h]
  have k1 : ¬ inM c u a = 0 → 2 * inM c u a = lenZ c u → ((grpL c u [g0, g1, g2, g3, g4, g5]).length : Int) % 2 = 0 → minL (grpL c u [g0, g1, g2, g3, g4, g5]) = maxL (grpL c u [g0, g1, g2, g3, g4, g5]) → levelZ c u [g0, g1, g2, g3, g4, g5] a = 1 :=
    fun h h2 h3 h4 => by unfold levelZ; rw [if_neg h, if_pos ⟨h2, heq.2 ⟨by omega, h4⟩⟩]
  have kn : ¬ inM c u a = 0 → ¬ (2 * inM c u a = lenZ c u ∧ ((grpL c u [g0, g1, g2, g3, g4, g5]).length : Int) % 2 = 0 ∧ minL (grpL c u [g0, g1, g2, g3, g4, g5]) = maxL (grpL c u [g0, g1, g2, g3, g4, g5])) →
      levelZ c u [g0, g1, g2, g3, g4, g5] a = if inM c u a ∈ beatsZ c u [g0, g1, g2, g3, g4, g5] then 2 else if inM c u a % unitZ u = 0 then 3 else subZ u (inM c u a) 8 1 := fun h h2 => by
    unfold levelZ
    rw [if_neg h, if_neg (fun x => h2 ⟨x.1, by have := (heq.1 x.2).1; omega, (heq.1 x.2).2⟩), hsub]
    by_cases hb : inM c u a ∈ beatsZ c u [g0, g1, g2, g3, g4, g5]
    · rw [if_pos (hat.2 hb), if_pos hb]
    · rw [if_neg (fun x => hb (hat.1 x)), if_neg hb]
  have last : ∀ (F : List Fr) (L : Int) (H : List Blk), subZ u (inM c u a) 8 1 = L → (subZ u (inM c u a) 8 1 = 15 → X Y T41 [.tmp 4] F (.exit 1) ⟨mk 68 .J [], H⟩ (Is (.i L))) →
      X Y T41 [.tmp 4] F (.loop (loopN Tryd.f41 0)) ⟨mk 68 .J [(5, .i (inM c u a)), (7, .i (1 : Nat)), (8, .i (unitZ u))], H⟩ (Is (.i L)) := by
    intro F L H e hx
    have := loop41 (H := H) (F := F) (P := Is (.i L)) u (inM c u a) h.2.1 hm.1 8 1 rfl (by omega) (by simpa using o1) hx (fun _ => by rw [e]; simp)
    rw [show (1 : Nat) - 1 = 0 from rfl, o2] at this
    exact this
  generalize levelZ c u [g0, g1, g2, g3, g4, g5] a = L at *
  generalize hgr : (grpL c u [g0, g1, g2, g3, g4, g5]) = gr at *
  have tail_ : ∀ (F : List Fr), ¬ inM c u a = 0 → ¬ (2 * inM c u a = lenZ c u ∧ (gr.length : Int) % 2 = 0 ∧ minL gr = maxL gr) → ¬ inM c u a ∈ beatsZ c u [g0, g1, g2, g3, g4, g5] → ¬ inM c u a % unitZ u = 0 → subZ u (inM c u a) 8 1 = L := by
    intro F h1 h2 h3 h4
    have := kn h1 h2
    rw [if_neg h3, if_neg h4] at this
    exact this.symm
  simp [-Int.not_lt, -Int.not_le, T41_eq, F20, F44, F29, F61, F39, Frow, unrow_row, rowI_len, h, h.1, h.2.1, h0, hu0, e1, e2, e4, e5, ha, f5, f6, b4, hgr]
  refine ⟨fun h1 => (k0 h1).symm, fun h1 => ⟨fun h2 => ⟨fun h3 => ⟨fun h4 => (k1 h1 h2 h3 h4).symm, fun h4 => ?_⟩, fun h3 => ?_⟩, fun h2 => ?_⟩⟩
  · have hh : ¬ (2 * inM c u a = lenZ c u ∧ (gr.length : Int) % 2 = 0 ∧ minL gr = maxL gr) := fun x => h4 x.2.2
    refine ⟨fun h5 => ?_, fun h5 => ⟨fun h6 => ?_, fun h6 => ?_⟩⟩
    · have := kn h1 hh; rw [if_pos h5] at this; exact this.symm
    · have := kn h1 hh; rw [if_neg h5, if_pos h6] at this; exact this.symm
    · have e := tail_ [] h1 hh h5 h6
      refine X_keep (last _ L _ e fun h15 => ?_) ?_
      · rw [h15] at e; subst e; simp
      · simp
  · have hh : ¬ (2 * inM c u a = lenZ c u ∧ (gr.length : Int) % 2 = 0 ∧ minL gr = maxL gr) := fun x => h3 x.2.1
    refine ⟨fun h5 => ?_, fun h5 => ⟨fun h6 => ?_, fun h6 => ?_⟩⟩
    · have := kn h1 hh; rw [if_pos h5] at this; exact this.symm
    · have := kn h1 hh; rw [if_neg h5, if_pos h6] at this; exact this.symm
    · have e := tail_ [] h1 hh h5 h6
      refine X_keep (last _ L _ e fun h15 => ?_) ?_
      · rw [h15] at e; subst e; simp
      · simp
  · have hh : ¬ (2 * inM c u a = lenZ c u ∧ (gr.length : Int) % 2 = 0 ∧ minL gr = maxL gr) := fun x => h2 x.1
    refine ⟨fun h5 => ?_, fun h5 => ⟨fun h6 => ?_, fun h6 => ?_⟩⟩
    · have := kn h1 hh; rw [if_pos h5] at this; exact this.symm
    · have := kn h1 hh; rw [if_neg h5, if_pos h6] at this; exact this.symm
    · have e := tail_ [] h1 hh h5 h6
      refine X_keep (last _ L _ e fun h15 => ?_) ?_
      · rw [h15] at e; subst e; simp
      · simp
theorem meets41 (W0 : World) : OkAt W0 41 F22 := meets_fn env (tok41 W0) mixed Tryd.func41 (by kernel_rfl) (by kernel_rfl) fun args r h => by
  unfold F22 at h
  split at h
  · split at h
    · cases h; rename_i hu; exact x41 _ _ _ _ _ _ _ _ _ hu.1 hu.2
    · cases h
  · cases h
end Go.Proofs.YtooajpojikkkdaaDoor
