/- At, and the laws of the beats and of the repeats, by the machine. -/
import Derived.Test.YtooajpojikkkdaaDoorMetreQ
set_option linter.unusedSimpArgs false
set_option linter.unusedVariables false
set_option maxRecDepth 1000000
set_option maxHeartbeats 400000
namespace Go.Proofs.YtooajpojikkkdaaDoor
open Go Go.Pm Go.RowKit
/-- The beat of a tick, where all onsets are looked at. -/
def atN (t : Int) : List Int → Int → Int × Int → Int × Int
  | [], _, r => r
  | b :: l, i, r => atN t l (i + 1) (if b ≤ t then (i, t - b) else r)
theorem atN_none (t : Int) : ∀ (l : List Int) (i : Int) (r : Int × Int), (∀ b ∈ l, t < b) → atN t l i r = r
  | [], _, _, _ => rfl
  | b :: l, i, r, h => by
    have := h b (by simp)
    rw [atN, if_neg (by omega), atN_none t l _ _ fun x hx => h x (by simp [hx])]
theorem atN_eq (t : Int) : ∀ (l : List Int) (i : Int) (r : Int × Int), l.Pairwise (· < ·) → atN t l i r = atL t l i r
  | [], _, _, _ => rfl
  | b :: l, i, r, h => by
    rw [List.pairwise_cons] at h
    rw [atN, atL]
    by_cases hb : b ≤ t
    · rw [if_pos hb, if_pos hb, atN_eq t l _ _ h.2]
    · rw [if_neg hb, if_neg hb, atN_none t l _ _ fun x hx => by have := h.1 x hx; omega]
noncomputable def T31 : FuncId → Option Pm.Spec := tab [(40, .pure false F40), (38, .pure false F20), (45, .pure false F29)]
theorem T31_eq (g : Nat) : T31 g = tab [(40, .pure false F40), (38, .pure false F20), (45, .pure false F29)] g := rfl
theorem loop31 {F : List Fr} {P : SV × List Blk → Prop} {rs : List ResultVar} {H : List Blk} (bs : List Int) (t : Int) (ht : 0 ≤ t ∧ t ≤ 123863040) (hb : ∀ b ∈ bs, 0 ≤ b ∧ b ≤ 123863040) (hl : bs.length ≤ 64) : ∀ (r m : Nat) (x y : Int), m + r = bs.length →
    X Y T31 rs F (.exit 0) ⟨mk 39 .J [(4, .i (atN t (bs.drop m) m (x, y)).1), (5, .i (atN t (bs.drop m) m (x, y)).2)], H⟩ P →
    X Y T31 rs F (.loop (loopN Tryd.f31 0)) ⟨mk 39 .J [(4, .i x), (5, .i y), (8, .i t), (22, .pv (.slice 1 (rowI bs))), (23, .i (bs.length : Nat)), (24, .i (m : Nat))], H⟩ P := by
  intro r
  induction r with
  | zero =>
    intro m x y e hx
    have q2 : ¬ (m : Int) < (bs.length : Int) := by omega
    rw [List.drop_eq_nil_of_le (by omega)] at hx
    apply X_loop_of
    · simp only [loopN, Tryd.f31, loopsOf, List.nil_append, List.append_nil, List.cons_append, List.getD_cons_succ, List.getD_cons_zero]; rfl
    simp [-Int.not_lt, -Int.not_le, rowI_len, q2]
    refine X_keep hx ?_
    simp [atN]
  | succ r ih =>
    intro m x y e hx
    have hml : m < bs.length := by omega
    have q2 : (m : Int) < (bs.length : Int) := by omega
    have q3 : IntKind.i64.wrap ((m : Int) + 1) = ((m + 1 : Nat) : Int) := by rw [show ((m : Int) + 1) = ((m + 1 : Nat) : Int) by omega]; exact wrap64 (by omega) (by omega)
    have r1 := row_at hml
    have e1 : bs.drop m = bs.getD m 0 :: bs.drop (m + 1) := by rw [List.drop_eq_getElem_cons hml]; simp [hml]
    have hgb : 0 ≤ bs.getD m 0 ∧ bs.getD m 0 ≤ 123863040 := hb _ (by simp [hml])
    rw [e1] at hx
    generalize bs.getD m 0 = g at *
    have q4 : IntKind.i64.wrap (t - g) = t - g := wrap64 (by omega) (by omega)
    apply X_loop_of
    · simp only [loopN, Tryd.f31, loopsOf, List.nil_append, List.append_nil, List.cons_append, List.getD_cons_succ, List.getD_cons_zero]; rfl
    simp [-Int.natCast_add, -Int.not_lt, -Int.not_le, q2, q3, q4, r1, rowI_len, -getElem?_pos]
    refine ⟨fun h => ?_, fun h => ?_⟩
    · rw [atN, if_pos h, show (m : Int) + 1 = ((m + 1 : Nat) : Int) by omega] at hx
      refine X_keep (ih (m + 1) _ _ (by omega) hx) ?_
      simp
    · rw [atN, if_neg h, show (m : Int) + 1 = ((m + 1 : Nat) : Int) by omega] at hx
      refine X_keep (ih (m + 1) _ _ (by omega) hx) ?_
      simp
theorem beats_up {c u : Int} {gs : List Int} (h : okM c u gs) (h6 : gs.length = 6) : (beatsZ c u gs).Pairwise (· < ·) := by
  obtain ⟨f1, f2, f3, f4⟩ := grpL_facts h h6
  have hr := unitZ_range h.2.1
  exact onsets_up _ (by omega) _ 0 f1
/-- At and its error. -/
def atR (c u : Int) (gs : List Int) (n : Int) : (Int × Int) × Int := if tickE c u gs n = 0 then (atZ c u gs n, 0) else ((0, 0), tickE c u gs n)
theorem x31 (c u g0 g1 g2 g3 g4 g5 n : Int) : XFn Y T31 Tryd.f31 [.agg (M8 c u g0 g1 g2 g3 g4 g5), .i n] [] (Is (.tuple [.i (atR c u [g0, g1, g2, g3, g4, g5] n).1.1, .i (atR c u [g0, g1, g2, g3, g4, g5] n).1.2, .i (atR c u [g0, g1, g2, g3, g4, g5] n).2])) := by
  unfold XFn Tryd.f31
  rw [enter_2 _ (by decide)]
  by_cases h0 : tickE c u [g0, g1, g2, g3, g4, g5] n = 0
  · obtain ⟨h, ha, hn⟩ := tick_ok h0
    have hl := lenZ_range h.1 h.2.1
    have hl0 : lenZ c u ≠ 0 := by omega
    have e1 : n.tmod (lenZ c u) = inM c u n := Int.tmod_eq_emod_of_nonneg ha
    obtain ⟨b1, b2, b3⟩ := beatsZ_facts h rfl
    have hm := inM_range (a := n) h.1 h.2.1
    have hA : atN (inM c u n) (beatsZ c u [g0, g1, g2, g3, g4, g5]) 0 (0, 0) = atZ c u [g0, g1, g2, g3, g4, g5] n := atN_eq _ _ _ _ (beats_up h rfl)
    simp [T31_eq, F40, F20, F29, h0, h, h.1, h.2.1, hl0, e1, rowI_len]
    refine X_keep (loop31 _ (inM c u n) (by omega) b1 b2 (beatsZ c u [g0, g1, g2, g3, g4, g5]).length 0 0 0 (by rw [Nat.zero_add]) ?_) ?_
    · simp [atR, h0, hA]
    · simp
  · simp [T31_eq, F40, h0, atR]
def F31 : List SV → Option SV
  | [.agg [.pv (.int .i64 c), .pv (.int .i64 u), .pv (.int .i64 g0), .pv (.int .i64 g1), .pv (.int .i64 g2), .pv (.int .i64 g3), .pv (.int .i64 g4), .pv (.int .i64 g5)], .pv (.int .i64 n)] =>
    some (.tuple [.i (atR c u [g0, g1, g2, g3, g4, g5] n).1.1, .i (atR c u [g0, g1, g2, g3, g4, g5] n).1.2, .i (atR c u [g0, g1, g2, g3, g4, g5] n).2])
  | _ => none
theorem meets31 (W0 : World) : OkAt W0 31 F31 := meets_fn env (tok_cons (meets40 W0) (tok_cons (meets38 W0) (tok_cons (meets45 W0) tok_nil))) mixed Tryd.func31 (by kernel_rfl) (by kernel_rfl) fun args r h => by
  unfold F31 at h
  split at h
  · cases h; exact x31 _ _ _ _ _ _ _ _ _
  · cases h
/-- Where the beat of a tick lies. -/
theorem atL_spec (t : Int) (bs : List Int) (hup : bs.Pairwise (· < ·)) : ∀ (r m : Nat), m + r = bs.length → 1 ≤ m → bs.getD (m - 1) 0 ≤ t →
    ∃ j : Nat, (atL t (bs.drop m) m (((m - 1 : Nat) : Int), t - bs.getD (m - 1) 0)) = ((j : Int), t - bs.getD j 0) ∧ j < bs.length ∧ bs.getD j 0 ≤ t ∧ (j + 1 = bs.length ∨ t < bs.getD (j + 1) 0) := by
  intro r
  induction r with
  | zero =>
    intro m e h1 hm
    rw [List.drop_eq_nil_of_le (by omega)]
    exact ⟨m - 1, rfl, by omega, hm, .inl (by omega)⟩
  | succ r ih =>
    intro m e h1 hm
    have hml : m < bs.length := by omega
    have e1 : bs.drop m = bs.getD m 0 :: bs.drop (m + 1) := by rw [List.drop_eq_getElem_cons hml]; simp [hml]
    rw [e1, atL]
    by_cases hb : bs.getD m 0 ≤ t
    · rw [if_pos hb]
      have := ih (m + 1) (by omega) (by omega) (by simpa using hb)
      simpa using this
    · rw [if_neg hb]
      exact ⟨m - 1, rfl, by omega, hm, .inr (by rw [show m - 1 + 1 = m by omega]; omega)⟩
theorem onsets_below (q : Int) (hq : 0 < q) : ∀ (l : List Int) (a : Int), (∀ g ∈ l, 1 ≤ g ∧ g ≤ 64) → ∀ b ∈ onsets q a l, b < a + l.sum * q
  | [], a, _, b, h => by simp [onsets] at h
  | g :: r, a, hl, b, h => by
    have hg := hl g (by simp)
    have hr := sum_nonneg (l := r) fun x hx => hl x (by simp [hx])
    have e : (g + r.sum) * q = g * q + r.sum * q := Int.add_mul _ _ _
    have h1 : 0 < g * q := Int.mul_pos (by omega) hq
    have h2 : 0 ≤ r.sum * q := Int.mul_nonneg hr (by omega)
    simp only [List.sum_cons, e]
    rcases List.mem_cons.1 h with rfl | h
    · omega
    · have := onsets_below q hq r (a + g * q) (fun x hx => hl x (by simp [hx])) b h
      omega
theorem beats_first {c u : Int} {gs : List Int} (h : okM c u gs) (h6 : gs.length = 6) : ∃ l, beatsZ c u gs = 0 :: l := by
  obtain ⟨f1, f2, f3, f4⟩ := grpL_facts h h6
  unfold beatsZ
  cases hg : grpL c u gs with
  | nil => exact absurd hg f4
  | cons g r => exact ⟨_, rfl⟩
/-- The beats of a valid time signature, and the beat of a tick. -/
theorem beats_all {c u : Int} {gs : List Int} (h : okM c u gs) (h6 : gs.length = 6) : (beatsZ c u gs).Pairwise (· < ·) ∧ (∀ b ∈ beatsZ c u gs, b < lenZ c u) ∧ (beatsZ c u gs).getD 0 0 = 0 := by
  obtain ⟨f1, f2, f3, f4⟩ := grpL_facts h h6
  have hr := unitZ_range h.2.1
  refine ⟨beats_up h h6, fun b hb => ?_, ?_⟩
  · have := onsets_below _ (by omega) _ 0 f1 b hb
    rw [f2] at this
    unfold lenZ; omega
  · obtain ⟨l, e⟩ := beats_first h h6
    rw [e]; rfl
theorem at_spec {c u n : Int} {gs : List Int} (h : okM c u gs) (h6 : gs.length = 6) : ∃ j : Nat, atZ c u gs n = ((j : Int), inM c u n - (beatsZ c u gs).getD j 0) ∧ j < (beatsZ c u gs).length ∧ (beatsZ c u gs).getD j 0 ≤ inM c u n ∧
    (j + 1 = (beatsZ c u gs).length ∨ inM c u n < (beatsZ c u gs).getD (j + 1) 0) := by
  obtain ⟨a1, a2, a3⟩ := beats_all h h6
  have hm := inM_range (a := n) h.1 h.2.1
  obtain ⟨l, e⟩ := beats_first h h6
  have := atL_spec (inM c u n) (beatsZ c u gs) a1 l.length 1 (by rw [e]; simp; omega) (by omega) (by rw [show 1 - 1 = 0 from rfl, a3]; omega)
  unfold atZ
  rw [e] at this ⊢
  rw [atL, if_pos (by omega)]
  simpa using this
noncomputable def T9 : FuncId → Option Pm.Spec := tab [(13, .pure false F13), (17, .pure false F17), (25, .pure false F25), (23, .pure false F23), (31, .pure false F31)]
theorem T9_eq (g : Nat) : T9 g = tab [(13, .pure false F13), (17, .pure false F17), (25, .pure false F25), (23, .pure false F23), (31, .pure false F31)] g := rfl
theorem tok9 (W0 : World) : TOk Tryd.prog W0 T9 := tok_cons (meets13 W0) (tok_cons (meets17 W0) (tok_cons (meets25 W0) (tok_cons (meets23 W0) (tok_cons (meets31 W0) tok_nil))))
theorem loop9 {F : List Fr} {P : SV × List Blk → Prop} {rs : List ResultVar} {H : List Blk} (bs : List Int) (n a k o e : Int) (hup : bs.Pairwise (· < ·)) (hb : ∀ b ∈ bs, b < n) (hl : bs.length ≤ 64) : ∀ (r m : Nat), m + 1 + r = bs.length →
    X Y T9 rs F (.exit 0) ⟨mk 139 .J [(1, .i a), (5, .pv (.slice 1 (rowI bs))), (7, .i n), (9, .i k), (10, .i o), (11, .i e)], H⟩ P →
    X Y T9 rs F (.loop (loopN Tryd.f9 0)) ⟨mk 139 .J [(1, .i a), (5, .pv (.slice 1 (rowI bs))), (7, .i n), (9, .i k), (10, .i o), (11, .i e), (12, .i ((m + 1 : Nat) : Int))], H⟩ P := by
  intro r
  induction r with
  | zero =>
    intro m e hx
    have q2 : ¬ ((m + 1 : Nat) : Int) < (bs.length : Int) := by omega
    apply X_loop_of
    · simp only [loopN, Tryd.f9, loopsOf, List.nil_append, List.append_nil, List.cons_append, List.getD_cons_succ, List.getD_cons_zero]; rfl
    simp [-Int.natCast_add, -Int.not_lt, -Int.not_le, rowI_len, q2]
    refine X_keep hx ?_
    simp
  | succ r ih =>
    intro m e hx
    have hml : m + 1 < bs.length := by omega
    have q2 : ((m + 1 : Nat) : Int) < (bs.length : Int) := by omega
    have q3 := next_i (m := m + 1) (by omega)
    have q4 : IntKind.i64.wrap (((m + 1 : Nat) : Int) - 1) = (m : Int) := by rw [show ((m + 1 : Nat) : Int) - 1 = (m : Int) by omega]; exact wrap64 (by omega) (by omega)
    have r1 := row_at hml
    have r2 := row_at (l := bs) (m := m) (by omega)
    have k1 : bs.getD m 0 < bs.getD (m + 1) 0 := by
      have := List.pairwise_iff_getElem.1 hup m (m + 1) (by omega) hml (by omega)
      simpa [List.getD, hml, show m < bs.length by omega] using this
    have k2 : bs.getD (m + 1) 0 < n := hb _ (by simp [hml])
    have k3 : ¬ bs.getD (m + 1) 0 ≤ bs.getD m 0 := by omega
    have k4 : ¬ n ≤ bs.getD (m + 1) 0 := by omega
    generalize bs.getD (m + 1) 0 = g at *
    generalize bs.getD m 0 = f at *
    apply X_loop_of
    · simp only [loopN, Tryd.f9, loopsOf, List.nil_append, List.append_nil, List.cons_append, List.getD_cons_succ, List.getD_cons_zero]; rfl
    simp [-Int.natCast_add, -Int.not_lt, -Int.not_le, q2, q3, q4, r1, r2, k3, k4, rowI_len, -getElem?_pos]
    refine X_keep (ih (m + 1) (by omega) hx) ?_
    simp [-Int.natCast_add]
theorem atR_bad {c u n : Int} {gs : List Int} (h : okM c u gs) (hn : n < 0 ∨ 4398046511104 < n) : atR c u gs n = ((0, 0), 2) := by
  unfold atR tickE
  rw [okM_chk.1 h]; simp [hn]
theorem atR_good {c u n : Int} {gs : List Int} (h : okM c u gs) (hn : ¬ (n < 0 ∨ 4398046511104 < n)) : atR c u gs n = (atZ c u gs n, 0) := by
  unfold atR tickE
  rw [okM_chk.1 h]; simp [hn]
theorem x9 (c u g0 g1 g2 g3 g4 g5 n : Int) : XFn Y T9 Tryd.f9 [.agg (M8 c u g0 g1 g2 g3 g4 g5), .i n] [] (Is (.bool true)) := by
  unfold XFn Tryd.f9
  rw [enter_2 _ (by decide)]
  by_cases h0 : chkM c u [g0, g1, g2, g3, g4, g5] = 0
  · have h := okM_chk.2 h0
    have hl := lenZ_range h.1 h.2.1
    have hl0 : lenZ c u ≠ 0 := by omega
    obtain ⟨b1, b2, b3⟩ := beatsZ_facts h rfl
    obtain ⟨a1, a2, a3⟩ := beats_all h rfl
    have hm := inM_range (a := n) h.1 h.2.1
    obtain ⟨j, z1, z2, z3, z4⟩ := at_spec (n := n) h rfl
    have r0 := row_at (l := beatsZ c u [g0, g1, g2, g3, g4, g5]) (m := 0) (by omega)
    rw [a3] at r0
    have rj := row_at z2
    have q0 : ¬ ((beatsZ c u [g0, g1, g2, g3, g4, g5]).length : Int) = 0 := by omega
    have qn : ¬ beatsZ c u [g0, g1, g2, g3, g4, g5] = [] := fun e => by rw [e] at b3; simp at b3
    have gz : ∀ {α : Type} (b : α) (l : List α), (b :: l)[0]? = some b := fun _ _ => rfl
    by_cases hn : n < 0 ∨ 4398046511104 < n
    · have hR := atR_bad h hn
      simp [-Int.not_lt, -Int.not_le, -getElem?_pos, T9_eq, F13, F17, F26, F25, F23, F31, h0, lenR, rowE, hR, rowI_len, q0, r0, gz, qn]
      refine X_keep (loop9 _ (lenZ c u) n 0 0 2 a1 a2 b2 ((beatsZ c u [g0, g1, g2, g3, g4, g5]).length - 1) 0 (by omega) ?_) ?_
      · by_cases h1 : n < 0
        · simp [-Int.not_lt, -Int.not_le, h1]
        · have h2 : 4398046511104 < n := by omega
          simp [-Int.not_lt, -Int.not_le, h1, h2]
      · simp
    · have hR := atR_good h hn
      rw [z1] at hR
      have n1 : ¬ n < 0 := by omega
      have n2 : ¬ 4398046511104 < n := by omega
      have e1 : n.tmod (lenZ c u) = inM c u n := Int.tmod_eq_emod_of_nonneg (by omega)
      have hj := b1 _ (List.mem_of_getElem? (i := j) (a := (beatsZ c u [g0, g1, g2, g3, g4, g5]).getD j 0) (by simp [z2]))
      have k1 : ¬ (j : Int) < 0 := by omega
      have k2 : ¬ ((beatsZ c u [g0, g1, g2, g3, g4, g5]).length : Int) ≤ (j : Int) := by omega
      have k3 : ¬ inM c u n - (beatsZ c u [g0, g1, g2, g3, g4, g5]).getD j 0 < 0 := by omega
      have k4 : IntKind.i64.wrap ((beatsZ c u [g0, g1, g2, g3, g4, g5]).getD j 0 + (inM c u n - (beatsZ c u [g0, g1, g2, g3, g4, g5]).getD j 0)) = inM c u n := by
        rw [show (beatsZ c u [g0, g1, g2, g3, g4, g5]).getD j 0 + (inM c u n - (beatsZ c u [g0, g1, g2, g3, g4, g5]).getD j 0) = inM c u n by omega]
        exact wrap64 (by omega) (by omega)
      have k5 := next_i (m := j) (by omega)
      simp [-Int.not_lt, -Int.not_le, -getElem?_pos, T9_eq, F13, F17, F26, F25, F23, F31, h0, lenR, rowE, hR, rowI_len, q0, r0, gz, qn]
      generalize beatsZ c u [g0, g1, g2, g3, g4, g5] = bs at *
      refine X_keep (loop9 bs (lenZ c u) n j (inM c u n - bs.getD j 0) 0 a1 a2 b2 (bs.length - 1) 0 (by omega) ?_) ?_
      · by_cases hlast : j + 1 = bs.length
        · have k6 : ((j + 1 : Nat) : Int) = (bs.length : Int) := by omega
          generalize bs.getD j 0 = g at *
          simp [-Int.natCast_add, -Int.not_lt, -Int.not_le, -getElem?_pos, n1, n2, rowI_len, k1, k2, k3, k4, k5, k6, rj, e1, hl0]
        · have k6 : ¬ ((j + 1 : Nat) : Int) = (bs.length : Int) := by omega
          have z5 : inM c u n < bs.getD (j + 1) 0 := by rcases z4 with z4 | z4 <;> omega
          have rk := row_at (l := bs) (m := j + 1) (by omega)
          generalize bs.getD (j + 1) 0 = g' at *
          generalize bs.getD j 0 = g at *
          simp [-Int.natCast_add, -Int.not_lt, -Int.not_le, -getElem?_pos, n1, n2, rowI_len, k1, k2, k3, k4, k5, k6, rj, rk, e1, hl0, z5]
      · simp
  · simp [T9_eq, F13, F17, F26, h0]
theorem level_repeat {c u : Int} {gs : List Int} (a k : Int) : levelZ c u gs (a + lenZ c u * k) = levelZ c u gs a := by
  have e : inM c u (a + lenZ c u * k) = inM c u a := by unfold inM; exact Int.add_mul_emod_self_left _ _ _
  unfold levelZ atZ
  rw [e]
theorem sub_ge (u t : Int) : ∀ (r k : Nat), k + r = 9 → 3 ≤ subZ u t r k
  | 0, _, _ => by unfold subZ; omega
  | r + 1, k, h => by
    unfold subZ
    split
    · omega
    · exact sub_ge u t r (k + 1) (by omega)
noncomputable def T10 : FuncId → Option Pm.Spec := tab [(13, .pure false F13), (17, .pure false F17), (23, .pure false F23), (21, .pure false F21), (31, .pure false F31)]
theorem T10_eq (g : Nat) : T10 g = tab [(13, .pure false F13), (17, .pure false F17), (23, .pure false F23), (21, .pure false F21), (31, .pure false F31)] g := rfl
theorem tok10 (W0 : World) : TOk Tryd.prog W0 T10 := tok_cons (meets13 W0) (tok_cons (meets17 W0) (tok_cons (meets23 W0) (tok_cons (meets21 W0) (tok_cons (meets31 W0) tok_nil))))
theorem x10 (c u g0 g1 g2 g3 g4 g5 a k : Int) (wa : (Lit.int .u32 a).wf = true) (wk : (Lit.int .u8 k).wf = true) : XFn Y T10 Tryd.f10 [.agg (M8 c u g0 g1 g2 g3 g4 g5), .int .u32 a, .int .u8 k] [] (Is (.bool true)) := by
  unfold XFn Tryd.f10
  rw [enter_3 _ (by decide)]
  have ha : 0 ≤ a ∧ a ≤ 4294967295 := by simpa [Lit.wf, IntKind.min, IntKind.max, IntKind.signed, IntKind.bits] using wa
  have hk : 0 ≤ k ∧ k ≤ 255 := by simpa [Lit.wf, IntKind.min, IntKind.max, IntKind.signed, IntKind.bits] using wk
  by_cases h0 : chkM c u [g0, g1, g2, g3, g4, g5] = 0
  · have h := okM_chk.2 h0
    have hl := lenZ_range h.1 h.2.1
    have m1 : 0 ≤ lenZ c u * k := Int.mul_nonneg (by omega) hk.1
    have m2 : lenZ c u * k ≤ 123863040 * 255 := Int.mul_le_mul (by omega) hk.2 hk.1 (by omega)
    have e1 : IntKind.i64.wrap a = a := wrap64 (by omega) (by omega)
    have e2 : IntKind.i64.wrap k = k := wrap64 (by omega) (by omega)
    have e3 : IntKind.i64.wrap (lenZ c u * k) = lenZ c u * k := wrap64 (by omega) (by omega)
    have e4 : IntKind.i64.wrap (a + lenZ c u * k) = a + lenZ c u * k := wrap64 (by omega) (by omega)
    have t1 : tickE c u [g0, g1, g2, g3, g4, g5] a = 0 := tick_of h (by omega) (by omega)
    have t2 : tickE c u [g0, g1, g2, g3, g4, g5] (a + lenZ c u * k) = 0 := tick_of h (by omega) (by omega)
    have v1 : lvlR c u [g0, g1, g2, g3, g4, g5] a = (levelZ c u [g0, g1, g2, g3, g4, g5] a, 0) := by simp [lvlR, t1]
    have v2 : lvlR c u [g0, g1, g2, g3, g4, g5] (a + lenZ c u * k) = (levelZ c u [g0, g1, g2, g3, g4, g5] a, 0) := by simp [lvlR, t2, level_repeat]
    have v3 : atR c u [g0, g1, g2, g3, g4, g5] a = (atZ c u [g0, g1, g2, g3, g4, g5] a, 0) := by simp [atR, t1]
    by_cases ho : (atZ c u [g0, g1, g2, g3, g4, g5] a).2 = 0
    · have w : levelZ c u [g0, g1, g2, g3, g4, g5] a ≤ 2 := by
        unfold levelZ
        rw [if_pos ho]
        repeat' split
        all_goals omega
      simp [-Int.not_lt, -Int.not_le, T10_eq, F13, F17, F26, F23, F21, F31, h0, lenR, e1, e2, e3, e4, v1, v2, v3, ho, w]
    · have w : levelZ c u [g0, g1, g2, g3, g4, g5] a = 1 ∨ 2 < levelZ c u [g0, g1, g2, g3, g4, g5] a := by
        have hz : ¬ inM c u a = 0 := fun hz => ho ((at_zero h rfl).2 (by
          obtain ⟨l, e⟩ := beats_first h rfl
          rw [e, hz]; simp))
        have := sub_ge u (inM c u a) 9 0 rfl
        unfold levelZ
        rw [if_neg hz, if_neg ho]
        split
        · exact .inl rfl
        · exact .inr (by omega)
      generalize levelZ c u [g0, g1, g2, g3, g4, g5] a = lv at *
      by_cases w1 : lv = 1
      · simp [-Int.not_lt, -Int.not_le, T10_eq, F13, F17, F26, F23, F21, F31, h0, lenR, e1, e2, e3, e4, v1, v2, v3, ho, w1]
      · have w2 : 2 < lv := w.resolve_left w1
        simp [-Int.not_lt, -Int.not_le, T10_eq, F13, F17, F26, F23, F21, F31, h0, lenR, e1, e2, e3, e4, v1, v2, v3, ho, w1, w2]
  · simp [T10_eq, F13, F17, F26, h0]
end Go.Proofs.YtooajpojikkkdaaDoor
