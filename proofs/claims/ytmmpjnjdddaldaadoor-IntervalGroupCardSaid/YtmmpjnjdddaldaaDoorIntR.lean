/- The reference's Exact and Transpose, by the machine. -/
import Derived.Test.YtmmpjnjdddaldaaDoorIntQ
set_option linter.unusedSimpArgs false
set_option linter.unusedVariables false
set_option maxRecDepth 1000000
set_option maxHeartbeats 400000
namespace Go.Proofs.YtmmpjnjdddaldaaDoor
open Go Go.Pm Go.RowKit
noncomputable def T29 : FuncId → Option Pm.Spec := tab [(16, .pure false F16), (23, .pure false F23), (14, .pure false F71), (17, .pure false F17), (42, .pure false F38)]
theorem T29_eq (g : Nat) : T29 g = tab [(16, .pure false F16), (23, .pure false F23), (14, .pure false F71), (17, .pure false F17), (42, .pure false F38)] g := rfl
theorem tok29 (W0 : World) : TOk Tryd.prog W0 T29 := tok_cons (meets16 W0) (tok_cons (meets23 W0) (tok_cons (meets14 W0) (tok_cons (meets17 W0) (tok_cons (meets42 W0) tok_nil))))
theorem pos_range {s a o : Int} (h : inR s a o) : -7 ≤ posZ s o ∧ posZ s o ≤ 69 := by
  obtain ⟨h1, h2, h3⟩ := h
  unfold posZ; omega
theorem loop29 {F : List Fr} {Q : SV × List Blk → Prop} (l : List P) (hl : l.length ≤ 12) (ho : okP l = true) (s a o t m : Int) (hv : valid s a o) (hi : isI t m) : ∀ (r i : Nat), i + r = l.length →
    ((l.drop i).find? (fun q => decide (posP q = posZ s o + t)) = none → X Y T29 [.cell 4 23, .tmp 5] F (.exit 0) ⟨mk 44 .J [(4, .ptr 2 0)], [.box [.i s, .i a, .i o], .box [.i t, .i m], .box [.i 0, .i 0, .i 0]]⟩ Q) →
    (∀ q, (l.drop i).find? (fun q => decide (posP q = posZ s o + t)) = some q → Q (.tuple [P3 q.1 q.2.1 q.2.2, .i 0], [.box [.i s, .i a, .i o], .box [.i t, .i m], .box [.i q.1, .i q.2.1, .i q.2.2]])) →
    X Y T29 [.cell 4 23, .tmp 5] F (.loop (loopN Tryd.f29 0)) ⟨mk 44 .J [(2, .ptr 0 0), (3, .ptr 1 0), (4, .ptr 2 0), (6, .pv (.slice 3 (rowP l))), (7, .i (i : Nat))], [.box [.i s, .i a, .i o], .box [.i t, .i m], .box [.i 0, .i 0, .i 0]]⟩ Q := by
  intro r
  induction r with
  | zero =>
    intro i e hx hp
    have q2 : ¬ (i : Int) < (l.length : Int) := by omega
    rw [List.drop_eq_nil_of_le (by omega)] at hx
    apply X_loop_of
    · simp only [loopN, Tryd.f29, loopsOf, List.nil_append, List.append_nil, List.cons_append, List.getD_cons_succ, List.getD_cons_zero]; rfl
    simp [-Int.not_lt, -Int.not_le, rowP_len, q2]
    refine X_keep (hx rfl) ?_
    simp
  | succ r ih =>
    intro i e hx hp
    have hil : i < l.length := by omega
    have q2 : (i : Int) < (l.length : Int) := by omega
    have q3 := next_i (m := i) (by omega)
    have r1 := rowP_at hil
    have o1 : inR (l.getD i (0, 0, 0)).1 (l.getD i (0, 0, 0)).2.1 (l.getD i (0, 0, 0)).2.2 := by
      have := List.all_eq_true.1 ho (l.getD i (0, 0, 0)) (by simp [hil])
      simpa using this
    have e1 : l.drop i = l.getD i (0, 0, 0) :: l.drop (i + 1) := by rw [List.drop_eq_getElem_cons hil]; simp [hil]
    rw [e1, List.find?_cons] at hx hp
    generalize l.getD i (0, 0, 0) = p at *
    obtain ⟨s', a', o'⟩ := p
    simp only [posP] at o1 hx hp r1
    have hF : F38 [P3 s' a' o'] = some (.i (posZ s' o')) := by simp only [F38]; rw [if_pos o1]
    have hG : F38 [P3 s a o] = some (.i (posZ s o)) := by simp only [F38]; rw [if_pos hv.1]
    have hr := pos_range hv.1
    have w1 : IntKind.i64.wrap (posZ s o + t) = posZ s o + t := wrap64 (by have := hi.1; omega) (by have := hi.1; omega)
    have gz : ∀ {α : Type} (b : α) (l : List α), (b :: l)[0]? = some b := fun _ _ => rfl
    apply X_loop_of
    · simp only [loopN, Tryd.f29, loopsOf, List.nil_append, List.append_nil, List.cons_append, List.getD_cons_succ, List.getD_cons_zero]; rfl
    by_cases hd : posZ s' o' = posZ s o + t
    · simp only [hd, decide_true] at hp
      have := hp _ rfl
      simp [-Int.natCast_add, -Int.not_lt, -Int.not_le, -getElem?_pos, List.getElem?_cons_succ, q2, q3, r1, rowP_len, T29_eq, hF, hG, w1, hd, gz]
      simpa using this
    · simp only [hd, decide_false] at hx hp
      simp [-Int.natCast_add, -Int.not_lt, -Int.not_le, -getElem?_pos, List.getElem?_cons_succ, q2, q3, r1, rowP_len, T29_eq, hF, hG, w1, hd, gz]
      refine X_keep (ih (i + 1) (by omega) hx hp) ?_
      simp [-Int.natCast_add]
theorem x29 (s a o t m : Int) : XFn Y T29 Tryd.f29 [P3 s a o, I2 t m] [] (Is (exV (exR s a o t m))) := by
  unfold XFn Tryd.f29
  rw [enter_2 _ (by decide)]
  unfold exR
  by_cases h : valid s a o
  · by_cases hi : isI t m
    · obtain ⟨w1, w2, w3, w4⟩ := goal_wraps h hi
      have hr : -1000 ≤ numZ s a o + m ∧ numZ s a o + m ≤ 1000 := by
        obtain ⟨_, k⟩ := h
        obtain ⟨_, k2⟩ := hi
        omega
      by_cases hn : 0 ≤ numZ s a o + m ∧ numZ s a o + m ≤ 127
      · obtain ⟨e, hs⟩ := enh_p hn
        have hF : F17 [.i (numZ s a o + m)] = some (.fresh 23 3 (rowP (enhP (numZ s a o + m)))) := by
          simp only [F17]; rw [if_pos hr, allR, if_pos hn]
        simp [T29_eq, F16, F23, F71, h, h.1, hi, hn, w2, hF]
        refine X_keep (loop29 (enhP (numZ s a o + m)) hs.1.2 hs.2.1 s a o t m h hi (enhP (numZ s a o + m)).length 0 (by omega) (fun hx => ?_) (fun q hq => ?_)) ?_
        · rw [List.drop_zero] at hx
          simp [atP, hx]
        · rw [List.drop_zero] at hq
          simp [atP, hq]
        · simp
      · have hF : F17 [.i (numZ s a o + m)] = some (.pv .nilSlice) := by
          simp only [F17]; rw [if_pos hr, allR, if_neg hn]
        simp [T29_eq, F16, F23, F71, h, h.1, hi, hn, w2, hF, X_loop]
    · simp [T29_eq, F16, F23, h, hi]
  · simp [T29_eq, F16, h]
theorem meets29 (W0 : World) : OkAt W0 29 F27 := meets_fn env (tok29 W0) mixed Tryd.func29 (by kernel_rfl) (by kernel_rfl) fun args r h => by
  unfold F27 at h
  split at h
  · cases h; exact x29 _ _ _ _ _
  · cases h
/-- The reference's distance. -/
theorem x41 (a b : Int) (h : -2000 ≤ a ∧ a ≤ 2000 ∧ -2000 ≤ b ∧ b ≤ 2000) : XFn Y T0 Tryd.f41 [.i a, .i b] [] (Is (.i (distZ a b))) := by
  unfold XFn Tryd.f41
  rw [enter_2 _ (by decide)]
  have w1 : IntKind.i64.wrap (a - b) = a - b := wrap64 (by omega) (by omega)
  have w2 : IntKind.i64.wrap (b - a) = b - a := wrap64 (by omega) (by omega)
  by_cases hc : b < a
  · have : ¬ b - a > a - b := by omega
    simp [-Int.not_lt, -Int.not_le, hc, w1, distZ, this]
  · by_cases hd : b - a > a - b
    · simp [-Int.not_lt, -Int.not_le, hc, w2, distZ, hd]
    · have : a = b := by omega
      subst this
      simp [-Int.not_lt, -Int.not_le, show IntKind.i64.wrap 0 = 0 from rfl, distZ]
def F41 : List SV → Option SV
  | [.pv (.int .i64 a), .pv (.int .i64 b)] => if -2000 ≤ a ∧ a ≤ 2000 ∧ -2000 ≤ b ∧ b ≤ 2000 then some (.i (distZ a b)) else none
  | _ => none
theorem meets41 (W0 : World) : OkAt W0 41 F41 := meets_fn env tok_nil mixed Tryd.func41 (by kernel_rfl) (by kernel_rfl) fun args r h => by
  unfold F41 at h
  split at h
  · split at h
    · rename_i hc; cases h; exact x41 _ _ hc
    · cases h
  · cases h
noncomputable def T12 : FuncId → Option Pm.Spec := tab [(16, .pure false F16), (23, .pure false F23), (14, .pure false F71), (17, .pure false F17), (42, .pure false F38), (41, .pure false F41)]
theorem T12_eq (g : Nat) : T12 g = tab [(16, .pure false F16), (23, .pure false F23), (14, .pure false F71), (17, .pure false F17), (42, .pure false F38), (41, .pure false F41)] g := rfl
theorem tok12 (W0 : World) : TOk Tryd.prog W0 T12 := tok_cons (meets16 W0) (tok_cons (meets23 W0) (tok_cons (meets14 W0) (tok_cons (meets17 W0) (tok_cons (meets42 W0) (tok_cons (meets41 W0) tok_nil)))))
theorem loop12 {F : List Fr} {Q : SV × List Blk → Prop} {rs : List ResultVar} (l : List P) (hl : l.length ≤ 12) (ho : okP l = true) (s a o t m : Int) (hv : valid s a o) (hi : isI t m) : ∀ (r i : Nat) (b : P), i + r = l.length → inR b.1 b.2.1 b.2.2 →
    X Y T12 rs F (.exit 0) ⟨mk 61 .J [(4, .ptr 2 0), (7, .ptr 3 0)], [.box [.i s, .i a, .i o], .box [.i t, .i m], .box [.i 0, .i 0, .i 0], .box [.i (minZ (posZ s o + t) b (l.drop i)).1, .i (minZ (posZ s o + t) b (l.drop i)).2.1, .i (minZ (posZ s o + t) b (l.drop i)).2.2]]⟩ Q →
    X Y T12 rs F (.loop (loopN Tryd.f12 0)) ⟨mk 61 .J [(2, .ptr 0 0), (3, .ptr 1 0), (4, .ptr 2 0), (6, .pv (.slice 3 (rowP l))), (7, .ptr 3 0), (8, .i (i : Nat))], [.box [.i s, .i a, .i o], .box [.i t, .i m], .box [.i 0, .i 0, .i 0], .box [.i b.1, .i b.2.1, .i b.2.2]]⟩ Q := by
  intro r
  induction r with
  | zero =>
    intro i b e hb hx
    have q2 : ¬ (i : Int) < (l.length : Int) := by omega
    rw [List.drop_eq_nil_of_le (by omega)] at hx
    apply X_loop_of
    · simp only [loopN, Tryd.f12, loopsOf, List.nil_append, List.append_nil, List.cons_append, List.getD_cons_succ, List.getD_cons_zero]; rfl
    simp [-Int.not_lt, -Int.not_le, rowP_len, q2]
    refine X_keep hx ?_
    simp
  | succ r ih =>
    intro i b e hb hx
    have hil : i < l.length := by omega
    have q2 : (i : Int) < (l.length : Int) := by omega
    have q3 := next_i (m := i) (by omega)
    have r1 := rowP_at hil
    have o1 : inR (l.getD i (0, 0, 0)).1 (l.getD i (0, 0, 0)).2.1 (l.getD i (0, 0, 0)).2.2 := by
      have := List.all_eq_true.1 ho (l.getD i (0, 0, 0)) (by simp [hil])
      simpa using this
    have e1 : l.drop i = l.getD i (0, 0, 0) :: l.drop (i + 1) := by rw [List.drop_eq_getElem_cons hil]; simp [hil]
    rw [e1, minZ] at hx
    generalize l.getD i (0, 0, 0) = p at *
    obtain ⟨s', a', o'⟩ := p
    obtain ⟨s2, a2, o2⟩ := b
    simp only [posP] at o1 hb hx r1
    have hF : F38 [P3 s' a' o'] = some (.i (posZ s' o')) := by simp only [F38]; rw [if_pos o1]
    have hB : F38 [P3 s2 a2 o2] = some (.i (posZ s2 o2)) := by simp only [F38]; rw [if_pos hb]
    have hG : F38 [P3 s a o] = some (.i (posZ s o)) := by simp only [F38]; rw [if_pos hv.1]
    have hr := pos_range hv.1
    have hr' := pos_range o1
    have hr2 := pos_range hb
    have ht := hi.1
    have w1 : IntKind.i64.wrap (posZ s o + t) = posZ s o + t := wrap64 (by omega) (by omega)
    have d1 : F41 [.i (posZ s' o'), .i (posZ s o + t)] = some (.i (distZ (posZ s' o') (posZ s o + t))) := by simp only [F41]; rw [if_pos (by omega)]
    have d2 : F41 [.i (posZ s2 o2), .i (posZ s o + t)] = some (.i (distZ (posZ s2 o2) (posZ s o + t))) := by simp only [F41]; rw [if_pos (by omega)]
    have gz : ∀ {α : Type} (b : α) (l : List α), (b :: l)[0]? = some b := fun _ _ => rfl
    unfold cmpZ at hx
    generalize distZ (posZ s' o') (posZ s o + t) = x at *
    generalize distZ (posZ s2 o2) (posZ s o + t) = y at *
    apply X_loop_of
    · simp only [loopN, Tryd.f12, loopsOf, List.nil_append, List.append_nil, List.cons_append, List.getD_cons_succ, List.getD_cons_zero]; rfl
    by_cases hd : x < y
    · rw [if_pos (by omega)] at hx
      simp [-Int.natCast_add, -Int.not_lt, -Int.not_le, -getElem?_pos, List.getElem?_cons_succ, q2, q3, r1, rowP_len, T12_eq, hF, hG, hB, w1, d1, d2, hd, gz]
      refine X_keep (ih (i + 1) (s', a', o') (by omega) o1 hx) ?_
      simp [-Int.natCast_add]
    · rw [if_neg (by omega)] at hx
      simp [-Int.natCast_add, -Int.not_lt, -Int.not_le, -getElem?_pos, List.getElem?_cons_succ, q2, q3, r1, rowP_len, T12_eq, hF, hG, hB, w1, d1, d2, hd, gz]
      refine X_keep (ih (i + 1) (s2, a2, o2) (by omega) hb hx) ?_
      simp [-Int.natCast_add]
theorem x12 (s a o t m : Int) : XFn Y T12 Tryd.f12 [P3 s a o, I2 t m] [] (Is (exV (trR s a o t m))) := by
  unfold XFn Tryd.f12
  rw [enter_2 _ (by decide)]
  unfold trR
  by_cases h : valid s a o
  · by_cases hi : isI t m
    · obtain ⟨w1, w2, w3, w4⟩ := goal_wraps h hi
      have hr : -1000 ≤ numZ s a o + m ∧ numZ s a o + m ≤ 1000 := by
        obtain ⟨_, k⟩ := h
        obtain ⟨_, k2⟩ := hi
        omega
      by_cases hn : 0 ≤ numZ s a o + m ∧ numZ s a o + m ≤ 127
      · obtain ⟨e, hs⟩ := enh_p hn
        have hF : F17 [.i (numZ s a o + m)] = some (.fresh 23 3 (rowP (enhP (numZ s a o + m)))) := by
          simp only [F17]; rw [if_pos hr, allR, if_pos hn]
        obtain ⟨⟨h1, h2⟩, ho, hu⟩ := hs
        generalize enhP (numZ s a o + m) = l at *
        have r1 := rowP_at (l := l) (m := 0) (by omega)
        have o1 : inR (l.getD 0 (0, 0, 0)).1 (l.getD 0 (0, 0, 0)).2.1 (l.getD 0 (0, 0, 0)).2.2 := by
          have := List.all_eq_true.1 ho (l.getD 0 (0, 0, 0)) (List.mem_of_getElem? (i := 0) (by simp [show 0 < l.length by omega]))
          simpa using this
        have l0 : ¬ l.length = 0 := by omega
        have l1 : ¬ l = [] := fun e => by rw [e] at h1; simp at h1
        have gz : ∀ {α : Type} (b : α) (l : List α), (b :: l)[0]? = some b := fun _ _ => rfl
        have l2 : ¬ (l.length : Int) = 0 := by omega
        unfold minL
        generalize l.getD 0 (0, 0, 0) = p at *
        simp [-getElem?_pos, List.getElem?_cons_succ, T12_eq, F16, F23, F71, h, h.1, hi, hn, w2, hF, rowP_len, r1, l0, l1, l2, gz]
        refine X_keep (loop12 l h2 ho s a o t m h hi (l.length - 1) 1 p (by omega) o1 ?_) ?_
        · simp [-getElem?_pos, List.getElem?_cons_succ, gz]
        · simp
      · have hF : F17 [.i (numZ s a o + m)] = some (.pv .nilSlice) := by
          simp only [F17]; rw [if_pos hr, allR, if_neg hn]
        simp [T12_eq, F16, F23, F71, h, h.1, hi, hn, w2, hF]
    · simp [T12_eq, F16, F23, h, hi]
  · simp [T12_eq, F16, h]
theorem meets12 (W0 : World) : OkAt W0 12 F11 := meets_fn env (tok12 W0) mixed Tryd.func12 (by kernel_rfl) (by kernel_rfl) fun args r h => by
  unfold F11 at h
  split at h
  · cases h; exact x12 _ _ _ _ _
  · cases h
end Go.Proofs.YtmmpjnjdddaldaaDoor
