/- Time signatures: beats and levels of the reference, by the machine. -/
import Derived.Test.YtooajpojikkkdaaDoorMetreB
set_option linter.unusedSimpArgs false
set_option linter.unusedVariables false
set_option maxRecDepth 1000000
set_option maxHeartbeats 400000
namespace Go.Proofs.YtooajpojikkkdaaDoor
open Go Go.Pm
/-- What the groups come to. -/
theorem gfold_zero : ∀ (l : List Int) (i s n s' n' : Int), n < i → gfold l i s n = some (s', n') → s' = s ∧ n' = n ∧ ∀ g ∈ l, g = 0
  | [], i, s, n, s', n', _, h => by simp [gfold] at h; exact ⟨h.1.symm, h.2.symm, by simp⟩
  | g :: r, i, s, n, s', n', hi, h => by
    rw [gfold] at h
    split at h
    · cases h
    · rename_i hc
      split at h
      · omega
      · obtain ⟨a, b, c⟩ := gfold_zero r (i + 1) s n s' n' (by omega) h
        refine ⟨a, b, fun x hx => ?_⟩
        rcases List.mem_cons.1 hx with rfl | hx
        · omega
        · exact c x hx
theorem gfold_pos : ∀ (l : List Int) (i s s' n' : Int), gfold l i s i = some (s', n') → s' = s + (l.takeWhile fun g => decide (0 < g)).sum ∧ n' = i + (l.takeWhile fun g => decide (0 < g)).length ∧
    (∀ g ∈ l.takeWhile (fun g => decide (0 < g)), 0 < g ∧ g ≤ 64) ∧ l.filter (fun g => !(g == 0)) = l.takeWhile fun g => decide (0 < g)
  | [], i, s, s', n', h => by simp [gfold] at h; simp [h.1, h.2]
  | g :: r, i, s, s', n', h => by
    rw [gfold] at h
    split at h
    · cases h
    · rename_i hc
      split at h
      · rename_i hg
        obtain ⟨a, b, c, d⟩ := gfold_pos r (i + 1) (s + g) s' n' h
        have e1 : (g :: r).takeWhile (fun g => decide (0 < g)) = g :: r.takeWhile fun g => decide (0 < g) := List.takeWhile_cons_of_pos (by simpa using hg)
        have hne : (g == 0) = false := by simp; omega
        rw [e1]
        refine ⟨by simp [a]; omega, by simp [b]; omega, fun x hx => ?_, by rw [List.filter_cons, hne]; simp [d]⟩
        rcases List.mem_cons.1 hx with rfl | hx
        · omega
        · exact c x hx
      · rename_i hg
        obtain ⟨a, b, c⟩ := gfold_zero r (i + 1) s i s' n' (by omega) h
        have e1 : (g :: r).takeWhile (fun g => decide (0 < g)) = [] := List.takeWhile_cons_of_neg (by simpa using hg)
        have g0 : g = 0 := by omega
        rw [e1]
        refine ⟨by simp [a], by simp [b], by simp, ?_⟩
        subst g0
        rw [List.filter_eq_nil_iff]
        intro x hx
        rcases List.mem_cons.1 hx with rfl | hx
        · simp
        · simp [c x hx]
/-- The groups of a valid time signature: all at least 1, and they add up. -/
theorem grpL_facts {c u : Int} {gs : List Int} (h : okM c u gs) (h6 : gs.length = 6) : (∀ g ∈ grpL c u gs, 1 ≤ g ∧ g ≤ 64) ∧ (grpL c u gs).sum = c ∧ (grpL c u gs).length ≤ 64 ∧ grpL c u gs ≠ [] := by
  obtain ⟨hc, hu, hg⟩ := h
  by_cases hz : gs.getD 0 0 = 0
  · have hrep : grpL c u gs = List.replicate (c / sizeZ c u).toNat (sizeZ c u) := by unfold grpL; rw [if_pos hz]
    obtain ⟨d1, d2⟩ := size_div (c := c) (u := u) hc
    rw [hrep]
    refine ⟨fun g hm => ?_, by simpa using d1, ?_, ?_⟩
    · rw [List.mem_replicate] at hm; rcases d2 with e | e <;> omega
    · simp; rcases d2 with e | e <;> rw [e] at d1 ⊢ <;> omega
    · intro e
      have := congrArg List.length e
      simp at this
      rcases d2 with e | e <;> rw [e] at d1 this <;> omega
  · have hrep : grpL c u gs = gs.takeWhile fun g => decide (0 < g) := by unfold grpL; rw [if_neg hz]
    unfold grpB at hg
    have hne : ¬ gs = [0, 0, 0, 0, 0, 0] := by intro e; rw [e] at hz; simp at hz
    rw [decide_eq_false hne, Bool.false_or] at hg
    cases hf : gfold gs 0 0 0 with
    | none => rw [hf] at hg; cases hg
    | some st =>
      obtain ⟨s, n⟩ := st
      rw [hf] at hg
      simp at hg
      obtain ⟨a, b, d, e⟩ := gfold_pos gs 0 0 s n hf
      rw [hrep]
      have hlen : (gs.takeWhile fun g => decide (0 < g)).length ≤ 6 := by rw [← h6]; exact (List.takeWhile_prefix _).length_le
      refine ⟨fun g hm => ?_, by omega, by omega, ?_⟩
      · have := d g hm; omega
      · intro e; rw [e] at b; simp at b; omega
theorem F28_ok {c u g0 g1 g2 g3 g4 g5 : Int} (h : okM c u [g0, g1, g2, g3, g4, g5]) : True := trivial
def F28 : List SV → Option SV
  | [.agg [.pv (.int .i64 c), .pv (.int .i64 u), .pv (.int .i64 g0), .pv (.int .i64 g1), .pv (.int .i64 g2), .pv (.int .i64 g3), .pv (.int .i64 g4), .pv (.int .i64 g5)]] =>
    if okM c u [g0, g1, g2, g3, g4, g5] then some (.fresh 3 1 (rowI (grpL c u [g0, g1, g2, g3, g4, g5]))) else none
  | _ => none
theorem meets28 (W0 : World) : OkAt W0 28 F28 := meets_fn env tok_nil mixed Tryd.func28 (by kernel_rfl) (by kernel_rfl) fun args r h => by
  unfold F28 at h
  split at h
  · split at h
    · cases h; rename_i hu; exact x28 _ _ _ _ _ _ _ _ hu
    · cases h
  · cases h
/-- The onsets of groups. -/
def onsets (q : Int) : Int → List Int → List Int
  | _, [] => []
  | at_, g :: r => at_ :: onsets q (at_ + g * q) r
theorem onsets_len (q : Int) : ∀ (a : Int) (l : List Int), (onsets q a l).length = l.length
  | _, [] => rfl
  | a, g :: r => by simp [onsets, onsets_len q _ r]
def beatsZ (c u : Int) (gs : List Int) : List Int := onsets (unitZ u) 0 (grpL c u gs)
noncomputable def T29 : FuncId → Option Pm.Spec := tab [(28, .pure false F28), (39, .pure false F39)]
theorem T29_eq (g : Nat) : T29 g = tab [(28, .pure false F28), (39, .pure false F39)] g := rfl
theorem tok29 (W0 : World) : TOk Tryd.prog W0 T29 := tok_cons (meets28 W0) (tok_cons (meets39 W0) tok_nil)
theorem sum_nonneg {l : List Int} (h : ∀ g ∈ l, 1 ≤ g ∧ g ≤ 64) : 0 ≤ l.sum := by
  induction l with
  | nil => simp
  | cons a r ih =>
    have := ih fun g hg => h g (by simp [hg])
    have := h a (by simp)
    simp; omega
theorem loop29 {F : List Fr} {P : SV × List Blk → Prop} {rs : List ResultVar} (c u g0 g1 g2 g3 g4 g5 : Int) (hu : uOk u = true) (gr : List Int) : ∀ (r m : Nat) (H : List Blk) (es : List Int) (out : SV) (a : Int), m + r = gr.length → es.length = m → (∀ g ∈ gr.drop m, 1 ≤ g ∧ g ≤ 64) →
    0 ≤ a → a + (gr.drop m).sum * unitZ u ≤ 123863040 → H[0]? = some (.box (M8 c u g0 g1 g2 g3 g4 g5)) → Pm.Acc 3 1 H (rowI es) out → gr.length ≤ 64 →
    (∀ H' out', Pm.Acc 3 1 H' (rowI (es ++ onsets (unitZ u) a (gr.drop m))) out' → X Y T29 rs F (.exit 0) ⟨mk 29 .J [(3, out')], H'⟩ P) →
    X Y T29 rs F (.loop (loopN Tryd.f29 0)) ⟨mk 29 .J [(1, .ptr 0 0), (3, out), (4, .pv (.slice 1 (rowI gr))), (5, .i a), (6, .i (m : Nat))], H⟩ P := by
  intro r
  induction r with
  | zero =>
    intro m H es out a h1 hl hg ha hs hb hA h64 hx
    have e1 : m = gr.length := by omega
    have q2 : ¬ (m : Int) < (gr.length : Int) := by omega
    rw [List.drop_eq_nil_of_le (by omega)] at hx
    apply X_loop_of
    · simp only [loopN, Tryd.f29, loopsOf, List.nil_append, List.append_nil, List.cons_append, List.getD_cons_succ, List.getD_cons_zero]; rfl
    simp [-Int.not_lt, -Int.not_le, rowI_len, q2]
    refine X_keep (hx H out (by simpa [onsets] using hA)) ?_
    simp
  | succ r ih =>
    intro m H es out a h1 hl hg ha hs hb hA h64 hx
    have hm : m < gr.length := by omega
    have q2 : (m : Int) < (gr.length : Int) := by omega
    have hr := unitZ_range hu
    have e1 := List.drop_eq_getElem_cons hm
    have hgm : gr[m]? = some gr[m] := by simp [hm]
    rw [e1] at hg hs hx
    generalize gr[m] = g at *
    have h1g := hg g (by simp)
    have hsum := sum_nonneg (l := gr.drop (m + 1)) fun x hx => hg x (by simp [hx])
    have hrow : (rowI gr)[m]? = some [.int .i64 g] := by rw [rowI_get, hgm]; rfl
    have hmul : 0 ≤ (gr.drop (m + 1)).sum * unitZ u := Int.mul_nonneg hsum (by omega)
    have hsd : (g + (gr.drop (m + 1)).sum) * unitZ u = g * unitZ u + (gr.drop (m + 1)).sum * unitZ u := Int.add_mul _ _ _
    have hgu : 0 ≤ g * unitZ u := Int.mul_nonneg (by omega) (by omega)
    simp only [List.sum_cons, hsd] at hs
    have q3 : IntKind.i64.wrap ((m : Int) + 1) = ((m + 1 : Nat) : Int) := by rw [show ((m : Int) + 1) = ((m + 1 : Nat) : Int) by omega]; exact wrap64 (by omega) (by omega)
    have q4 : IntKind.i64.wrap (g * unitZ u) = g * unitZ u := wrap64 (by omega) (by omega)
    have q5 : IntKind.i64.wrap (a + g * unitZ u) = a + g * unitZ u := wrap64 (by omega) (by omega)
    obtain ⟨out1, H1, a1, a2, a3⟩ := app3 a (by omega) hA
    apply X_loop_of
    · simp only [loopN, Tryd.f29, loopsOf, List.nil_append, List.append_nil, List.cons_append, List.getD_cons_succ, List.getD_cons_zero]; rfl
    simp [-aAppend, -Int.natCast_add, -Int.not_lt, -Int.not_le, q2, q3, q4, q5, hrow, hb, a3 _ _ hb, a1, hA.live, a2.live, T29_eq, F39, hu, rowI_len, -getElem?_pos]
    refine X_keep (ih (m + 1) H1 (es ++ [a]) out1 (a + g * unitZ u) (by omega) (by simp; omega) (fun x hx => hg x (by simp [hx])) (by omega) (by omega) (a3 _ _ hb) a2 h64 (fun H' out' hA' => hx H' out' ?_)) ?_
    · rw [onsets, List.append_cons]; exact hA'
    · simp
theorem x29 (c u g0 g1 g2 g3 g4 g5 : Int) (h : okM c u [g0, g1, g2, g3, g4, g5]) : XFn Y T29 Tryd.f29 [.agg (M8 c u g0 g1 g2 g3 g4 g5)] [] (Is (.fresh 3 1 (rowI (beatsZ c u [g0, g1, g2, g3, g4, g5])))) := by
  unfold XFn Tryd.f29
  rw [enter_1 _ (by decide)]
  obtain ⟨f1, f2, f3, f4⟩ := grpL_facts h rfl
  have hl := lenZ_range h.1 h.2.1
  simp [-outR, T29_eq, F28, h]
  refine X_keep (loop29 c u g0 g1 g2 g3 g4 g5 h.2.1 (grpL c u [g0, g1, g2, g3, g4, g5]) _ 0 _ [] _ 0 (by rw [Nat.zero_add]) rfl (by simpa using f1) (by omega) (by simp [f2]; unfold lenZ at hl; omega) rfl Acc.nil f3 ?_) ?_
  · intro H' out' hA
    simp only [List.nil_append, List.drop_zero] at hA
    simp [-outR, hA.live]
    rw [hA.outR, if_neg]
    · rfl
    · intro e
      have := congrArg List.length e
      simp [rowI, onsets_len] at this
      exact f4 this
  · simp
def F29 : List SV → Option SV
  | [.agg [.pv (.int .i64 c), .pv (.int .i64 u), .pv (.int .i64 g0), .pv (.int .i64 g1), .pv (.int .i64 g2), .pv (.int .i64 g3), .pv (.int .i64 g4), .pv (.int .i64 g5)]] =>
    if okM c u [g0, g1, g2, g3, g4, g5] then some (.fresh 3 1 (rowI (beatsZ c u [g0, g1, g2, g3, g4, g5]))) else none
  | _ => none
theorem meets29 (W0 : World) : OkAt W0 29 F29 := meets_fn env (tok29 W0) mixed Tryd.func29 (by kernel_rfl) (by kernel_rfl) fun args r h => by
  unfold F29 at h
  split at h
  · split at h
    · cases h; rename_i hu; exact x29 _ _ _ _ _ _ _ _ hu
    · cases h
  · cases h
end Go.Proofs.YtooajpojikkkdaaDoor
