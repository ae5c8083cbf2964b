/- Sub and Negate, by the machine. -/
import Derived.Test.YtmmpjnjdddaldaaDoorIntN
set_option linter.unusedSimpArgs false
set_option linter.unusedVariables false
set_option maxRecDepth 1000000
set_option maxHeartbeats 400000
namespace Go.Proofs.YtmmpjnjdddaldaaDoor
open Go Go.Pm Go.RowKit
abbrev sumV (s m s' m' k : Int) : SV := .tuple [I2 (sumZ s m s' m' k).1.1 (sumZ s m s' m' k).1.2, .i (sumZ s m s' m' k).2]
def F18 : List SV → Option SV
  | [.agg [.pv (.int .i64 s), .pv (.int .i64 m)], .agg [.pv (.int .i64 s'), .pv (.int .i64 m')]] => some (sumV s m s' m' 1)
  | _ => none
theorem tok18 (W0 : World) : TOk Tryd.prog W0 T18 := tok_cons (meets46 W0) tok_nil
theorem meets18 (W0 : World) : OkAt W0 18 F18 := meets_fn env (tok18 W0) mixed Tryd.func18 (by kernel_rfl) (by kernel_rfl) fun args r h => by
  unfold F18 at h
  split at h
  · cases h; exact x18 _ _ _ _
  · cases h
theorem x19 (s m s' m' : Int) : XFn Y T18 Tryd.f19 [I2 s m, I2 s' m'] [] (Is (sumV s m s' m' (-1))) := by
  unfold XFn Tryd.f19
  rw [enter_2 _ (by decide)]
  obtain ⟨bs, hA⟩ := all46two (IntKind.i64.wrap (s - s')) (IntKind.i64.wrap (m - m')) s m s' m' [.box [.i s, .i m], .box [.i s', .i m'], .box [.i 0, .i 0]]
  have key : ((sumZ s m s' m' (-1)).1.1 = (if decide (isI s m ∧ isI s' m' ∧ isI (IntKind.i64.wrap (s - s')) (IntKind.i64.wrap (m - m'))) then IntKind.i64.wrap (s - s') else 0)) ∧ ((sumZ s m s' m' (-1)).1.2 = (if decide (isI s m ∧ isI s' m' ∧ isI (IntKind.i64.wrap (s - s')) (IntKind.i64.wrap (m - m'))) then IntKind.i64.wrap (m - m') else 0)) ∧
      ((sumZ s m s' m' (-1)).2 = (if decide (isI s m ∧ isI s' m' ∧ isI (IntKind.i64.wrap (s - s')) (IntKind.i64.wrap (m - m'))) then 0 else 2)) := by
    by_cases h : isI s m ∧ isI s' m'
    · have e1 : IntKind.i64.wrap (s - s') = s + -1 * s' := by
        obtain ⟨⟨⟨a1, a2⟩, a3, a4⟩, ⟨b1, b2⟩, b3, b4⟩ := h
        rw [wrap64 (by omega) (by omega)]; omega
      have e2 : IntKind.i64.wrap (m - m') = m + -1 * m' := by
        obtain ⟨⟨⟨a1, a2⟩, a3, a4⟩, ⟨b1, b2⟩, b3, b4⟩ := h
        rw [wrap64 (by omega) (by omega)]; omega
      rw [e1, e2]
      unfold sumZ
      by_cases h3 : isI (s + -1 * s') (m + -1 * m')
      · simp only [h.1, h.2, h3, and_self, if_true, decide_true] <;> trivial
      · simp only [h.1, h.2, h3, and_false, if_false, decide_false] <;> trivial
    · have h' : ∀ x y, ¬ (isI s m ∧ isI s' m' ∧ isI x y) := fun x y hx => h ⟨hx.1, hx.2.1⟩
      unfold sumZ
      simp [h']
  obtain ⟨q1, q2, q3⟩ := key
  unfold sumV
  rw [q1, q2, q3]
  simp [-Int.not_lt, -Int.not_le, T18_eq, hA, chkI]
def F19 : List SV → Option SV
  | [.agg [.pv (.int .i64 s), .pv (.int .i64 m)], .agg [.pv (.int .i64 s'), .pv (.int .i64 m')]] => some (sumV s m s' m' (-1))
  | _ => none
theorem meets19 (W0 : World) : OkAt W0 19 F19 := meets_fn env (tok18 W0) mixed Tryd.func19 (by kernel_rfl) (by kernel_rfl) fun args r h => by
  unfold F19 at h
  split at h
  · cases h; exact x19 _ _ _ _
  · cases h
noncomputable def T20 : FuncId → Option Pm.Spec := tab [(46, .heap (arunAll Y T46 Tryd.f46)), (47, .pure false F47)]
theorem T20_eq (g : Nat) : T20 g = tab [(46, .heap (arunAll Y T46 Tryd.f46)), (47, .pure false F47)] g := rfl
theorem x20 (s m : Int) : XFn Y T20 Tryd.f20 [I2 s m] [] (Is (sumV 0 0 s m (-1))) := by
  unfold XFn Tryd.f20
  rw [enter_1 _ (by decide)]
  obtain ⟨bs, hA⟩ := all46one (IntKind.i64.wrap (-s)) (IntKind.i64.wrap (-m)) s m [.box [.i s, .i m], .box [.i 0, .i 0]]
  have key : ((sumZ 0 0 s m (-1)).1.1 = (if decide (isI s m ∧ isI (IntKind.i64.wrap (-s)) (IntKind.i64.wrap (-m))) then IntKind.i64.wrap (-s) else 0)) ∧ ((sumZ 0 0 s m (-1)).1.2 = (if decide (isI s m ∧ isI (IntKind.i64.wrap (-s)) (IntKind.i64.wrap (-m))) then IntKind.i64.wrap (-m) else 0)) ∧
      ((sumZ 0 0 s m (-1)).2 = (if decide (isI s m ∧ isI (IntKind.i64.wrap (-s)) (IntKind.i64.wrap (-m))) then 0 else 2)) := by
    have h0 : isI 0 0 := ⟨⟨by omega, by omega⟩, by omega, by omega⟩
    by_cases h : isI s m
    · have e1 : IntKind.i64.wrap (-s) = 0 + -1 * s := by
        obtain ⟨⟨a1, a2⟩, a3, a4⟩ := h
        rw [wrap64 (by omega) (by omega)]; omega
      have e2 : IntKind.i64.wrap (-m) = 0 + -1 * m := by
        obtain ⟨⟨a1, a2⟩, a3, a4⟩ := h
        rw [wrap64 (by omega) (by omega)]; omega
      rw [e1, e2]
      unfold sumZ
      by_cases h3 : isI (0 + -1 * s) (0 + -1 * m)
      · simp only [h0, h, h3, and_self, if_true, decide_true] <;> trivial
      · simp only [h0, h, h3, and_false, if_false, decide_false] <;> trivial
    · unfold sumZ
      simp [h]
  obtain ⟨q1, q2, q3⟩ := key
  unfold sumV
  rw [q1, q2, q3]
  simp [-Int.not_lt, -Int.not_le, T20_eq, F47, hA, chkI]
def F20 : List SV → Option SV
  | [.agg [.pv (.int .i64 s), .pv (.int .i64 m)]] => some (sumV 0 0 s m (-1))
  | _ => none
theorem meets20 (W0 : World) : OkAt W0 20 F20 := meets_fn env (tok_cons (meets46 W0) (tok_cons (meets47 W0) tok_nil)) mixed Tryd.func20 (by kernel_rfl) (by kernel_rfl) fun args r h => by
  unfold F20 at h
  split at h
  · cases h; exact x20 _ _
  · cases h
end Go.Proofs.YtmmpjnjdddaldaaDoor
