/- Add, Sub, Negate, by the machine. -/
import Derived.Test.YtmmpjnjdddaldaaDoorIntM
set_option linter.unusedSimpArgs false
set_option linter.unusedVariables false
set_option maxRecDepth 1000000
set_option maxHeartbeats 400000
namespace Go.Proofs.YtmmpjnjdddaldaaDoor
open Go Go.Pm Go.RowKit
noncomputable def T18 : FuncId → Option Pm.Spec := tab [(46, .heap (arunAll Y T46 Tryd.f46))]
theorem T18_eq (g : Nat) : T18 g = tab [(46, .heap (arunAll Y T46 Tryd.f46))] g := rfl
theorem x18 (s m s' m' : Int) : XFn Y T18 Tryd.f18 [I2 s m, I2 s' m'] [] (Is (.tuple [I2 (sumZ s m s' m' 1).1.1 (sumZ s m s' m' 1).1.2, .i (sumZ s m s' m' 1).2])) := by
  unfold XFn Tryd.f18
  rw [enter_2 _ (by decide)]
  obtain ⟨bs, hA⟩ := all46two (IntKind.i64.wrap (s + s')) (IntKind.i64.wrap (m + m')) s m s' m' [.box [.i s, .i m], .box [.i s', .i m'], .box [.i 0, .i 0]]
  have key : ((sumZ s m s' m' 1).1.1 = (if decide (isI s m ∧ isI s' m' ∧ isI (IntKind.i64.wrap (s + s')) (IntKind.i64.wrap (m + m'))) then IntKind.i64.wrap (s + s') else 0)) ∧ ((sumZ s m s' m' 1).1.2 = (if decide (isI s m ∧ isI s' m' ∧ isI (IntKind.i64.wrap (s + s')) (IntKind.i64.wrap (m + m'))) then IntKind.i64.wrap (m + m') else 0)) ∧
      ((sumZ s m s' m' 1).2 = (if decide (isI s m ∧ isI s' m' ∧ isI (IntKind.i64.wrap (s + s')) (IntKind.i64.wrap (m + m'))) then 0 else 2)) := by
    by_cases h : isI s m ∧ isI s' m'
    · have e1 : IntKind.i64.wrap (s + s') = s + s' := by
        obtain ⟨⟨⟨a1, a2⟩, a3, a4⟩, ⟨b1, b2⟩, b3, b4⟩ := h
        exact wrap64 (by omega) (by omega)
      have e2 : IntKind.i64.wrap (m + m') = m + m' := by
        obtain ⟨⟨⟨a1, a2⟩, a3, a4⟩, ⟨b1, b2⟩, b3, b4⟩ := h
        exact wrap64 (by omega) (by omega)
      rw [e1, e2]
      unfold sumZ
      by_cases h3 : isI (s + s') (m + m') <;> simp [h.1, h.2, h3]
    · have h' : ∀ x y, ¬ (isI s m ∧ isI s' m' ∧ isI x y) := fun x y hx => h ⟨hx.1, hx.2.1⟩
      unfold sumZ
      simp [h']
  obtain ⟨q1, q2, q3⟩ := key
  rw [q1, q2, q3]
  simp [-Int.not_lt, -Int.not_le, T18_eq, hA, chkI]
end Go.Proofs.YtmmpjnjdddaldaaDoor
