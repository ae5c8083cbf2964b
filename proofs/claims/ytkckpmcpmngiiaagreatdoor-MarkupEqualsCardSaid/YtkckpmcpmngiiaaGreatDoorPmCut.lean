/- A function's code cut in two: the run up to a place, and the run from it on. -/
import Derived.Test.YtkckpmcpmngiiaaGreatDoorPmX
set_option linter.unusedSimpArgs false
set_option linter.unusedVariables false
namespace Go.Pm
/-- Code that is not looked into for now. -/
def Hold (c : Code) : Code := c
def restN : Nat → Code → Code
  | 0, c => c
  | n + 1, .seq _ b => restN n b
  | _ + 1, c => c
def glue : Nat → Code → Code → Code
  | 0, _, t => t
  | n + 1, .seq a b, t => .seq a (glue n b t)
  | _ + 1, c, _ => c
theorem glue_rest : ∀ (n : Nat) (c : Code), glue n c (restN n c) = c
  | 0, c => rfl
  | n + 1, c => by cases c <;> simp [glue, restN, glue_rest n]
theorem X_cut {Y : TypeId → Option Ty} {T : FuncId → Option Spec} {rs : List ResultVar} {F : List Fr} {s : St} {P : SV × List Blk → Prop} (n : Nat) {c : Code} (h : X Y T rs F (glue n c (Hold (restN n c))) s P) : X Y T rs F c s P := by
  unfold Hold at h
  rw [glue_rest] at h
  exact h
end Go.Pm
