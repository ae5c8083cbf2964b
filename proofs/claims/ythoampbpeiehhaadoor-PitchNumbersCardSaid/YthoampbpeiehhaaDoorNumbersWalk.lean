/- The law of the numbers, by the interpreter. -/
import Derived.Test.YthoampbpeiehhaaDoorPitchK
set_option linter.unusedSimpArgs false
set_option linter.unusedVariables false
set_option maxRecDepth 100000
set_option maxHeartbeats 4000000
namespace Go.Proofs.YthoampbpeiehhaaDoor
open Go.Pm Go.RowKit
attribute [local simp] Y tys

noncomputable def T9 : FuncId → Option Pm.Spec := Tree.get (.node 25 (.pure false F25) (.node 22 (.pure false F22) (.node 16 (.pure false F16) (.node 13 (.pure false F13) .nil .nil) .nil) (.node 23 (.pure false F23) .nil .nil)) (.node 28 (.pure false F28) (.node 27 (.pure false F27) (.node 26 (.pure false F26) .nil .nil) .nil) (.node 29 (.pure false F29) .nil .nil)))
theorem tok9 {W0 : World} (L : Laid W0) : TOk Tryd.prog W0 T9 :=
  tok_tree ⟨meets25 W0, ⟨meets22 W0, ⟨meets16 W0, ⟨meets13 L, trivial, trivial⟩, trivial⟩, meets23 W0, trivial, trivial⟩, meets28 W0, ⟨meets27 W0, ⟨meets26 W0, trivial, trivial⟩, trivial⟩, meets29 W0, trivial, trivial⟩
theorem run9 (s a o : Int) : prun Y T9 Tryd.f9 200 [P3 s a o] = some (.bool true) := by
  unfold Tryd.f9
  by_cases h : valid s a o
  · have e : chk s a o = 0 := if_pos h
    have e2 : ex s a o = true := if_pos h
    have h1 : 0 ≤ s ∧ s ≤ 6 := ⟨h.1.1, h.1.2.1⟩
    simp [T9, F13, onQ, onP, e, e2, h1, h]
  · have e : chk s a o = 18 := if_neg h
    have e2 : ex s a o = false := if_neg h
    simp [T9, F13, onQ, onP, e, e2, h]
end Go.Proofs.YthoampbpeiehhaaDoor
