/- The law of a pitch by its diatonic number, by the interpreter. -/
import Derived.Test.YthoampbpeiehhaaDoorPitchK
set_option linter.unusedSimpArgs false
set_option linter.unusedVariables false
set_option maxRecDepth 100000
set_option maxHeartbeats 4000000
namespace Go.Proofs.YthoampbpeiehhaaDoor
open Go.Pm Go.RowKit
attribute [local simp] Y tys

theorem run24 (d a : Int) (hd : -9223372036854775808 ≤ d ∧ d ≤ 9223372036854775807) : prun Y TE Tryd.f24 100 [.i d, .i a] = some (.tuple (if valid (d % 7) a (d / 7) then [P3 (d % 7) a (d / 7), .i 0] else [P3 0 0 0, .i 18])) := by
  unfold Tryd.f24
  by_cases h : valid (d % 7) a (d / 7)
  · have e : chk (d % 7) a (d / 7) = 0 := if_pos h
    rw [if_pos h]
    simp [TE, F34, onQ, hd, e]
  · have e : chk (d % 7) a (d / 7) = 18 := if_neg h
    rw [if_neg h]
    simp [TE, F34, onQ, hd, e]
def F24 : List SV → Option SV
  | [.pv (.int .i64 d), .pv (.int .i64 a)] => if -9223372036854775808 ≤ d ∧ d ≤ 9223372036854775807 then some (.tuple (if valid (d % 7) a (d / 7) then [P3 (d % 7) a (d / 7), .i 0] else [P3 0 0 0, .i 18])) else none
  | _ => none
theorem meets24 (W0 : World) : OkAt W0 24 F24 := ⟨enterable_of Tryd.func24 (by kernel_rfl), meets_prun env (tokE W0) mixed Tryd.func24 rfl (by kernel_rfl) fun args r h => by
  unfold F24 at h
  split at h
  · split at h
    · cases h; rename_i h; exact ⟨100, run24 _ _ h⟩
    · cases h
  · cases h⟩

noncomputable def T8 : FuncId → Option Pm.Spec := Tree.get (.node 16 (.pure false F16) (.node 13 (.pure false F13) .nil .nil) (.node 24 (.pure false F24) .nil (.node 25 (.pure false F25) .nil .nil)))
theorem tok8 {W0 : World} (L : Laid W0) : TOk Tryd.prog W0 T8 := tok_tree ⟨meets16 W0, ⟨meets13 L, trivial, trivial⟩, meets24 W0, trivial, meets25 W0, trivial, trivial⟩

theorem run8 (d a : Int) (hd : -9223372036854775808 ≤ d ∧ d ≤ 9223372036854775807) (ha : -9223372036854775808 ≤ a ∧ a ≤ 9223372036854775807) : prun Y T8 Tryd.f8 200 [.i d, .i a] = some (.bool true) := by
  by_cases h : valid (d % 7) a (d / 7)
  · have e2 : ex (d % 7) a (d / 7) = true := if_pos h
    have ed : diaW (d % 7) (d / 7) = d := by
      have h1 : -1 ≤ d / 7 := h.1.2.2.2.2.1
      have h2 : d / 7 ≤ 9 := h.1.2.2.2.2.2
      unfold diaW
      rw [w64_id (n := 7 * (d / 7)) (by omega) (by omega), w64_id (by omega) (by omega)]
      omega
    unfold Tryd.f8
    simp [T8, F13, F24, onQ, hd, h, e2, ed]
  · have e2 : ex (d % 7) a (d / 7) = false := if_neg h
    by_cases h1 : d < -7
    · unfold Tryd.f8
      simp [T8, F13, F24, onQ, hd, h, h1]
    by_cases h2 : d > 69
    · unfold Tryd.f8
      simp [T8, F13, F24, onQ, hd, h, h1, h2, show 69 < d from h2, show ¬ d < -7 from h1]
    by_cases h3 : a < -2
    · unfold Tryd.f8
      simp [T8, F13, F24, onQ, hd, h, h1, h2, h3, show ¬ 69 < d from h2, show -7 ≤ d by omega, show d ≤ 69 by omega]
    by_cases h4 : a > 2
    · unfold Tryd.f8
      simp [T8, F13, F24, onQ, hd, h, h1, h2, h3, h4, show ¬ 69 < d from h2, show -7 ≤ d by omega, show d ≤ 69 by omega, show 2 < a from h4]
    have e3 : w64 (d + 7) = d + 7 := w64_id (by omega) (by omega)
    have e4 : (d + 7).tmod 7 = d % 7 := by rw [Int.tmod_eq_emod_of_nonneg (by omega)]; omega
    have e5 : (d + 7).tdiv 7 = d / 7 + 1 := by rw [Int.tdiv_eq_ediv_of_nonneg (by omega)]; omega
    have e6 : w64 (d / 7 + 1) = d / 7 + 1 := w64_id (by omega) (by omega)
    have e7 : w64 (d / 7) = d / 7 := w64_id (by omega) (by omega)
    unfold Tryd.f8
    simp [T8, F13, F24, onQ, hd, h, h1, h2, h3, h4, e2, e3, e4, e5, e6, e7, show ¬ 69 < d from h2, show -7 ≤ d by omega, show d ≤ 69 by omega, show ¬ 2 < a from h4]
end Go.Proofs.YthoampbpeiehhaaDoor
