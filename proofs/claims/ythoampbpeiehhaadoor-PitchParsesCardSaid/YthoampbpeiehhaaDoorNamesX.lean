/- The laws of names and of their readings, by the machine. -/
import Derived.Test.YthoampbpeiehhaaDoorParseX
set_option linter.unusedSimpArgs false
set_option linter.unusedVariables false
set_option maxRecDepth 1000000
set_option maxHeartbeats 400000
namespace Go.Proofs.YthoampbpeiehhaaDoor
open Go Go.Pm Go.RowKit
theorem first_names : ([-2, -1, 0, 1, 2] : List Int).all (fun a => octs.all fun o => decide (firstC (sgn a ++ octL o) [-2, -1, 0, 1, 2] = some (a, o))) = true := by decide +kernel
theorem first_name {a o : Int} (ha : -2 ≤ a ∧ a ≤ 2) (ho : -1 ≤ o ∧ o ≤ 9) : firstC (sgn a ++ octL o) [-2, -1, 0, 1, 2] = some (a, o) := by
  have h1 := List.all_eq_true.1 first_names a (by
    have : a = -2 ∨ a = -1 ∨ a = 0 ∨ a = 1 ∨ a = 2 := by omega
    rcases this with rfl | rfl | rfl | rfl | rfl <;> decide)
  have h2 := List.all_eq_true.1 h1 o (by rcases oct_cases ho with rfl | rfl | rfl | rfl | rfl | rfl | rfl | rfl | rfl | rfl | rfl <;> decide)
  simpa using h2
theorem step_of_letter {s : Int} (h : 0 ≤ s ∧ s ≤ 6) : stepOf (letter s) = s := by
  have : s = 0 ∨ s = 1 ∨ s = 2 ∨ s = 3 ∨ s = 4 ∨ s = 5 ∨ s = 6 := by omega
  rcases this with rfl | rfl | rfl | rfl | rfl | rfl | rfl <;> decide
theorem parse_name {s a o : Int} (hv : valid s a o) : parseR (nameL s a o) = .tuple [P3 s a o, .i 0, .i 0] := by
  have hr := hv.1
  unfold nameL parseR
  simp only []
  rw [step_of_letter ⟨hr.1, hr.2.1⟩, if_neg (by omega), first_name ⟨hr.2.2.1, hr.2.2.2.1⟩ ⟨hr.2.2.2.2.1, hr.2.2.2.2.2⟩]
  unfold outC
  simp only []
  rw [if_pos hv]
theorem name_len (s a o : Int) : (nameL s a o).length ≤ 1000 := by
  have h1 := sgn_len a
  have h2 := oct_len o
  simp only [nameL, List.length_cons, List.length_append]
  omega
noncomputable def T5 : FuncId → Option Pm.Spec := tab [(13, .pure false F13), (16, .pure false F16), (18, .pure false F18), (19, .pure false F19), (20, .pure false F20)]
theorem T5_eq (g : Nat) : T5 g = tab [(13, .pure false F13), (16, .pure false F16), (18, .pure false F18), (19, .pure false F19), (20, .pure false F20)] g := rfl
theorem tok5 {W0 : World} (L : Laid W0) : TOk Tryd.prog W0 T5 := tok_cons (meets13 L) (tok_cons (meets16 W0) (tok_cons (meets18 L) (tok_cons (meets19 L) (tok_cons (meets20 W0) tok_nil))))
theorem run5 (s a o : Int) (_h : (-9223372036854775808 ≤ s ∧ s ≤ 9223372036854775807) ∧ (-9223372036854775808 ≤ a ∧ a ≤ 9223372036854775807) ∧ (-9223372036854775808 ≤ o ∧ o ≤ 9223372036854775807)) : XFn Y T5 Tryd.f5 [P3 s a o] [] (Is (.bool true)) := by
  unfold XFn Tryd.f5
  rw [enter_1 _ (by decide)]
  by_cases hv : valid s a o
  · have e1 : ex s a o = true := if_pos hv
    have hr := hv.1
    have e2 := parse_name hv
    have e3 := name_len s a o
    simp [T5_eq, F13, F18, F19, F20, onQ, hv, e1, e2, e3, hr.1, hr.2.1, hr.2.2.1, hr.2.2.2.1, hr.2.2.2.2.1, hr.2.2.2.2.2]
  · have e1 : ex s a o = false := if_neg hv
    simp [T5_eq, F13, F18, onQ, hv, e1]

theorem parse_form (s : List UInt8) : ∃ x y z p e : Int, parseR s = .tuple [P3 x y z, .i p, .i e] := by
  unfold parseR
  split
  · exact ⟨_, _, _, _, _, rfl⟩
  · split
    · exact ⟨_, _, _, _, _, rfl⟩
    · unfold outC
      split
      · split <;> exact ⟨_, _, _, _, _, rfl⟩
      · exact ⟨_, _, _, _, _, rfl⟩
noncomputable def T6 : FuncId → Option Pm.Spec := tab [(13, .pure false F13), (19, .pure false F19), (21, .pure false F21)]
theorem T6_eq (g : Nat) : T6 g = tab [(13, .pure false F13), (19, .pure false F19), (21, .pure false F21)] g := rfl
theorem tok6 {W0 : World} (L : Laid W0) : TOk Tryd.prog W0 T6 := tok_cons (meets13 L) (tok_cons (meets19 L) (tok_cons (meets21 W0) tok_nil))
theorem run6 (s : List UInt8) {p : Prop} (_h : p) : XFn Y T6 Tryd.f6 [.str s] [] (Is (.bool true)) := by
  unfold XFn Tryd.f6
  rw [enter_1 _ (by decide)]
  by_cases hl : (40 : Int) < s.length
  · obtain ⟨x, y, z, p, e, he⟩ := parse_form (s.take 40)
    have h1 : (s.take 40).length ≤ 1000 := by simp; omega
    have h2 : 40 ≤ s.length := by omega
    simp [T6_eq, F13, F19, F21, hl, h1, h2, he]
  · obtain ⟨x, y, z, p, e, he⟩ := parse_form s
    have h1 : s.length ≤ 1000 := by omega
    simp [T6_eq, F13, F19, F21, hl, h1, he]
end Go.Proofs.YthoampbpeiehhaaDoor
