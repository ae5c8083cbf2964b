/- The law of the line of fifths, by the interpreter. -/
import Derived.Test.YthoampbpeiehhaaDoorPitchK
set_option linter.unusedSimpArgs false
set_option linter.unusedVariables false
set_option maxRecDepth 100000
set_option maxHeartbeats 4000000
namespace Go.Proofs.YthoampbpeiehhaaDoor
open Go.Pm Go.RowKit
attribute [local simp] Y tys

theorem semi_cases {s : Int} (h : 0 ≤ s ∧ s ≤ 6) : (s = 0 ∧ semi s = 0 ∧ fif s = 0) ∨ (s = 1 ∧ semi s = 2 ∧ fif s = 2) ∨ (s = 2 ∧ semi s = 4 ∧ fif s = 4) ∨ (s = 3 ∧ semi s = 5 ∧ fif s = -1) ∨ (s = 4 ∧ semi s = 7 ∧ fif s = 1) ∨ (s = 5 ∧ semi s = 9 ∧ fif s = 3) ∨ (s = 6 ∧ semi s = 11 ∧ fif s = 5) := by
  have : s = 0 ∨ s = 1 ∨ s = 2 ∨ s = 3 ∨ s = 4 ∨ s = 5 ∨ s = 6 := by omega
  rcases this with rfl | rfl | rfl | rfl | rfl | rfl | rfl <;> simp [semi, fif]
theorem numW_eq {s a o : Int} (h : inR s a o) : numW s a o = 12 * (o + 1) + semi s + a := by
  have hs := semi_cases ⟨h.1, h.2.1⟩
  obtain ⟨h1, h2, h3, h4, h5, h6⟩ := h
  unfold numW
  rw [w64_id (n := o + 1) (by omega) (by omega), w64_id (n := 12 * (o + 1)) (by omega) (by omega), w64_id (n := 12 * (o + 1) + semi s) (by omega) (by omega), w64_id (by omega) (by omega)]
theorem fifW_eq {s a o : Int} (h : inR s a o) : fifW s a = fif s + 7 * a := by
  have hs := semi_cases ⟨h.1, h.2.1⟩
  obtain ⟨h1, h2, h3, h4, h5, h6⟩ := h
  unfold fifW
  rw [w64_id (n := 7 * a) (by omega) (by omega), w64_id (by omega) (by omega)]

noncomputable def T7 : FuncId → Option Pm.Spec := Tree.get (.node 22 (.pure false F22) (.node 16 (.pure false F16) (.node 13 (.pure false F13) .nil .nil) .nil) (.node 23 (.pure false F23) .nil .nil))
theorem tok7 {W0 : World} (L : Laid W0) : TOk Tryd.prog W0 T7 := tok_tree ⟨meets22 W0, ⟨meets16 W0, ⟨meets13 L, trivial, trivial⟩, trivial⟩, meets23 W0, trivial, trivial⟩

theorem tmod0 {x k : Int} (h : x = 12 * k) : x.tmod 12 = 0 := by subst h; simp

theorem w0 : IntKind.i64.wrap 0 = 0 := w64_id (by omega) (by omega)

theorem run7 (s a o s' a' o' : Int) (g : (-9223372036854775808 ≤ s ∧ s ≤ 9223372036854775807) ∧ (-9223372036854775808 ≤ a ∧ a ≤ 9223372036854775807) ∧ (-9223372036854775808 ≤ o ∧ o ≤ 9223372036854775807)) (g' : (-9223372036854775808 ≤ s' ∧ s' ≤ 9223372036854775807) ∧ (-9223372036854775808 ≤ a' ∧ a' ≤ 9223372036854775807) ∧ (-9223372036854775808 ≤ o' ∧ o' ≤ 9223372036854775807)) : prun Y T7 Tryd.f7 200 [P3 s a o, P3 s' a' o'] = some (.bool true) := by
  by_cases h : valid s a o
  · have e := (show ex s a o = true from if_pos h)
    by_cases h' : valid s' a' o'
    · have e' := (show ex s' a' o' = true from if_pos h')
      have n1 := numW_eq h.1
      have n2 := numW_eq h'.1
      have f1 := fifW_eq h.1
      have f2 := fifW_eq h'.1
      have c1 := semi_cases ⟨h.1.1, h.1.2.1⟩
      have c2 := semi_cases ⟨h'.1.1, h'.1.2.1⟩
      obtain ⟨⟨h1, h2, h3, h4, h5, h6⟩, h7, h8⟩ := id h
      obtain ⟨⟨k1, k2, k3, k4, k5, k6⟩, k7, k8⟩ := id h'
      generalize hA : numW s a o = A at *
      generalize hB : numW s' a' o' = B at *
      generalize hC : fifW s a = Cc at *
      generalize hD : fifW s' a' = Dd at *
      have w1 : w64 (A - B) = A - B := w64_id (by omega) (by omega)
      have w2 : w64 (Cc - Dd) = Cc - Dd := w64_id (by omega) (by omega)
      have w3 : w64 (7 * (Cc - Dd)) = 7 * (Cc - Dd) := w64_id (by omega) (by omega)
      have w4 : w64 (7 * (Cc - Dd) - (A - B)) = 7 * (Cc - Dd) - (A - B) := w64_id (by omega) (by omega)
      have d1 : ∃ k, 7 * (Cc - Dd) - (A - B) = 12 * k := ⟨(7 * (Cc - Dd) - (A - B)) / 12, by omega⟩
      obtain ⟨k, d1⟩ := d1
      have m1 : (7 * (Cc - Dd) - (A - B)).tmod 12 = 0 := tmod0 d1
      have inj : A = B ∧ Cc = Dd → s = s' ∧ a = a' ∧ o = o' := by
        intro ⟨x, y⟩
        rcases c1 with c | c | c | c | c | c | c <;> rcases c2 with d | d | d | d | d | d | d <;> omega
      clear c1 c2 n1 n2 f1 f2
      by_cases hp : s = s' ∧ a = a' ∧ o = o'
      · obtain ⟨rfl, rfl, rfl⟩ := hp
        unfold Tryd.f7
        simp [T7, F13, onQ, e, h, hA, hC, w0]
      · by_cases q1 : A = B
        · have q2 : ¬ Cc = Dd := fun q => hp (inj ⟨q1, q⟩)
          subst q1
          have m2 : (Cc - Dd).tmod 12 = 0 := tmod0 (k := (Cc - Dd) / 12) (by omega)
          simp only [Int.sub_self, Int.sub_zero] at w4 m1
          unfold Tryd.f7
          simp [T7, F13, onQ, e, e', h, h', hA, hB, hC, hD, w0, w2, w3, m1, m2, q2]
          have e1 : (Cc == Dd) = false := by simpa using q2
          rw [e1]
          cases hx : (s == s' && (a == a' && o == o')) with
          | false => rfl
          | true => simp at hx; exact absurd hx hp
        · have q3 : ¬ A - B = 0 := by omega
          unfold Tryd.f7
          simp [T7, F13, onQ, e, e', h, h', hA, hB, hC, hD, w0, w1, w2, w3, w4, m1, q1, q3]
          omega
    · have e' := (show ex s' a' o' = false from if_neg h')
      unfold Tryd.f7
      simp [T7, F13, onQ, e, e']
  · have e := (show ex s a o = false from if_neg h)
    unfold Tryd.f7
    simp [T7, F13, onQ, e]
end Go.Proofs.YthoampbpeiehhaaDoor
