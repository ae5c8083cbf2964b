/- The law of the order, by the machine. -/
import Derived.Test.YthoampbpeiehhaaDoorComparesWalk
set_option linter.unusedSimpArgs false
set_option linter.unusedVariables false
set_option maxRecDepth 1000000
set_option maxHeartbeats 1000000
namespace Go.Proofs.YthoampbpeiehhaaDoor
open Go.Pm
def lexS (A C B D : Int) : Int := if A < B then -1 else if B < A then 1 else if C < D then -1 else if D < C then 1 else 0
theorem cmp_lex (s a o s' a' o' : Int) : cmpP s a o s' a' o' = lexS (key1 s a o) (key2 s a o) (key1 s' a' o') (key2 s' a' o') := cmp_keys s a o s' a' o'
theorem lexS_neg (A C B D : Int) : lexS B D A C = - lexS A C B D := by
  by_cases h1 : A < B <;> by_cases h2 : B < A <;> by_cases h3 : C < D <;> by_cases h4 : D < C <;> first | omega | simp [lexS, h1, h2, h3, h4]
theorem lexS_range (A C B D : Int) : -1 ≤ lexS A C B D ∧ lexS A C B D ≤ 1 := by
  unfold lexS
  split
  · omega
  · split
    · omega
    · split
      · omega
      · split <;> omega
theorem lexS_le (A C B D : Int) : lexS A C B D ≤ 0 ↔ A < B ∨ (A = B ∧ C ≤ D) := by
  unfold lexS
  split
  · omega
  · split
    · omega
    · split
      · omega
      · split <;> omega
theorem lexS_zero (A C B D : Int) : lexS A C B D = 0 ↔ A = B ∧ C = D := by
  unfold lexS
  split
  · omega
  · split
    · omega
    · split
      · omega
      · split <;> omega
theorem semi_rangeC {s : Int} (h : 0 ≤ s ∧ s ≤ 6) : 0 ≤ semi s ∧ semi s ≤ 11 := by
  obtain ⟨h1, h2⟩ := h
  have : s = 0 ∨ s = 1 ∨ s = 2 ∨ s = 3 ∨ s = 4 ∨ s = 5 ∨ s = 6 := by omega
  rcases this with rfl | rfl | rfl | rfl | rfl | rfl | rfl <;> decide
theorem numW_eqC {s a o : Int} (h : inR s a o) : numW s a o = 12 * (o + 1) + semi s + a := by
  have hs := semi_rangeC ⟨h.1, h.2.1⟩
  obtain ⟨h1, h2, h3, h4, h5, h6⟩ := h
  unfold numW
  rw [w64_id (n := o + 1) (by omega) (by omega), w64_id (n := 12 * (o + 1)) (by omega) (by omega), w64_id (n := 12 * (o + 1) + semi s) (by omega) (by omega), w64_id (by omega) (by omega)]
theorem diaW_eqC {s a o : Int} (h : inR s a o) : diaW s o = 7 * o + s := by
  obtain ⟨h1, h2, h3, h4, h5, h6⟩ := h
  unfold diaW
  rw [w64_id (n := 7 * o) (by omega) (by omega), w64_id (by omega) (by omega)]
theorem cmp_zero {s a o s' a' o' : Int} (h : cmpP s a o s' a' o' = 0) (hv : valid s a o) : s = s' ∧ a = a' ∧ o = o' := by
  rw [cmp_lex, lexS_zero] at h
  obtain ⟨h1, h2⟩ := h
  have n1 : 0 ≤ numW s a o := hv.2.1
  have hv' : valid s' a' o' := by
    by_cases h' : valid s' a' o'
    · exact h'
    · unfold key1 at h1
      rw [if_pos hv, if_neg h'] at h1
      omega
  unfold key1 at h1
  unfold key2 at h2
  rw [if_pos hv, if_pos hv', numW_eqC hv.1, numW_eqC hv'.1] at h1
  rw [if_pos hv, if_pos hv', diaW_eqC hv.1, diaW_eqC hv'.1] at h2
  have r := hv.1
  have r' := hv'.1
  have e1 : o = o' := by omega
  have e2 : s = s' := by omega
  subst e1; subst e2
  exact ⟨rfl, by omega, rfl⟩
noncomputable def T11 : FuncId → Option Pm.Spec := tab [(13, .pure false F13), (16, .pure false F16), (32, .pure false F32), (33, .pure false F32)]
theorem T11_eq (g : Nat) : T11 g = tab [(13, .pure false F13), (16, .pure false F16), (32, .pure false F32), (33, .pure false F32)] g := rfl
theorem tok11 {W0 : World} (L : Laid W0) : TOk Tryd.prog W0 T11 := tok_cons (meets13 L) (tok_cons (meets16 W0) (tok_cons (meets32 W0) (tok_cons (meets33 W0) tok_nil)))
theorem x11 (s a o s' a' o' s'' a'' o'' : Int) : XFn Y T11 Tryd.f11 [P3 s a o, P3 s' a' o', P3 s'' a'' o''] [] (Is (.bool true)) := by
  unfold XFn Tryd.f11
  rw [enter_3 _ (by decide)]
  have hneg : cmpP s' a' o' s a o = -cmpP s a o s' a' o' := by rw [cmp_lex, cmp_lex]; exact lexS_neg _ _ _ _
  have hx : -1 ≤ cmpP s a o s' a' o' ∧ cmpP s a o s' a' o' ≤ 1 := by rw [cmp_lex]; exact lexS_range _ _ _ _
  have ht : cmpP s a o s' a' o' ≤ 0 → cmpP s' a' o' s'' a'' o'' ≤ 0 → cmpP s a o s'' a'' o'' ≤ 0 := by
    rw [cmp_lex, cmp_lex, cmp_lex, lexS_le, lexS_le, lexS_le]; omega
  have hz := @cmp_zero s a o s' a' o'
  generalize hX : cmpP s a o s' a' o' = x at *
  generalize hY : cmpP s' a' o' s'' a'' o'' = y at *
  generalize hZ : cmpP s a o s'' a'' o'' = z at *
  have h0 : IntKind.i64.wrap 0 = 0 := wrap64 (by omega) (by omega)
  have hw : IntKind.i64.wrap (-x) = -x := wrap64 (by omega) (by omega)
  by_cases c1 : 0 < x
  · have c2 : ¬ x = 0 := by omega
    simp [T11_eq, F13, onPP, onQ, hX, hY, hZ, hneg, hw, c1, c2, -Int.not_lt, -Int.not_le]
  · by_cases c2 : x = 0
    · subst c2
      by_cases hv : valid s a o
      · obtain ⟨rfl, rfl, rfl⟩ := hz rfl hv
        have e1 : ex s a o = true := if_pos hv
        by_cases c3 : 0 < y
        · simp [T11_eq, F13, onPP, onQ, hX, hY, hZ, hneg, e1, h0, c3, -Int.not_lt, -Int.not_le]
        · have c4 : z ≤ 0 := ht (by omega) (by omega)
          simp [T11_eq, F13, onPP, onQ, hX, hY, hZ, hneg, e1, h0, c3, c4, -Int.not_lt, -Int.not_le]
          omega
      · have e1 : ex s a o = false := if_neg hv
        by_cases c3 : 0 < y
        · simp [T11_eq, F13, onPP, onQ, hX, hY, hZ, hneg, e1, h0, c3, -Int.not_lt, -Int.not_le]
        · have c4 : z ≤ 0 := ht (by omega) (by omega)
          simp [T11_eq, F13, onPP, onQ, hX, hY, hZ, hneg, e1, h0, c3, c4, -Int.not_lt, -Int.not_le]
    · by_cases c3 : 0 < y
      · simp [T11_eq, F13, onPP, onQ, hX, hY, hZ, hneg, hw, c1, c2, c3, -Int.not_lt, -Int.not_le]
      · have c4 : z ≤ 0 := ht (by omega) (by omega)
        simp [T11_eq, F13, onPP, onQ, hX, hY, hZ, hneg, hw, c1, c2, c3, c4, -Int.not_lt, -Int.not_le]
theorem run11 (s a o s' a' o' s'' a'' o'' : Int) (_h : (-9223372036854775808 ≤ s ∧ s ≤ 9223372036854775807) ∧ (-9223372036854775808 ≤ a ∧ a ≤ 9223372036854775807) ∧ (-9223372036854775808 ≤ o ∧ o ≤ 9223372036854775807))
    (_h' : (-9223372036854775808 ≤ s' ∧ s' ≤ 9223372036854775807) ∧ (-9223372036854775808 ≤ a' ∧ a' ≤ 9223372036854775807) ∧ (-9223372036854775808 ≤ o' ∧ o' ≤ 9223372036854775807))
    (_h'' : (-9223372036854775808 ≤ s'' ∧ s'' ≤ 9223372036854775807) ∧ (-9223372036854775808 ≤ a'' ∧ a'' ≤ 9223372036854775807) ∧ (-9223372036854775808 ≤ o'' ∧ o'' ≤ 9223372036854775807)) : XFn Y T11 Tryd.f11 [P3 s a o, P3 s' a' o', P3 s'' a'' o''] [] (Is (.bool true)) :=
  x11 s a o s' a' o' s'' a'' o''
end Go.Proofs.YthoampbpeiehhaaDoor
