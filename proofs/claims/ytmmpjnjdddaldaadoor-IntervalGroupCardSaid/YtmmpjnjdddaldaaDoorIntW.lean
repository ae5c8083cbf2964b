/- The group's law, by the machine. -/
import Derived.Test.YtmmpjnjdddaldaaDoorIntV
set_option linter.unusedSimpArgs false
set_option linter.unusedVariables false
set_option maxRecDepth 1000000
set_option maxHeartbeats 1000000
namespace Go.Proofs.YtmmpjnjdddaldaaDoor
open Go Go.Pm Go.RowKit
noncomputable def T6 : FuncId → Option Pm.Spec := tab [(13, .pure false F13), (24, .pure false F24), (18, .pure false F18), (19, .pure false F19), (25, .pure false F25)]
theorem T6_eq (g : Nat) : T6 g = tab [(13, .pure false F13), (24, .pure false F24), (18, .pure false F18), (19, .pure false F19), (25, .pure false F25)] g := rfl
theorem tok6 (W0 : World) : TOk Tryd.prog W0 T6 := tok_cons (meets13 W0) (tok_cons (meets24 W0) (tok_cons (meets18 W0) (tok_cons (meets19 W0) (tok_cons (meets25 W0) tok_nil))))
theorem rem_all : ((List.range 256).all fun k => decide ((-20 ≤ ((k : Int) - 128).tmod 21 ∧ ((k : Int) - 128).tmod 21 ≤ 20) ∧ -30 ≤ ((k : Int) - 128).tmod 31 ∧ ((k : Int) - 128).tmod 31 ≤ 30)) = true := by kernel_rfl
theorem rem_range {a : Int} (h : -128 ≤ a ∧ a ≤ 127) : (-20 ≤ a.tmod 21 ∧ a.tmod 21 ≤ 20) ∧ -30 ≤ a.tmod 31 ∧ a.tmod 31 ≤ 30 := by
  have h1 := List.all_eq_true.1 rem_all (a + 128).toNat (by simp; omega)
  rw [show (((a + 128).toNat : Nat) : Int) - 128 = a by omega] at h1
  exact of_decide_eq_true h1
theorem x6 (a0 a1 b0 b1 c0 c1 : Int) (h0 : -128 ≤ a0 ∧ a0 ≤ 127) (h1 : -128 ≤ a1 ∧ a1 ≤ 127) (h2 : -128 ≤ b0 ∧ b0 ≤ 127) (h3 : -128 ≤ b1 ∧ b1 ≤ 127) (h4 : -128 ≤ c0 ∧ c0 ≤ 127) (h5 : -128 ≤ c1 ∧ c1 ≤ 127) :
    XFn Y T6 Tryd.f6 [.agg [.int .i8 a0, .int .i8 a1, .int .i8 b0, .int .i8 b1, .int .i8 c0, .int .i8 c1]] [] (Is (.bool true)) := by
  unfold XFn Tryd.f6
  rw [enter_1 _ (by decide)]
  have r0 := (rem_range h0).1
  have r1 := (rem_range h1).2
  have r2 := (rem_range h2).1
  have r3 := (rem_range h3).2
  have r4 := (rem_range h4).1
  have r5 := (rem_range h5).2
  have f0 : F24 [.agg [.int .i8 a0, .int .i8 a1]] = some (I2 (a0.tmod 21) (a1.tmod 31)) := by simp only [F24]; rw [if_pos ⟨h0, h1⟩]
  have f1 : F24 [.agg [.int .i8 b0, .int .i8 b1]] = some (I2 (b0.tmod 21) (b1.tmod 31)) := by simp only [F24]; rw [if_pos ⟨h2, h3⟩]
  have f2 : F24 [.agg [.int .i8 c0, .int .i8 c1]] = some (I2 (c0.tmod 21) (c1.tmod 31)) := by simp only [F24]; rw [if_pos ⟨h4, h5⟩]
  generalize a0.tmod 21 = s at *
  generalize a1.tmod 31 = m at *
  generalize b0.tmod 21 = s' at *
  generalize b1.tmod 31 = m' at *
  generalize c0.tmod 21 = t at *
  generalize c1.tmod 31 = n at *
  have S : ∀ {x y x' y' u v : Int}, -40 ≤ x ∧ x ≤ 40 → -60 ≤ y ∧ y ≤ 60 → -37 ≤ x' ∧ x' ≤ 37 → -60 ≤ y' ∧ y' ≤ 60 → u = x + x' → v = y + y' → F18 [I2 x y, I2 x' y'] = some (.tuple [I2 u v, .i 0]) := fun {x y x' y' u v} a b c d e f => by
    subst e; subst f
    show some (sumV _ _ _ _ 1) = _
    unfold sumV sumZ
    rw [if_pos ⟨⟨by omega, by omega⟩, ⟨by omega, by omega⟩, by rw [Int.one_mul, Int.one_mul]; exact ⟨by omega, by omega⟩⟩, Int.one_mul, Int.one_mul]
  have g1 : F18 [I2 s m, I2 s' m'] = some (.tuple [I2 (s + s') (m + m'), .i 0]) := S (by omega) (by omega) (by omega) (by omega) rfl rfl
  have g2 : F18 [I2 s' m', I2 s m] = some (.tuple [I2 (s + s') (m + m'), .i 0]) := S (by omega) (by omega) (by omega) (by omega) (by omega) (by omega)
  have g3 : F18 [I2 s' m', I2 t n] = some (.tuple [I2 (s' + t) (m' + n), .i 0]) := S (by omega) (by omega) (by omega) (by omega) rfl rfl
  have g4 : F18 [I2 (s + s') (m + m'), I2 t n] = some (.tuple [I2 (s + s' + t) (m + m' + n), .i 0]) := S (by omega) (by omega) (by omega) (by omega) rfl rfl
  have g5 : F18 [I2 s m, I2 (s' + t) (m' + n)] = some (.tuple [I2 (s + s' + t) (m + m' + n), .i 0]) := by
    show some (sumV _ _ _ _ 1) = _
    unfold sumV sumZ
    rw [if_pos ⟨⟨by omega, by omega⟩, ⟨by omega, by omega⟩, by rw [Int.one_mul, Int.one_mul]; exact ⟨by omega, by omega⟩⟩, Int.one_mul, Int.one_mul, show s + (s' + t) = s + s' + t by omega, show m + (m' + n) = m + m' + n by omega]
  have g6 : F18 [I2 s m, I2 0 0] = some (.tuple [I2 s m, .i 0]) := S (by omega) (by omega) (by omega) (by omega) (by omega) (by omega)
  have g7 : F19 [I2 (s + s') (m + m'), I2 s' m'] = some (.tuple [I2 s m, .i 0]) := by
    show some (sumV _ _ _ _ (-1)) = _
    unfold sumV sumZ
    rw [show s + s' + -1 * s' = s by omega, show m + m' + -1 * m' = m by omega, if_pos ⟨⟨by omega, by omega⟩, ⟨by omega, by omega⟩, ⟨by omega, by omega⟩⟩]
  have q : ∀ {x y z : Int}, -40 ≤ x ∧ x ≤ 40 → -60 ≤ y ∧ y ≤ 60 → z = 7 * y - 12 * x → F25 [I2 x y] = some (.tuple [.i z, .i 0]) := fun {x y z} a b c => by
    subst c
    simp only [F25]; rw [if_pos ⟨by omega, by omega⟩]
  have q1 : F25 [I2 s m] = some (.tuple [.i (7 * m - 12 * s), .i 0]) := q (by omega) (by omega) rfl
  have q2 : F25 [I2 s' m'] = some (.tuple [.i (7 * m' - 12 * s'), .i 0]) := q (by omega) (by omega) rfl
  have q3 : F25 [I2 (s + s') (m + m')] = some (.tuple [.i (7 * m - 12 * s + (7 * m' - 12 * s')), .i 0]) := q (by omega) (by omega) (by omega)
  have w1 : IntKind.i64.wrap (7 * m - 12 * s + (7 * m' - 12 * s')) = 7 * m - 12 * s + (7 * m' - 12 * s') := wrap64 (by omega) (by omega)
  have w2 : IntKind.i64.wrap (7 * m) = 7 * m := wrap64 (by omega) (by omega)
  have w3 : IntKind.i64.wrap (12 * s) = 12 * s := wrap64 (by omega) (by omega)
  have w4 : IntKind.i64.wrap (7 * m - 12 * s) = 7 * m - 12 * s := wrap64 (by omega) (by omega)
  simp [-Int.not_lt, -Int.not_le, T6_eq, F13, f0, f1, f2, g1, g2, g3, g4, g5, g6, g7, q1, q2, q3, w1, w2, w3, w4]
end Go.Proofs.YtmmpjnjdddaldaaDoor
