/- Pitches and intervals: the small functions, by the machine. -/
import Derived.Test.YtmmpjnjdddaldaaGreatDoorPmTys
set_option linter.unusedSimpArgs false
set_option linter.unusedVariables false
set_option maxRecDepth 1000000
set_option maxHeartbeats 400000
namespace Go.Proofs.YtmmpjnjdddaldaaGreatDoor
open Go Go.Pm Go.RowKit
abbrev OkAt (W0 : World) (g : Nat) (F : List SV → Option SV) : Prop := Enterable Tryz.prog g ∧ Meets Tryz.prog W0 g (specFn (.pure false F))
noncomputable def T0 : FuncId → Option Pm.Spec := fun _ => none
theorem tok_nil {W0 : World} : TOk Tryz.prog W0 T0 := fun _ _ h => by cases h
abbrev P3 (s a o : Int) : SV := .agg [.i s, .i a, .i o]
abbrev I2 (s m : Int) : SV := .agg [.i s, .i m]
def semi : Int → Int
  | 0 => 0 | 1 => 2 | 2 => 4 | 3 => 5 | 4 => 7 | 5 => 9 | 6 => 11 | _ => 0
theorem semi_range {s : Int} (h : 0 ≤ s ∧ s ≤ 6) : 0 ≤ semi s ∧ semi s ≤ 11 := by
  rcases (by omega : s = 0 ∨ s = 1 ∨ s = 2 ∨ s = 3 ∨ s = 4 ∨ s = 5 ∨ s = 6) with rfl | rfl | rfl | rfl | rfl | rfl | rfl <;> decide
abbrev inR (s a o : Int) : Prop := (0 ≤ s ∧ s ≤ 6) ∧ (-2 ≤ a ∧ a ≤ 2) ∧ -1 ≤ o ∧ o ≤ 9
def numZ (s a o : Int) : Int := 12 * (o + 1) + semi s + a
def posZ (s o : Int) : Int := 7 * o + s
def valid (s a o : Int) : Prop := inR s a o ∧ 0 ≤ numZ s a o ∧ numZ s a o ≤ 127
instance (s a o : Int) : Decidable (valid s a o) := inferInstanceAs (Decidable (_ ∧ _))
def isI (s m : Int) : Prop := (-77 ≤ s ∧ s ≤ 77) ∧ -140 ≤ m ∧ m ≤ 140
instance (s m : Int) : Decidable (isI s m) := inferInstanceAs (Decidable (_ ∧ _))
/-- The tone of a step, and the tones. -/
theorem x44 (s : Int) (h : 0 ≤ s ∧ s ≤ 6) : XFn Y T0 Tryz.f50 [.i s] [] (Is (.i (semi s))) := by
  unfold XFn Tryz.f50
  rw [enter_1 _ (by decide)]
  rcases (by omega : s = 0 ∨ s = 1 ∨ s = 2 ∨ s = 3 ∨ s = 4 ∨ s = 5 ∨ s = 6) with rfl | rfl | rfl | rfl | rfl | rfl | rfl <;> simp [semi]
def F44 : List SV → Option SV
  | [.pv (.int .i64 s)] => if 0 ≤ s ∧ s ≤ 6 then some (.i (semi s)) else none
  | _ => none
theorem meets44 (W0 : World) : OkAt W0 50 F44 := meets_fn env tok_nil mixed Tryz.func50 (by kernel_rfl) (by kernel_rfl) fun args r h => by
  unfold F44 at h
  split at h
  · split at h
    · cases h; rename_i hc; exact x44 _ hc
    · cases h
  · cases h
def F65 : List SV → Option SV
  | [] => some (.agg [.i 0, .i 2, .i 4, .i 5, .i 7, .i 9, .i 11])
  | _ => none
theorem meets65 (W0 : World) : OkAt W0 86 F65 := meets_fn env tok_nil mixed Tryz.func86 (by kernel_rfl) (by kernel_rfl) fun args r h => by
  unfold F65 at h
  split at h
  · cases h
    unfold XFn Tryz.f86
    rw [enter_mk0]
    simp
  · cases h
/-- Numbers. -/
noncomputable def T71 : FuncId → Option Pm.Spec := tab [(86, .pure false F65)]
theorem T71_eq (g : Nat) : T71 g = tab [(86, .pure false F65)] g := rfl
noncomputable def T14 : FuncId → Option Pm.Spec := tab [(50, .pure false F44)]
theorem T14_eq (g : Nat) : T14 g = tab [(50, .pure false F44)] g := rfl
theorem num_wraps {s a o : Int} (h : inR s a o) : IntKind.i64.wrap (o + 1) = o + 1 ∧ IntKind.i64.wrap (12 * (o + 1)) = 12 * (o + 1) ∧ IntKind.i64.wrap (12 * (o + 1) + semi s) = 12 * (o + 1) + semi s ∧ IntKind.i64.wrap (12 * (o + 1) + semi s + a) = numZ s a o := by
  obtain ⟨h1, h2, h3⟩ := h
  have := semi_range h1
  exact ⟨wrap64 (by omega) (by omega), wrap64 (by omega) (by omega), wrap64 (by omega) (by omega), wrap64 (by omega) (by omega)⟩
theorem semi_at {s : Int} (h : 0 ≤ s ∧ s ≤ 6) : ([SV.i 0, .i 2, .i 4, .i 5, .i 7, .i 9, .i 11] : List SV)[s.toNat]? = some (.i (semi s)) := by
  rcases (by omega : s = 0 ∨ s = 1 ∨ s = 2 ∨ s = 3 ∨ s = 4 ∨ s = 5 ∨ s = 6) with rfl | rfl | rfl | rfl | rfl | rfl | rfl <;> rfl
theorem x71 (s a o : Int) (h : inR s a o) : XFn Y T71 Tryz.f84 [P3 s a o] [] (Is (.i (numZ s a o))) := by
  unfold XFn Tryz.f84
  rw [enter_1 _ (by decide)]
  obtain ⟨w1, w2, w3, w4⟩ := num_wraps h
  obtain ⟨h1, h2, h3⟩ := h
  rcases (by omega : s = 0 ∨ s = 1 ∨ s = 2 ∨ s = 3 ∨ s = 4 ∨ s = 5 ∨ s = 6) with rfl | rfl | rfl | rfl | rfl | rfl | rfl <;> simp [semi] at w1 w2 w3 w4 <;> simp [T71_eq, F65, w1, w2, w3, w4]
def F71 : List SV → Option SV
  | [.agg [.pv (.int .i64 s), .pv (.int .i64 a), .pv (.int .i64 o)]] => if inR s a o then some (.i (numZ s a o)) else none
  | _ => none
theorem meets71 (W0 : World) : OkAt W0 84 F71 := meets_fn env (tok_cons (meets65 W0) tok_nil) mixed Tryz.func84 (by kernel_rfl) (by kernel_rfl) fun args r h => by
  unfold F71 at h
  split at h
  · split at h
    · cases h; rename_i hc; exact x71 _ _ _ hc
    · cases h
  · cases h
/-- Positions. -/
theorem pos_wraps {s a o : Int} (h : inR s a o) : IntKind.i64.wrap (7 * o) = 7 * o ∧ IntKind.i64.wrap (7 * o + s) = posZ s o := by
  obtain ⟨h1, h2, h3⟩ := h
  exact ⟨wrap64 (by omega) (by omega), wrap64 (by omega) (by omega)⟩
theorem x38 (s a o : Int) (h : inR s a o) : XFn Y T0 Tryz.f45 [P3 s a o] [] (Is (.i (posZ s o))) := by
  unfold XFn Tryz.f45
  rw [enter_1 _ (by decide)]
  obtain ⟨w1, w2⟩ := pos_wraps h
  simp [w1, w2]
def F38 : List SV → Option SV
  | [.agg [.pv (.int .i64 s), .pv (.int .i64 a), .pv (.int .i64 o)]] => if inR s a o then some (.i (posZ s o)) else none
  | _ => none
theorem meets38 (W0 : World) : OkAt W0 45 F38 := meets_fn env tok_nil mixed Tryz.func45 (by kernel_rfl) (by kernel_rfl) fun args r h => by
  unfold F38 at h
  split at h
  · split at h
    · cases h; rename_i hc; exact x38 _ _ _ hc
    · cases h
  · cases h
/-- Which pitches there are. -/
noncomputable def T66 : FuncId → Option Pm.Spec := tab [(84, .pure false F71)]
theorem T66_eq (g : Nat) : T66 g = tab [(84, .pure false F71)] g := rfl
theorem x66 (s a o : Int) : XFn Y T66 Tryz.f83 [P3 s a o] [] (Is (.i (if valid s a o then 0 else 18))) := by
  unfold XFn Tryz.f83
  rw [enter_1 _ (by decide)]
  by_cases h : inR s a o
  · obtain ⟨⟨h1, h2⟩, ⟨h3, h4⟩, h5, h6⟩ := h
    have hin : inR s a o := ⟨⟨h1, h2⟩, ⟨h3, h4⟩, h5, h6⟩
    have n1 : ¬ s < 0 := by omega
    have n2 : ¬ 6 < s := by omega
    have n3 : ¬ a < -2 := by omega
    have n4 : ¬ 2 < a := by omega
    have n5 : ¬ o < -1 := by omega
    have n6 : ¬ 9 < o := by omega
    have hF : F71 [P3 s a o] = some (.i (numZ s a o)) := by simp only [F71]; rw [if_pos hin]
    have hv : valid s a o ↔ (0 ≤ numZ s a o ∧ numZ s a o ≤ 127) := ⟨fun h => h.2, fun h => ⟨hin, h⟩⟩
    generalize numZ s a o = n at *
    by_cases k1 : n < 0
    · have : ¬ valid s a o := fun h => by have := hv.1 h; omega
      simp [-Int.not_lt, -Int.not_le, n1, n2, n3, n4, n5, n6, T66_eq, hF, k1, this]
    · by_cases k2 : 127 < n
      · have : ¬ valid s a o := fun h => by have := hv.1 h; omega
        simp [-Int.not_lt, -Int.not_le, n1, n2, n3, n4, n5, n6, T66_eq, hF, k1, k2, this]
      · have : valid s a o := hv.2 (by omega)
        simp [-Int.not_lt, -Int.not_le, n1, n2, n3, n4, n5, n6, T66_eq, hF, k1, k2, this]
  · have hn : ¬ valid s a o := fun hv => h hv.1
    simp only [if_neg hn]
    by_cases n1 : s < 0
    · simp [-Int.not_lt, -Int.not_le, n1]
    by_cases n2 : 6 < s
    · simp [-Int.not_lt, -Int.not_le, n1, n2]
    by_cases n3 : a < -2
    · simp [-Int.not_lt, -Int.not_le, n1, n2, n3]
    by_cases n4 : 2 < a
    · simp [-Int.not_lt, -Int.not_le, n1, n2, n3, n4]
    by_cases n5 : o < -1
    · simp [-Int.not_lt, -Int.not_le, n1, n2, n3, n4, n5]
    by_cases n6 : 9 < o
    · simp [-Int.not_lt, -Int.not_le, n1, n2, n3, n4, n5, n6]
    exact absurd ⟨⟨by omega, by omega⟩, ⟨by omega, by omega⟩, by omega, by omega⟩ h
def F66 : List SV → Option SV
  | [.agg [.pv (.int .i64 s), .pv (.int .i64 a), .pv (.int .i64 o)]] => some (.i (if valid s a o then 0 else 18))
  | _ => none
theorem meets66 (W0 : World) : OkAt W0 83 F66 := meets_fn env (tok_cons (meets71 W0) tok_nil) mixed Tryz.func83 (by kernel_rfl) (by kernel_rfl) fun args r h => by
  unfold F66 at h
  split at h
  · cases h; exact x66 _ _ _
  · cases h
end Go.Proofs.YtmmpjnjdddaldaaGreatDoor
