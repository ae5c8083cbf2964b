/- Pure steps, natural tones, descending intervals and their opposites, by the machine. -/
import Derived.Test.YtmmpjnjdddaldaaGreatDoorIntH
set_option linter.unusedSimpArgs false
set_option linter.unusedVariables false
set_option maxRecDepth 1000000
set_option maxHeartbeats 400000
namespace Go.Proofs.YtmmpjnjdddaldaaGreatDoor
open Go Go.Pm Go.RowKit
abbrev pures : List (List PV) := [[.int .i64 0], [.int .i64 3], [.int .i64 4]]
def pureIx (v : Int) : Int := if v = 0 then 0 else if v = 3 then 1 else if v = 4 then 2 else -1
theorem run90 (v : Int) (h : 0 ≤ v ∧ v ≤ 6) : prun Y T0 Tryz.f60 200 [.pv (.slice 1 pures), .i v] = some (.i (pureIx v)) := by
  rcases (by omega : v = 0 ∨ v = 1 ∨ v = 2 ∨ v = 3 ∨ v = 4 ∨ v = 5 ∨ v = 6) with rfl | rfl | rfl | rfl | rfl | rfl | rfl <;> kernel_rfl
def F90 : List SV → Option SV
  | [.pv (.slice 1 [[.int .i64 0], [.int .i64 3], [.int .i64 4]]), .pv (.int .i64 v)] => if 0 ≤ v ∧ v ≤ 6 then some (.i (pureIx v)) else none
  | _ => none
theorem meets90 (W0 : World) : OkAt W0 60 F90 := ⟨enterable_of Tryz.func60 (by kernel_rfl), meets_prun env tok_nil mixed Tryz.func60 rfl (by kernel_rfl) fun args r h => by
  unfold F90 at h
  split at h
  · split at h
    · rename_i hc; cases h; exact ⟨200, run90 _ hc⟩
    · cases h
  · cases h⟩
noncomputable def T72 : FuncId → Option Pm.Spec := tab [(60, .pure false F90)]
theorem T72_eq (g : Nat) : T72 g = tab [(60, .pure false F90)] g := rfl
theorem x72 (v : Int) (h : 0 ≤ v ∧ v ≤ 6) : XFn Y T72 Tryz.f38 [.pv (.slice 1 pures), .i v] [] (Is (.bool (decide (0 ≤ pureIx v)))) := by
  unfold XFn Tryz.f38
  rw [enter_2 _ (by decide)]
  simp [T72_eq, F90, h]
def F72 : List SV → Option SV
  | [.pv (.slice 1 [[.int .i64 0], [.int .i64 3], [.int .i64 4]]), .pv (.int .i64 v)] => if 0 ≤ v ∧ v ≤ 6 then some (.bool (decide (0 ≤ pureIx v))) else none
  | _ => none
theorem meets72 (W0 : World) : OkAt W0 38 F72 := meets_fn env (tok_cons (meets90 W0) tok_nil) mixed Tryz.func38 (by kernel_rfl) (by kernel_rfl) fun args r h => by
  unfold F72 at h
  split at h
  · split at h
    · rename_i hc; cases h; exact x72 _ hc
    · cases h
  · cases h
noncomputable def T62 : FuncId → Option Pm.Spec := tab [(38, .pure false F72)]
theorem T62_eq (g : Nat) : T62 g = tab [(38, .pure false F72)] g := rfl
theorem x62 (n : Int) (h : 0 ≤ n ∧ n ≤ 77) : XFn Y T62 Tryz.f17 [.i n] [] (Is (.bool (decide (0 ≤ pureIx (n % 7))))) := by
  unfold XFn Tryz.f17
  rw [enter_1 _ (by decide)]
  have t : n.tmod 7 = n % 7 := Int.tmod_eq_emod_of_nonneg h.1
  have h7 : 0 ≤ n % 7 ∧ n % 7 ≤ 6 := by omega
  simp [T62_eq, F72, t, h7]
def F62 : List SV → Option SV
  | [.pv (.int .i64 n)] => if 0 ≤ n ∧ n ≤ 77 then some (.bool (decide (0 ≤ pureIx (n % 7)))) else none
  | _ => none
theorem meets62 (W0 : World) : OkAt W0 17 F62 := meets_fn env (tok_cons (meets72 W0) tok_nil) mixed Tryz.func17 (by kernel_rfl) (by kernel_rfl) fun args r h => by
  unfold F62 at h
  split at h
  · split at h
    · rename_i hc; cases h; exact x62 _ hc
    · cases h
  · cases h
/-- Descending intervals, and opposites. -/
def downZ (s m : Int) : Bool := decide (s < 0) || (decide (s = 0) && decide (m < 0))
theorem x51 (s m : Int) : XFn Y T0 Tryz.f23 [I2 s m] [] (Is (.bool (downZ s m))) := by
  unfold XFn Tryz.f23 downZ
  rw [enter_1 _ (by decide)]
  by_cases h1 : s < 0
  · simp [-Int.not_lt, -Int.not_le, h1]
  · by_cases h2 : s = 0
    · by_cases h3 : m < 0
      · simp [-Int.not_lt, -Int.not_le, h1, h2, h3]
      · simp [-Int.not_lt, -Int.not_le, h1, h2, h3]
    · simp [-Int.not_lt, -Int.not_le, h1, h2]
def F51 : List SV → Option SV
  | [.agg [.pv (.int .i64 s), .pv (.int .i64 m)]] => some (.bool (downZ s m))
  | _ => none
theorem meets51 (W0 : World) : OkAt W0 23 F51 := meets_fn env tok_nil mixed Tryz.func23 (by kernel_rfl) (by kernel_rfl) fun args r h => by
  unfold F51 at h
  split at h
  · cases h; exact x51 _ _
  · cases h
theorem x47 (s m : Int) : XFn Y T0 Tryz.f18 [I2 s m] [] (Is (I2 (IntKind.i64.wrap (-s)) (IntKind.i64.wrap (-m)))) := by
  unfold XFn Tryz.f18
  rw [enter_1 _ (by decide)]
  simp
def F47 : List SV → Option SV
  | [.agg [.pv (.int .i64 s), .pv (.int .i64 m)]] => some (I2 (IntKind.i64.wrap (-s)) (IntKind.i64.wrap (-m)))
  | _ => none
theorem meets47 (W0 : World) : OkAt W0 18 F47 := meets_fn env tok_nil mixed Tryz.func18 (by kernel_rfl) (by kernel_rfl) fun args r h => by
  unfold F47 at h
  split at h
  · cases h; exact x47 _ _
  · cases h
end Go.Proofs.YtmmpjnjdddaldaaGreatDoor
