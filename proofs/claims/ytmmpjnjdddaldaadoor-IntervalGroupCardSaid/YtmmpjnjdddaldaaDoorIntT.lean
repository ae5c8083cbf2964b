/- The example of the laws, by the machine. -/
import Derived.Test.YtmmpjnjdddaldaaDoorIntS
set_option linter.unusedSimpArgs false
set_option linter.unusedVariables false
set_option maxRecDepth 1000000
set_option maxHeartbeats 400000
namespace Go.Proofs.YtmmpjnjdddaldaaDoor
open Go Go.Pm Go.RowKit
/-- The text of three. -/
def F105 : List SV → Option SV
  | [.pv (.int .i64 n)] => if n = 3 then some (.str [51]) else none
  | _ => none
theorem meets105 (W0 : World) : OkAt W0 105 F105 := ⟨enterable_of Tryd.func105 (by kernel_rfl), meets_prun env tok_nil mixed Tryd.func105 rfl (by kernel_rfl) fun args r h => by
  unfold F105 at h
  split at h
  · split at h
    · rename_i hc; cases h; subst hc; exact ⟨100, by kernel_rfl⟩
    · cases h
  · cases h⟩
noncomputable def T101 : FuncId → Option Pm.Spec := tab [(105, .pure false F105)]
theorem T101_eq (g : Nat) : T101 g = tab [(105, .pure false F105)] g := rfl
theorem x101 : XFn Y T101 Tryd.f101 [.i 3, .i 10] [] (Is (.str [51])) := by
  unfold XFn Tryd.f101
  rw [enter_2 _ (by decide)]
  simp [T101_eq, F105]
def F101 : List SV → Option SV
  | [.pv (.int .i64 n), .pv (.int .i64 b)] => if n = 3 ∧ b = 10 then some (.str [51]) else none
  | _ => none
theorem meets101 (W0 : World) : OkAt W0 101 F101 := meets_fn env (tok_cons (meets105 W0) tok_nil) mixed Tryd.func101 (by kernel_rfl) (by kernel_rfl) fun args r h => by
  unfold F101 at h
  split at h
  · split at h
    · rename_i hc; cases h; obtain ⟨rfl, rfl⟩ := hc; exact x101
    · cases h
  · cases h
noncomputable def T89 : FuncId → Option Pm.Spec := tab [(101, .pure false F101)]
theorem T89_eq (g : Nat) : T89 g = tab [(101, .pure false F101)] g := rfl
theorem x89 : XFn Y T89 Tryd.f89 [.i 3] [] (Is (.str [51])) := by
  unfold XFn Tryd.f89
  rw [enter_1 _ (by decide)]
  simp [T89_eq, F101]
theorem meets89 (W0 : World) : OkAt W0 89 F105 := meets_fn env (tok_cons (meets101 W0) tok_nil) mixed Tryd.func89 (by kernel_rfl) (by kernel_rfl) fun args r h => by
  unfold F105 at h
  split at h
  · split at h
    · rename_i hc; cases h; subst hc; exact x89
    · cases h
  · cases h
noncomputable def T70 : FuncId → Option Pm.Spec := tab [(89, .pure false F105)]
theorem T70_eq (g : Nat) : T70 g = tab [(89, .pure false F105)] g := rfl
theorem x70 : XFn Y T70 Tryd.f70 [.i 3] [] (Is (.str [51])) := by
  unfold XFn Tryd.f70
  rw [enter_1 _ (by decide)]
  simp [T70_eq, F105]
theorem meets70 (W0 : World) : OkAt W0 70 F105 := meets_fn env (tok_cons (meets89 W0) tok_nil) mixed Tryd.func70 (by kernel_rfl) (by kernel_rfl) fun args r h => by
  unfold F105 at h
  split at h
  · split at h
    · rename_i hc; cases h; subst hc; exact x70
    · cases h
  · cases h
/-- Repeat, once. -/
theorem x69 (s : List UInt8) : XFn Y T0 Tryd.f69 [.str s, .i 1] [] (Is (.str s)) := by
  unfold XFn Tryd.f69
  rw [enter_2 _ (by decide)]
  simp
def F69 : List SV → Option SV
  | [.pv (.str s), .pv (.int .i64 n)] => if n = 1 then some (.str s) else none
  | _ => none
theorem meets69 (W0 : World) : OkAt W0 69 F69 := meets_fn env tok_nil mixed Tryd.func69 (by kernel_rfl) (by kernel_rfl) fun args r h => by
  unfold F69 at h
  split at h
  · split at h
    · rename_i hc; cases h; subst hc; exact x69 _
    · cases h
  · cases h
/-- The text of a minor third. -/
noncomputable def T57 : FuncId → Option Pm.Spec := tab [(51, .pure false F51), (50, .pure false F50), (69, .pure false F69), (70, .pure false F105)]
theorem T57_eq (g : Nat) : T57 g = tab [(51, .pure false F51), (50, .pure false F50), (69, .pure false F69), (70, .pure false F105)] g := rfl
theorem x57 : XFn Y T57 Tryd.f57 [I2 2 3] [] (Is (.str [109, 51])) := by
  unfold XFn Tryd.f57
  rw [enter_1 _ (by decide)]
  have h1 : F51 [I2 2 3] = some (.bool false) := rfl
  have h2 : F50 [I2 2 3] = some (.tuple [.i (-1), .i 0]) := rfl
  have w1 : IntKind.i64.wrap 1 = 1 := rfl
  have w3 : IntKind.i64.wrap 3 = 3 := rfl
  simp [T57_eq, h1, h2, F69, F105, w1, w3]
def F57 : List SV → Option SV
  | [.agg [.pv (.int .i64 s), .pv (.int .i64 m)]] => if s = 2 ∧ m = 3 then some (.str [109, 51]) else none
  | _ => none
theorem meets57 (W0 : World) : OkAt W0 57 F57 := meets_fn env (tok_cons (meets51 W0) (tok_cons (meets50 W0) (tok_cons (meets69 W0) (tok_cons (meets70 W0) tok_nil)))) mixed Tryd.func57 (by kernel_rfl) (by kernel_rfl) fun args r h => by
  unfold F57 at h
  split at h
  · split at h
    · rename_i hc; cases h; obtain ⟨rfl, rfl⟩ := hc; exact x57
    · cases h
  · cases h
noncomputable def T43 : FuncId → Option Pm.Spec := tab [(22, .pure false F22), (57, .pure false F57)]
theorem T43_eq (g : Nat) : T43 g = tab [(22, .pure false F22), (57, .pure false F57)] g := rfl
theorem x43 : XFn Y T43 Tryd.f43 [I2 2 3] [] (Is (.tuple [.str [109, 51], .i 0])) := by
  unfold XFn Tryd.f43
  rw [enter_1 _ (by decide)]
  have h1 : F22 [I2 2 3] = some (.i 0) := rfl
  simp [T43_eq, h1, F57]
def F43 : List SV → Option SV
  | [.agg [.pv (.int .i64 s), .pv (.int .i64 m)]] => if s = 2 ∧ m = 3 then some (.tuple [.str [109, 51], .i 0]) else none
  | _ => none
theorem meets43 (W0 : World) : OkAt W0 43 F43 := meets_fn env (tok_cons (meets22 W0) (tok_cons (meets57 W0) tok_nil)) mixed Tryd.func43 (by kernel_rfl) (by kernel_rfl) fun args r h => by
  unfold F43 at h
  split at h
  · split at h
    · rename_i hc; cases h; obtain ⟨rfl, rfl⟩ := hc; exact x43
    · cases h
  · cases h
/-- The example. -/
noncomputable def T13 : FuncId → Option Pm.Spec := tab [(26, .pure false F26), (43, .pure false F43), (11, .pure false F11)]
theorem T13_eq (g : Nat) : T13 g = tab [(26, .pure false F26), (43, .pure false F43), (11, .pure false F11)] g := rfl
theorem x13 : XFn Y T13 Tryd.f13 [] [] (Is (.bool true)) := by
  unfold XFn Tryd.f13
  rw [enter_mk0]
  have h1 : F26 [P3 0 0 4, P3 2 (-1) 4] = some (.tuple [I2 2 3, .i 0]) := rfl
  have h2 : F11 [P3 3 2 4, I2 0 1] = some (.tuple [P3 4 1 4, .i 0]) := by kernel_rfl
  simp [T13_eq, h1, h2, F43]
def F13 : List SV → Option SV
  | [] => some (.bool true)
  | _ => none
theorem meets13 (W0 : World) : OkAt W0 13 F13 := meets_fn env (tok_cons (meets26 W0) (tok_cons (meets43 W0) (tok_cons (meets11 W0) tok_nil))) mixed Tryd.func13 (by kernel_rfl) (by kernel_rfl) fun args r h => by
  unfold F13 at h
  split at h
  · cases h; exact x13
  · cases h
end Go.Proofs.YtmmpjnjdddaldaaDoor
