/- The lexer's bytes, by the machine. -/
import Derived.Test.YtkbfgmneibabgaaDoorPmTys
import Derived.Test.YtkbfgmneibabgaaDoorPmCut
import Derived.Test.YtkbfgmneibabgaaDoorLexP
set_option linter.unusedSimpArgs false
set_option linter.unusedVariables false
set_option maxRecDepth 1000000
set_option maxHeartbeats 400000
namespace Go.Proofs.YtkbfgmneibabgaaDoor
open Go Go.Pm Go.RowKit
open LexP hiding place Sep Run
theorem beqZ (a b : Int) : (a == b) = decide (a = b) := by by_cases h : a = b <;> simp [h]
theorem bneZ (a b : Int) : (a != b) = !decide (a = b) := by by_cases h : a = b <;> simp [h]
abbrev OkAt (W0 : World) (g : Nat) (F : List SV → Option SV) : Prop := Enterable Tryd.prog g ∧ Meets Tryd.prog W0 g (specFn (.pure false F))
noncomputable def T0 : FuncId → Option Pm.Spec := fun _ => none
theorem tok_nil {W0 : World} : TOk Tryd.prog W0 T0 := fun _ _ h => by cases h
abbrev u8 (n : Int) : SV := .int .u8 n
def bF (p : Int → Bool) : List SV → Option SV
  | [.pv (.int .u8 n)] => if 0 ≤ n ∧ n ≤ 255 then some (.bool (p n)) else none
  | _ => none
theorem of_bF {p : Int → Bool} {args : List SV} {r : SV} {Q : Prop} (h : bF p args = some r) (k : ∀ n, 0 ≤ n ∧ n ≤ 255 → args = [u8 n] → r = .bool (p n) → Q) : Q := by
  unfold bF at h
  split at h
  · split at h
    · rename_i hc; cases h; exact k _ hc rfl rfl
    · cases h
  · cases h
theorem x65 (n : Int) (h : 0 ≤ n ∧ n ≤ 255) : XFn Y T0 Tryd.f65 [u8 n] [] (Is (.bool (letZ n))) := by
  unfold XFn Tryd.f65
  rw [enter_1 _ (by decide)]
  simp [beqZ, bneZ]
  grind [letZ]
theorem meets65 (W0 : World) : OkAt W0 65 (bF letZ) := meets_fn env tok_nil mixed Tryd.func65 (by kernel_rfl) (by kernel_rfl) fun args r h => by
  refine of_bF h fun n hn e1 e2 => ?_
  subst e1; subst e2; exact x65 n hn
theorem x84 (n : Int) (h : 0 ≤ n ∧ n ≤ 255) : XFn Y T0 Tryd.f84 [u8 n] [] (Is (.bool (digZ n))) := by
  unfold XFn Tryd.f84
  rw [enter_1 _ (by decide)]
  simp [beqZ, bneZ]
  grind [digZ]
theorem meets84 (W0 : World) : OkAt W0 84 (bF digZ) := meets_fn env tok_nil mixed Tryd.func84 (by kernel_rfl) (by kernel_rfl) fun args r h => by
  refine of_bF h fun n hn e1 e2 => ?_
  subst e1; subst e2; exact x84 n hn
theorem x90 (n : Int) (h : 0 ≤ n ∧ n ≤ 255) : XFn Y T0 Tryd.f90 [u8 n] [] (Is (.bool (blkZ n))) := by
  unfold XFn Tryd.f90
  rw [enter_1 _ (by decide)]
  simp [beqZ, bneZ]
  grind [blkZ]
theorem meets90 (W0 : World) : OkAt W0 90 (bF blkZ) := meets_fn env tok_nil mixed Tryd.func90 (by kernel_rfl) (by kernel_rfl) fun args r h => by
  refine of_bF h fun n hn e1 e2 => ?_
  subst e1; subst e2; exact x90 n hn
theorem x52 (n : Int) (h : 0 ≤ n ∧ n ≤ 255) : XFn Y T0 Tryd.f52 [u8 n] [] (Is (.bool (stdZ n))) := by
  unfold XFn Tryd.f52
  rw [enter_1 _ (by decide)]
  simp [beqZ, bneZ]
  grind [stdZ]
theorem meets52 (W0 : World) : OkAt W0 52 (bF stdZ) := meets_fn env tok_nil mixed Tryd.func52 (by kernel_rfl) (by kernel_rfl) fun args r h => by
  refine of_bF h fun n hn e1 e2 => ?_
  subst e1; subst e2; exact x52 n hn
def lfZ (n : Int) : Bool := decide (n ≠ 10)
theorem x89 (n : Int) (h : 0 ≤ n ∧ n ≤ 255) : XFn Y T0 Tryd.f89 [u8 n] [] (Is (.bool (lfZ n))) := by
  unfold XFn Tryd.f89
  rw [enter_1 _ (by decide)]
  simp [lfZ, beqZ, bneZ]
theorem meets89 (W0 : World) : OkAt W0 89 (bF lfZ) := meets_fn env tok_nil mixed Tryd.func89 (by kernel_rfl) (by kernel_rfl) fun args r h => by
  refine of_bF h fun n hn e1 e2 => ?_
  subst e1; subst e2; exact x89 n hn
noncomputable def T68 : FuncId → Option Pm.Spec := tab [(65, .pure false (bF letZ)), (84, .pure false (bF digZ))]
theorem T68_eq (g : Nat) : T68 g = tab [(65, .pure false (bF letZ)), (84, .pure false (bF digZ))] g := rfl
theorem x68 (n : Int) (h : 0 ≤ n ∧ n ≤ 255) : XFn Y T68 Tryd.f68 [u8 n] [] (Is (.bool (inwZ n))) := by
  unfold XFn Tryd.f68
  rw [enter_1 _ (by decide)]
  simp [T68_eq, bF, h, beqZ]
  grind [inwZ]
theorem meets68 (W0 : World) : OkAt W0 68 (bF inwZ) := meets_fn env (tok_cons (meets65 W0) (tok_cons (meets84 W0) tok_nil)) mixed Tryd.func68 (by kernel_rfl) (by kernel_rfl) fun args r h => by
  refine of_bF h fun n hn e1 e2 => ?_
  subst e1; subst e2; exact x68 n hn
end Go.Proofs.YtkbfgmneibabgaaDoor
