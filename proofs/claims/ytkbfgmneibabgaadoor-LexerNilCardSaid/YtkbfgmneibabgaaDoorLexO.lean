/- The law of the nil Stream, by the machine. -/
import Derived.Test.YtkbfgmneibabgaaDoorLexV
set_option linter.unusedSimpArgs false
set_option linter.unusedVariables false
set_option maxRecDepth 1000000
set_option maxHeartbeats 1000000
namespace Go.Proofs.YtkbfgmneibabgaaDoor
open Go Go.Pm Go.RowKit
open LexP hiding place Sep Run
abbrev nilP : SV := .pv .nilPtr
abbrev zTok : SV := .agg [.i 0, .str [], .i 0, .str [], .i 0, .i 0, .bool false]
/-- Contracts at the nil pointer. -/
def N1 (r : SV) : List SV → Option SV
  | [.pv .nilPtr] => some r
  | _ => none
def N2 (p : SV → Bool) (r : SV) : List SV → Option SV
  | [.pv .nilPtr, x] => if p x then some r else none
  | _ => none
def isStr : SV → Bool
  | .pv (.str _) => true
  | _ => false
def isInt : SV → Bool
  | .pv (.int .i64 _) => true
  | _ => false
def isKind : SV → Bool
  | .pv (.int .i64 n) => decide (0 < n)
  | _ => false
theorem of_N1 {r0 r : SV} {args : List SV} {Q : Prop} (h : N1 r0 args = some r) (k : args = [nilP] → r = r0 → Q) : Q := by
  unfold N1 at h
  split at h
  · cases h; exact k rfl rfl
  · cases h
theorem of_N2 {p : SV → Bool} {r0 r : SV} {args : List SV} {Q : Prop} (h : N2 p r0 args = some r) (k : ∀ x, p x = true → args = [nilP, x] → r = r0 → Q) : Q := by
  unfold N2 at h
  split at h
  · split at h
    · rename_i hx; cases h; exact k _ hx rfl rfl
    · cases h
  · cases h
theorem nil57 (W0 : World) : OkAt W0 57 (N1 (.bool false)) := meets_fn env tok_nil mixed Tryd.func57 (by kernel_rfl) (by kernel_rfl) fun args r h => of_N1 h fun e1 e2 => by
  subst e1; subst e2
  unfold XFn Tryd.f57
  rw [enter_1 _ (by decide)]
  simp [Is_mk, outR, outP]
noncomputable def U25 : FuncId → Option Pm.Spec := tab [(57, .pure false (N1 (.bool false)))]
theorem U25_eq (g : Nat) : U25 g = tab [(57, .pure false (N1 (.bool false)))] g := rfl
theorem ut25 (W0 : World) : TOk Tryd.prog W0 U25 := tok_cons (nil57 W0) tok_nil
theorem nil25 (W0 : World) : OkAt W0 25 (N1 zTok) := meets_fn env (ut25 W0) mixed Tryd.func25 (by kernel_rfl) (by kernel_rfl) fun args r h => of_N1 h fun e1 e2 => by
  subst e1; subst e2
  unfold XFn Tryd.f25
  rw [enter_1 _ (by decide)]
  simp [U25_eq, N1, Is_mk, outR, outP, pcells, pcell]
noncomputable def U26 : FuncId → Option Pm.Spec := tab [(25, .pure false (N1 zTok)), (57, .pure false (N1 (.bool false)))]
theorem U26_eq (g : Nat) : U26 g = tab [(25, .pure false (N1 zTok)), (57, .pure false (N1 (.bool false)))] g := rfl
theorem ut26 (W0 : World) : TOk Tryd.prog W0 U26 := tok_cons (nil25 W0) (tok_cons (nil57 W0) tok_nil)
theorem nil26 (W0 : World) : OkAt W0 26 (N1 zTok) := meets_fn env (ut26 W0) mixed Tryd.func26 (by kernel_rfl) (by kernel_rfl) fun args r h => of_N1 h fun e1 e2 => by
  subst e1; subst e2
  unfold XFn Tryd.f26
  rw [enter_1 _ (by decide)]
  have g0 : ∀ a b : Blk, ([a, b] : List Blk)[0]? = some a := fun a b => rfl
  simp [U26_eq, N1, Is_mk, outR, outP, pcells, pcell]
theorem nil27 (W0 : World) : OkAt W0 27 (N1 (.tuple [.i 0, .i 0, .i 1])) := meets_fn env tok_nil mixed Tryd.func27 (by kernel_rfl) (by kernel_rfl) fun args r h => of_N1 h fun e1 e2 => by
  subst e1; subst e2
  unfold XFn Tryd.f27
  rw [enter_1 _ (by decide)]
  simp [Is_mk, outR, outP, outL]
theorem nil29 (W0 : World) : OkAt W0 29 (N2 isInt .undef) := meets_fn env (ut26 W0) mixed Tryd.func29 (by kernel_rfl) (by kernel_rfl) fun args r h => of_N2 h fun x hx e1 e2 => by
  subst e1; subst e2
  unfold isInt at hx
  split at hx
  · unfold XFn Tryd.f29
    rw [enter_2 _ (by decide)]
    simp [U26_eq, N1, Is_mk, outR, outP, outL]
  · cases hx
theorem nil30 (W0 : World) : OkAt W0 30 (N2 isStr (.bool false)) := meets_fn env (ut26 W0) mixed Tryd.func30 (by kernel_rfl) (by kernel_rfl) fun args r h => of_N2 h fun x hx e1 e2 => by
  subst e1; subst e2
  unfold isStr at hx
  split at hx
  · unfold XFn Tryd.f30
    rw [enter_2 _ (by decide)]
    simp [U26_eq, N1, Is_mk, outR, outP, outL]
  · cases hx
noncomputable def U31 : FuncId → Option Pm.Spec := tab [(26, .pure false (N1 zTok)), (30, .pure false (N2 isStr (.bool false)))]
theorem U31_eq (g : Nat) : U31 g = tab [(26, .pure false (N1 zTok)), (30, .pure false (N2 isStr (.bool false)))] g := rfl
theorem ut31 (W0 : World) : TOk Tryd.prog W0 U31 := tok_cons (nil26 W0) (tok_cons (nil30 W0) tok_nil)
theorem nil31 (W0 : World) : OkAt W0 31 (N2 isStr (.bool false)) := meets_fn env (ut31 W0) mixed Tryd.func31 (by kernel_rfl) (by kernel_rfl) fun args r h => of_N2 h fun x hx e1 e2 => by
  subst e1; subst e2
  unfold isStr at hx
  split at hx
  · unfold XFn Tryd.f31
    rw [enter_2 _ (by decide)]
    simp [U31_eq, N2, isStr, Is_mk, outR, outP, outL]
  · cases hx
noncomputable def U28 : FuncId → Option Pm.Spec := tab [(29, .pure false (N2 isInt .undef)), (31, .pure false (N2 isStr (.bool false)))]
theorem U28_eq (g : Nat) : U28 g = tab [(29, .pure false (N2 isInt .undef)), (31, .pure false (N2 isStr (.bool false)))] g := rfl
theorem ut28 (W0 : World) : TOk Tryd.prog W0 U28 := tok_cons (nil29 W0) (tok_cons (nil31 W0) tok_nil)
theorem nil28 (W0 : World) : OkAt W0 28 (N2 isStr .undef) := meets_fn env (ut28 W0) mixed Tryd.func28 (by kernel_rfl) (by kernel_rfl) fun args r h => of_N2 h fun x hx e1 e2 => by
  subst e1; subst e2
  unfold isStr at hx
  split at hx
  · unfold XFn Tryd.f28
    rw [enter_2 _ (by decide)]
    simp [U28_eq, N2, isStr, isInt, Is_mk, outR, outP, outL]
  · cases hx
noncomputable def U58 : FuncId → Option Pm.Spec := tab [(25, .pure false (N1 zTok)), (26, .pure false (N1 zTok)), (29, .pure false (N2 isInt .undef))]
theorem U58_eq (g : Nat) : U58 g = tab [(25, .pure false (N1 zTok)), (26, .pure false (N1 zTok)), (29, .pure false (N2 isInt .undef))] g := rfl
theorem ut58 (W0 : World) : TOk Tryd.prog W0 U58 := tok_cons (nil25 W0) (tok_cons (nil26 W0) (tok_cons (nil29 W0) tok_nil))
theorem nil58 (W0 : World) : OkAt W0 58 (N2 isKind zTok) := meets_fn env (ut58 W0) mixed Tryd.func58 (by kernel_rfl) (by kernel_rfl) fun args r h => of_N2 h fun x hx e1 e2 => by
  subst e1; subst e2
  unfold isKind at hx
  split at hx
  · rename_i n
    have hn : ¬ (0 : Int) = n := by simp at hx; omega
    have hb : ((0 : Int) != n) = true := by rw [bneZ, decide_eq_false hn]; rfl
    unfold XFn Tryd.f58
    rw [enter_2 _ (by decide)]
    simp [U58_eq, N1, N2, isInt, hb, hn, Is_mk, outR, outP, outL, pcells, pcell]
  · cases hx
noncomputable def U32 : FuncId → Option Pm.Spec := tab [(25, .pure false (N1 zTok)), (29, .pure false (N2 isInt .undef)), (58, .pure false (N2 isKind zTok))]
theorem U32_eq (g : Nat) : U32 g = tab [(25, .pure false (N1 zTok)), (29, .pure false (N2 isInt .undef)), (58, .pure false (N2 isKind zTok))] g := rfl
theorem ut32 (W0 : World) : TOk Tryd.prog W0 U32 := tok_cons (nil25 W0) (tok_cons (nil29 W0) (tok_cons (nil58 W0) tok_nil))
theorem nil32 (W0 : World) : OkAt W0 32 (N1 (.str [])) := meets_fn env (ut32 W0) mixed Tryd.func32 (by kernel_rfl) (by kernel_rfl) fun args r h => of_N1 h fun e1 e2 => by
  subst e1; subst e2
  unfold XFn Tryd.f32
  rw [enter_1 _ (by decide)]
  simp [U32_eq, N2, isKind, Is_mk, outR, outP, outL]
theorem nil34 (W0 : World) : OkAt W0 34 (N1 (.str [])) := meets_fn env (ut32 W0) mixed Tryd.func34 (by kernel_rfl) (by kernel_rfl) fun args r h => of_N1 h fun e1 e2 => by
  subst e1; subst e2
  unfold XFn Tryd.f34
  rw [enter_1 _ (by decide)]
  simp [U32_eq, N2, isKind, Is_mk, outR, outP, outL]
def N3 : List SV → Option SV
  | [.pv .nilPtr, .pv (.int .i64 _), .pv (.int .i64 _)] => some (.i 0)
  | _ => none
theorem nil33 (W0 : World) : OkAt W0 33 N3 := meets_fn env (ut32 W0) mixed Tryd.func33 (by kernel_rfl) (by kernel_rfl) fun args r h => by
  unfold N3 at h
  split at h
  · cases h
    unfold XFn Tryd.f33
    rw [enter_3 _ (by decide)]
    simp [U32_eq, N1, N2, isKind, Is_mk, outR, outP, outL]
  · cases h
noncomputable def T10 : FuncId → Option Pm.Spec := tab [(16, .pure false F16), (25, .pure false (N1 zTok)), (26, .pure false (N1 zTok)), (27, .pure false (N1 (.tuple [.i 0, .i 0, .i 1]))), (28, .pure false (N2 isStr .undef)), (29, .pure false (N2 isInt .undef)), (30, .pure false (N2 isStr (.bool false))), (31, .pure false (N2 isStr (.bool false))), (32, .pure false (N1 (.str []))), (33, .pure false N3), (34, .pure false (N1 (.str [])))]
theorem T10_eq (g : Nat) : T10 g = tab [(16, .pure false F16), (25, .pure false (N1 zTok)), (26, .pure false (N1 zTok)), (27, .pure false (N1 (.tuple [.i 0, .i 0, .i 1]))), (28, .pure false (N2 isStr .undef)), (29, .pure false (N2 isInt .undef)), (30, .pure false (N2 isStr (.bool false))), (31, .pure false (N2 isStr (.bool false))), (32, .pure false (N1 (.str []))), (33, .pure false N3), (34, .pure false (N1 (.str [])))] g := rfl
theorem tok10 (W0 : World) : TOk Tryd.prog W0 T10 := tok_cons (meets16 W0) (tok_cons (nil25 W0) (tok_cons (nil26 W0) (tok_cons (nil27 W0) (tok_cons (nil28 W0) (tok_cons (nil29 W0) (tok_cons (nil30 W0) (tok_cons (nil31 W0) (tok_cons (nil32 W0) (tok_cons (nil33 W0) (tok_cons (nil34 W0) tok_nil))))))))))
theorem x10 (k : Int) (t : Bs) (lo hi e : Int) : XFn Y T10 Tryd.f10 [.agg [.int .u8 k, .str t, .i lo, .i hi, .int .u8 e]] [] (Is (.bool true)) := by
  unfold XFn Tryd.f10
  rw [enter_1 _ (by decide)]
  simp [T10_eq, N1, N2, N3, isStr, isInt, F16_at, Is_mk, outR, outP]
end Go.Proofs.YtkbfgmneibabgaaDoor
