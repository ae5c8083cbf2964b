/- Note values: check, ticks, flags and scale, by the machine. -/
import Derived.Test.YtngapiffgoignaaDoorPmTys
import Derived.Test.YtngapiffgoignaaDoorPmCut
import Derived.Test.YtngapiffgoignaaDoorDurP
set_option linter.unusedSimpArgs false
set_option linter.unusedVariables false
set_option maxRecDepth 1000000
set_option maxHeartbeats 400000
namespace Go.Proofs.YtngapiffgoignaaDoor
open Go Go.Pm Go.RowKit
abbrev OkAt (W0 : World) (g : Nat) (F : List SV → Option SV) : Prop := Enterable Tryd.prog g ∧ Meets Tryd.prog W0 g (specFn (.pure false F))
abbrev OkFr (W0 : World) (g : Nat) (F : List SV → Option SV) : Prop := Enterable Tryd.prog g ∧ Meets Tryd.prog W0 g (specFn (.pure true F))
noncomputable abbrev T0 : FuncId → Option Pm.Spec := tab []
theorem beqZ (a b : Int) : (a == b) = decide (a = b) := by by_cases h : a = b <;> simp [h]
theorem bneZ (a b : Int) : (a != b) = !decide (a = b) := by by_cases h : a = b <;> simp [h]
abbrev okV (l d : Int) : Prop := (-1 ≤ l ∧ l ≤ 8) ∧ 0 ≤ d ∧ d ≤ 3
/-- The ticks of a note value. -/
def tkZ (x : Int × Int) : Int := (2 * 1935360 / 2 ^ (x.1 + 1).toNat) * (2 ^ (x.2 + 1).toNat - 1) / 2 ^ x.2.toNat
def F38 : List SV → Option SV
  | [.agg [.pv (.int .i64 l), .pv (.int .i64 d)]] => if (-1 ≤ l ∧ l ≤ 8) ∧ 0 ≤ d ∧ d ≤ 3 then some (.i (tkZ (l, d))) else none
  | _ => none
theorem run38 (l d : Int) (hl : -1 ≤ l ∧ l ≤ 8) (hd : 0 ≤ d ∧ d ≤ 3) : prun Y T0 Tryd.f38 200 [.agg [.i l, .i d]] = some (.i (tkZ (l, d))) := by
  rcases (by omega : l = -1 ∨ l = 0 ∨ l = 1 ∨ l = 2 ∨ l = 3 ∨ l = 4 ∨ l = 5 ∨ l = 6 ∨ l = 7 ∨ l = 8) with rfl | rfl | rfl | rfl | rfl | rfl | rfl | rfl | rfl | rfl <;>
    rcases (by omega : d = 0 ∨ d = 1 ∨ d = 2 ∨ d = 3) with rfl | rfl | rfl | rfl <;> kernel_rfl
theorem run17 (l d : Int) (hl : -1 ≤ l ∧ l ≤ 8) (hd : 0 ≤ d ∧ d ≤ 3) : prun Y T0 Tryd.f17 200 [.agg [.i l, .i d]] = some (.i (tkZ (l, d))) := by
  rcases (by omega : l = -1 ∨ l = 0 ∨ l = 1 ∨ l = 2 ∨ l = 3 ∨ l = 4 ∨ l = 5 ∨ l = 6 ∨ l = 7 ∨ l = 8) with rfl | rfl | rfl | rfl | rfl | rfl | rfl | rfl | rfl | rfl <;>
    rcases (by omega : d = 0 ∨ d = 1 ∨ d = 2 ∨ d = 3) with rfl | rfl | rfl | rfl <;> kernel_rfl
theorem meets38 (W0 : World) : OkAt W0 38 F38 := ⟨enterable_of Tryd.func38 (by kernel_rfl), meets_prun env tok_nil mixed Tryd.func38 rfl (by kernel_rfl) fun args r h => by
  unfold F38 at h
  split at h
  · split at h
    · rename_i hc; cases h; exact ⟨200, run38 _ _ hc.1 hc.2⟩
    · cases h
  · cases h⟩
theorem meets17 (W0 : World) : OkAt W0 17 F38 := ⟨enterable_of Tryd.func17 (by kernel_rfl), meets_prun env tok_nil mixed Tryd.func17 rfl (by kernel_rfl) fun args r h => by
  unfold F38 at h
  split at h
  · split at h
    · rename_i hc; cases h; exact ⟨200, run17 _ _ hc.1 hc.2⟩
    · cases h
  · cases h⟩
/-- The error of a note value. -/
def F23 : List SV → Option SV
  | [.agg [.pv (.int .i64 l), .pv (.int .i64 d)]] => some (.i (if okV l d then 0 else 17))
  | _ => none
theorem x23 (l d : Int) : XFn Y T0 Tryd.f23 [.agg [.i l, .i d]] [] (Is (.i (if okV l d then 0 else 17))) := by
  unfold XFn Tryd.f23
  rw [enter_1 _ (by decide)]
  simp [-Int.not_lt, -Int.not_le]
  grind
theorem of_F2 {F : List SV → Option SV} {G : Int → Int → Option SV} (hF : ∀ args, F args = match args with
    | [.agg [.pv (.int .i64 l), .pv (.int .i64 d)]] => G l d
    | _ => none) {args : List SV} {r : SV} {Q : Prop} (h : F args = some r) (k : ∀ l d, args = [.agg [.i l, .i d]] → G l d = some r → Q) : Q := by
  rw [hF] at h
  split at h
  · exact k _ _ rfl h
  · cases h
theorem meets23 (W0 : World) : OkAt W0 23 F23 := meets_fn env tok_nil mixed Tryd.func23 (by kernel_rfl) (by kernel_rfl) fun args r h => by
  unfold F23 at h
  split at h
  · cases h; exact x23 _ _
  · cases h
/-- The duration of a note value, or the error. -/
def F22 : List SV → Option SV
  | [.agg [.pv (.int .i64 l), .pv (.int .i64 d)]] => some (.tuple [.i (if okV l d then tkZ (l, d) else 0), .i (if okV l d then 0 else 17)])
  | _ => none
noncomputable def T22 : FuncId → Option Pm.Spec := tab [(23, .pure false F23), (38, .pure false F38)]
theorem T22_eq (g : Nat) : T22 g = tab [(23, .pure false F23), (38, .pure false F38)] g := rfl
theorem x22 (l d : Int) : XFn Y T22 Tryd.f22 [.agg [.i l, .i d]] [] (Is (.tuple [.i (if okV l d then tkZ (l, d) else 0), .i (if okV l d then 0 else 17)])) := by
  unfold XFn Tryd.f22
  rw [enter_1 _ (by decide)]
  by_cases h : okV l d
  · simp [T22_eq, F23, F38, h]
  · simp [T22_eq, F23, F38, h]
theorem meets22 (W0 : World) : OkAt W0 22 F22 := meets_fn env (tok_cons (meets23 W0) (tok_cons (meets38 W0) tok_nil)) mixed Tryd.func22 (by kernel_rfl) (by kernel_rfl) fun args r h => by
  unfold F22 at h
  split at h
  · cases h; exact x22 _ _
  · cases h
/-- Is it valid? -/
def F18 : List SV → Option SV
  | [.agg [.pv (.int .i64 l), .pv (.int .i64 d)]] => some (.bool (decide (okV l d)))
  | _ => none
theorem x18 (l d : Int) : XFn Y T0 Tryd.f18 [.agg [.i l, .i d]] [] (Is (.bool (decide (okV l d)))) := by
  unfold XFn Tryd.f18
  rw [enter_1 _ (by decide)]
  simp [-Int.not_lt, -Int.not_le]
  grind
theorem meets18 (W0 : World) : OkAt W0 18 F18 := meets_fn env tok_nil mixed Tryd.func18 (by kernel_rfl) (by kernel_rfl) fun args r h => by
  unfold F18 at h
  split at h
  · cases h; exact x18 _ _
  · cases h
end Go.Proofs.YtngapiffgoignaaDoor
