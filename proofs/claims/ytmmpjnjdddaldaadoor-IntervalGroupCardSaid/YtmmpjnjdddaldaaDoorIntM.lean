/- interval.checked over a row without spare room: the sums, by the machine. -/
import Derived.Test.YtmmpjnjdddaldaaDoorIntL
set_option linter.unusedSimpArgs false
set_option linter.unusedVariables false
set_option maxRecDepth 1000000
set_option maxHeartbeats 400000
namespace Go.Proofs.YtmmpjnjdddaldaaDoor
open Go Go.Pm Go.RowKit
noncomputable def T46 : FuncId → Option Pm.Spec := tab [(22, .pure false F22)]
theorem T46_eq (g : Nat) : T46 g = tab [(22, .pure false F22)] g := rfl
theorem meets46 (W0 : World) : Enterable Tryd.prog 46 ∧ Meets Tryd.prog W0 46 (specFn (.heap (arunAll Y T46 Tryd.f46))) := meets_heap env (tok_cons (meets22 W0) tok_nil) mixed Tryd.func46 (by kernel_rfl) (by kernel_rfl)
/-- The answer of checked: the interval, if it and the others are intervals. -/
def chkI (ok : Bool) (s m : Int) : SV := .tuple [I2 (if ok then s else 0) (if ok then m else 0), .i (if ok then 0 else 2)]
theorem x46two (s m a b a' b' : Int) (H : List Blk) : XFn Y T46 Tryd.f46 [I2 s m, .tight 2 [[.int .i64 a, .int .i64 b], [.int .i64 a', .int .i64 b']]] H (fun x => x.1 = chkI (decide (isI a b ∧ isI a' b' ∧ isI s m)) s m ∧ ∃ bs, x.2 = H ++ bs) := by
  unfold XFn Tryd.f46
  rw [enter_2 _ (by decide)]
  have w1 : IntKind.i64.wrap 1 = 1 := rfl
  have w2 : IntKind.i64.wrap 2 = 2 := rfl
  have w3 : IntKind.i64.wrap 3 = 3 := rfl
  by_cases h1 : isI a b
  · by_cases h2 : isI a' b'
    · by_cases h3 : isI s m
      · simp [-Int.not_lt, -Int.not_le, X_loop, T46_eq, F22, h1, h2, h3, chkI, w1, w2, w3]
      · simp [-Int.not_lt, -Int.not_le, X_loop, T46_eq, F22, h1, h2, h3, chkI, w1, w2, w3]
    · simp [-Int.not_lt, -Int.not_le, X_loop, T46_eq, F22, h1, h2, chkI, w1, w2, w3]
  · simp [-Int.not_lt, -Int.not_le, X_loop, T46_eq, F22, h1, chkI, w1, w2, w3]
theorem x46one (s m a b : Int) (H : List Blk) : XFn Y T46 Tryd.f46 [I2 s m, .tight 2 [[.int .i64 a, .int .i64 b]]] H (fun x => x.1 = chkI (decide (isI a b ∧ isI s m)) s m ∧ ∃ bs, x.2 = H ++ bs) := by
  unfold XFn Tryd.f46
  rw [enter_2 _ (by decide)]
  have w1 : IntKind.i64.wrap 1 = 1 := rfl
  have w2 : IntKind.i64.wrap 2 = 2 := rfl
  by_cases h1 : isI a b
  · by_cases h3 : isI s m
    · simp [-Int.not_lt, -Int.not_le, X_loop, T46_eq, F22, h1, h3, chkI, w1, w2]
    · simp [-Int.not_lt, -Int.not_le, X_loop, T46_eq, F22, h1, h3, chkI, w1, w2]
  · simp [-Int.not_lt, -Int.not_le, X_loop, T46_eq, F22, h1, chkI, w1, w2]
theorem all46two (s m a b a' b' : Int) (H : List Blk) : ∃ bs, arunAll Y T46 Tryd.f46 [I2 s m, .tight 2 [[.int .i64 a, .int .i64 b], [.int .i64 a', .int .i64 b']]] H = some (chkI (decide (isI a b ∧ isI a' b' ∧ isI s m)) s m, H ++ bs) := by
  obtain ⟨r, H', h1, h2, bs, h3⟩ := all_of_XFn (by rfl) (x46two s m a b a' b' H)
  simp only [] at h2 h3
  exact ⟨bs, by rw [h1, h2, h3]⟩
theorem all46one (s m a b : Int) (H : List Blk) : ∃ bs, arunAll Y T46 Tryd.f46 [I2 s m, .tight 2 [[.int .i64 a, .int .i64 b]]] H = some (chkI (decide (isI a b ∧ isI s m)) s m, H ++ bs) := by
  obtain ⟨r, H', h1, h2, bs, h3⟩ := all_of_XFn (by rfl) (x46one s m a b H)
  simp only [] at h2 h3
  exact ⟨bs, by rw [h1, h2, h3]⟩
end Go.Proofs.YtmmpjnjdddaldaaDoor
