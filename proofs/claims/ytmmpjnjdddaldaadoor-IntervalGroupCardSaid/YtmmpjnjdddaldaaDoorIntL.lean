/- The reference's sums, by the machine. -/
import Derived.Test.YtmmpjnjdddaldaaDoorIntK
set_option linter.unusedSimpArgs false
set_option linter.unusedVariables false
set_option maxRecDepth 1000000
set_option maxHeartbeats 400000
namespace Go.Proofs.YtmmpjnjdddaldaaDoor
open Go Go.Pm Go.RowKit
/-- A sum of intervals, the second one multiplied by a sign; and its error. -/
def sumZ (s m s' m' k : Int) : (Int × Int) × Int := if isI s m ∧ isI s' m' ∧ isI (s + k * s') (m + k * m') then ((s + k * s', m + k * m'), 0) else ((0, 0), 2)
noncomputable def T21 : FuncId → Option Pm.Spec := tab [(23, .pure false F23)]
theorem T21_eq (g : Nat) : T21 g = tab [(23, .pure false F23)] g := rfl
theorem x21 (s m s' m' k : Int) (hk : k = 1 ∨ k = -1) : XFn Y T21 Tryd.f21 [I2 s m, I2 s' m', .i k] [] (Is (.tuple [I2 (sumZ s m s' m' k).1.1 (sumZ s m s' m' k).1.2, .i (sumZ s m s' m' k).2])) := by
  unfold XFn Tryd.f21
  rw [enter_3 _ (by decide)]
  unfold sumZ
  by_cases h : isI s m
  · by_cases h' : isI s' m'
    · have e : IntKind.i64.wrap (k * s') = k * s' ∧ IntKind.i64.wrap (k * m') = k * m' ∧ IntKind.i64.wrap (s + k * s') = s + k * s' ∧ IntKind.i64.wrap (m + k * m') = m + k * m' := by
        obtain ⟨⟨a1, a2⟩, a3, a4⟩ := h
        obtain ⟨⟨b1, b2⟩, b3, b4⟩ := h'
        rcases hk with rfl | rfl
        · exact ⟨wrap64 (by omega) (by omega), wrap64 (by omega) (by omega), wrap64 (by omega) (by omega), wrap64 (by omega) (by omega)⟩
        · exact ⟨wrap64 (by omega) (by omega), wrap64 (by omega) (by omega), wrap64 (by omega) (by omega), wrap64 (by omega) (by omega)⟩
      obtain ⟨e1, e2, e3, e4⟩ := e
      by_cases h2 : isI (s + k * s') (m + k * m')
      · simp [-Int.not_lt, -Int.not_le, T21_eq, F23, h, h', h2, e1, e2, e3, e4]
      · simp [-Int.not_lt, -Int.not_le, T21_eq, F23, h, h', h2, e1, e2, e3, e4]
    · simp [-Int.not_lt, -Int.not_le, T21_eq, F23, h, h']
  · simp [-Int.not_lt, -Int.not_le, T21_eq, F23, h]
def F21 : List SV → Option SV
  | [.agg [.pv (.int .i64 s), .pv (.int .i64 m)], .agg [.pv (.int .i64 s'), .pv (.int .i64 m')], .pv (.int .i64 k)] =>
    if k = 1 ∨ k = -1 then some (.tuple [I2 (sumZ s m s' m' k).1.1 (sumZ s m s' m' k).1.2, .i (sumZ s m s' m' k).2]) else none
  | _ => none
theorem meets21 (W0 : World) : OkAt W0 21 F21 := meets_fn env (tok_cons (meets23 W0) tok_nil) mixed Tryd.func21 (by kernel_rfl) (by kernel_rfl) fun args r h => by
  unfold F21 at h
  split at h
  · split at h
    · rename_i hc; cases h; exact x21 _ _ _ _ _ hc
    · cases h
  · cases h
end Go.Proofs.YtmmpjnjdddaldaaDoor
