/- Qualities, by the machine. -/
import Derived.Test.YtmmpjnjdddaldaaGreatDoorIntI
set_option linter.unusedSimpArgs false
set_option linter.unusedVariables false
set_option maxRecDepth 1000000
set_option maxHeartbeats 400000
namespace Go.Proofs.YtmmpjnjdddaldaaGreatDoor
open Go Go.Pm Go.RowKit
def natZ (n : Int) : Int := 12 * (n / 7) + semi (n % 7)
theorem x63 (n : Int) (h : 0 ≤ n ∧ n ≤ 77) : XFn Y T0 Tryz.f16 [.i n] [] (Is (.i (natZ n))) := by
  unfold XFn Tryz.f16 natZ
  rw [enter_1 _ (by decide)]
  have t : n.tmod 7 = n % 7 := Int.tmod_eq_emod_of_nonneg h.1
  have t2 : n.tdiv 7 = n / 7 := Int.tdiv_eq_ediv_of_nonneg h.1
  have h7 : 0 ≤ n % 7 ∧ n % 7 ≤ 6 := by omega
  have hs := semi_range h7
  have ha := semi_at h7
  have w1 : IntKind.i64.wrap (n / 7) = n / 7 := wrap64 (by omega) (by omega)
  have w2 : IntKind.i64.wrap (12 * (n / 7)) = 12 * (n / 7) := wrap64 (by omega) (by omega)
  have w3 : IntKind.i64.wrap (12 * (n / 7) + semi (n % 7)) = 12 * (n / 7) + semi (n % 7) := wrap64 (by omega) (by omega)
  have k1 : n % 7 < 7 := by omega
  generalize n % 7 = r at *
  rcases (by omega : r = 0 ∨ r = 1 ∨ r = 2 ∨ r = 3 ∨ r = 4 ∨ r = 5 ∨ r = 6) with rfl | rfl | rfl | rfl | rfl | rfl | rfl <;> simp [semi] at w3 <;> simp [-Int.not_lt, -Int.not_le, t, t2, w1, w2, w3, semi]
def F63 : List SV → Option SV
  | [.pv (.int .i64 n)] => if 0 ≤ n ∧ n ≤ 77 then some (.i (natZ n)) else none
  | _ => none
theorem meets63 (W0 : World) : OkAt W0 16 F63 := meets_fn env tok_nil mixed Tryz.func16 (by kernel_rfl) (by kernel_rfl) fun args r h => by
  unfold F63 at h
  split at h
  · split at h
    · rename_i hc; cases h; exact x63 _ hc
    · cases h
  · cases h
def larZ (d : Int) : Int × Int := if 0 < d then (2, d) else if d = 0 then (1, 0) else if d = -1 then (-1, 0) else (-2, -1 - d)
def perZ (d : Int) : Int × Int := if 0 < d then (2, d) else if d < 0 then (-2, -d) else (0, 0)
theorem x60 (d : Int) (h : -2000 ≤ d ∧ d ≤ 2000) : XFn Y T0 Tryz.f48 [.i d] [] (Is (.tuple [.i (larZ d).1, .i (larZ d).2])) := by
  unfold XFn Tryz.f48 larZ
  rw [enter_1 _ (by decide)]
  have w : IntKind.i64.wrap (-1 - d) = -1 - d := wrap64 (by omega) (by omega)
  by_cases h1 : 0 < d
  · simp [-Int.not_lt, -Int.not_le, h1]
  · by_cases h2 : d = 0
    · simp [-Int.not_lt, -Int.not_le, h2]
    · by_cases h3 : d = -1
      · simp [-Int.not_lt, -Int.not_le, h3]
      · simp [-Int.not_lt, -Int.not_le, h1, h2, h3, w]
theorem x61 (d : Int) (h : -2000 ≤ d ∧ d ≤ 2000) : XFn Y T0 Tryz.f49 [.i d] [] (Is (.tuple [.i (perZ d).1, .i (perZ d).2])) := by
  unfold XFn Tryz.f49 perZ
  rw [enter_1 _ (by decide)]
  have w : IntKind.i64.wrap (-d) = -d := wrap64 (by omega) (by omega)
  by_cases h1 : 0 < d
  · simp [-Int.not_lt, -Int.not_le, h1]
  · by_cases h2 : d < 0
    · simp [-Int.not_lt, -Int.not_le, h1, h2, w]
    · simp [-Int.not_lt, -Int.not_le, h1, h2]
def F60 : List SV → Option SV
  | [.pv (.int .i64 d)] => if -2000 ≤ d ∧ d ≤ 2000 then some (.tuple [.i (larZ d).1, .i (larZ d).2]) else none
  | _ => none
def F61 : List SV → Option SV
  | [.pv (.int .i64 d)] => if -2000 ≤ d ∧ d ≤ 2000 then some (.tuple [.i (perZ d).1, .i (perZ d).2]) else none
  | _ => none
theorem meets60 (W0 : World) : OkAt W0 48 F60 := meets_fn env tok_nil mixed Tryz.func48 (by kernel_rfl) (by kernel_rfl) fun args r h => by
  unfold F60 at h
  split at h
  · split at h
    · rename_i hc; cases h; exact x60 _ hc
    · cases h
  · cases h
theorem meets61 (W0 : World) : OkAt W0 49 F61 := meets_fn env tok_nil mixed Tryz.func49 (by kernel_rfl) (by kernel_rfl) fun args r h => by
  unfold F61 at h
  split at h
  · split at h
    · rename_i hc; cases h; exact x61 _ hc
    · cases h
  · cases h
end Go.Proofs.YtmmpjnjdddaldaaGreatDoor
