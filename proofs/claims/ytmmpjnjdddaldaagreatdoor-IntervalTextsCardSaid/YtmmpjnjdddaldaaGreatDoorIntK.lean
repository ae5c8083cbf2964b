/- The quality of an interval, by the machine. -/
import Derived.Test.YtmmpjnjdddaldaaGreatDoorIntJ
set_option linter.unusedSimpArgs false
set_option linter.unusedVariables false
set_option maxRecDepth 1000000
set_option maxHeartbeats 400000
namespace Go.Proofs.YtmmpjnjdddaldaaGreatDoor
open Go Go.Pm Go.RowKit
noncomputable def T50 : FuncId → Option Pm.Spec := tab [(2, .read F0), (23, .pure false F51), (18, .pure false F47), (17, .pure false F62), (16, .pure false F63), (48, .pure false F60), (49, .pure false F61)]
theorem T50_eq (g : Nat) : T50 g = tab [(2, .read F0), (23, .pure false F51), (18, .pure false F47), (17, .pure false F62), (16, .pure false F63), (48, .pure false F60), (49, .pure false F61)] g := rfl
/-- The quality of an interval that does not descend. -/
def quaU (u v : Int) : Int × Int := if 0 ≤ pureIx (u % 7) then perZ (v - natZ u) else larZ (v - natZ u)
def quaZ (s m : Int) : Int × Int := if downZ s m = true then quaU (-s) (-m) else quaU s m
theorem up_range {s m : Int} (h : isI s m) : (downZ s m = true → 0 ≤ -s) ∧ (downZ s m = false → 0 ≤ s) := by
  unfold downZ
  constructor
  · intro e
    by_cases h1 : s < 0
    · omega
    · simp [h1] at e; omega
  · intro e
    by_cases h1 : s < 0
    · simp [h1] at e
    · omega
theorem x50 (s m : Int) (h : isI s m) : XFn Y T50 Tryz.f24 [I2 s m] [] (Is (.tuple [.i (quaZ s m).1, .i (quaZ s m).2])) := by
  unfold XFn Tryz.f24
  rw [enter_1 _ (by decide)]
  obtain ⟨u1, u2⟩ := up_range h
  obtain ⟨⟨h1, h2⟩, h3, h4⟩ := h
  have nat : ∀ u : Int, 0 ≤ u → u ≤ 77 → 0 ≤ natZ u ∧ natZ u ≤ 143 := fun u a b => by
    have := semi_range (s := u % 7) (by omega)
    unfold natZ; omega
  have main : ∀ u v : Int, 0 ≤ u → u ≤ 77 → -140 ≤ v → v ≤ 140 → F62 [.i u] = some (.bool (decide (0 ≤ pureIx (u % 7)))) ∧ F63 [.i u] = some (.i (natZ u)) ∧ IntKind.i64.wrap (v - natZ u) = v - natZ u ∧
      F60 [.i (v - natZ u)] = some (.tuple [.i (larZ (v - natZ u)).1, .i (larZ (v - natZ u)).2]) ∧ F61 [.i (v - natZ u)] = some (.tuple [.i (perZ (v - natZ u)).1, .i (perZ (v - natZ u)).2]) := fun u v a b c d => by
    have := nat u a b
    refine ⟨by simp only [F62]; rw [if_pos ⟨a, b⟩], by simp only [F63]; rw [if_pos ⟨a, b⟩], wrap64 (by omega) (by omega), by simp only [F60]; rw [if_pos (by omega)], by simp only [F61]; rw [if_pos (by omega)]⟩
  unfold quaZ quaU
  by_cases hd : downZ s m = true
  · have w1 : IntKind.i64.wrap (-s) = -s := wrap64 (by omega) (by omega)
    have w2 : IntKind.i64.wrap (-m) = -m := wrap64 (by omega) (by omega)
    obtain ⟨k1, k2, k3, k4, k5⟩ := main (-s) (-m) (u1 hd) (by omega) (by omega) (by omega)
    by_cases hp : 0 ≤ pureIx (-s % 7)
    · simp [-Int.not_lt, -Int.not_le, T50_eq, F51, F47, hd, w1, w2, k1, k2, k3, k5, hp]
    · simp [-Int.not_lt, -Int.not_le, T50_eq, F51, F47, hd, w1, w2, k1, k2, k3, k4, hp]
  · have hd' : downZ s m = false := by simpa using hd
    obtain ⟨k1, k2, k3, k4, k5⟩ := main s m (u2 hd') (by omega) (by omega) (by omega)
    by_cases hp : 0 ≤ pureIx (s % 7)
    · simp [-Int.not_lt, -Int.not_le, T50_eq, F51, F47, hd', k1, k2, k3, k5, hp]
    · simp [-Int.not_lt, -Int.not_le, T50_eq, F51, F47, hd', k1, k2, k3, k4, hp]
def F50 : List SV → Option SV
  | [.agg [.pv (.int .i64 s), .pv (.int .i64 m)]] => if isI s m then some (.tuple [.i (quaZ s m).1, .i (quaZ s m).2]) else none
  | _ => none
theorem meets50 (W0 : World) : OkAt W0 24 F50 := meets_fn env (tok_cons (meets2 W0) (tok_cons (meets51 W0) (tok_cons (meets47 W0) (tok_cons (meets62 W0) (tok_cons (meets63 W0) (tok_cons (meets60 W0) (tok_cons (meets61 W0) tok_nil))))))) mixed Tryz.func24 (by kernel_rfl) (by kernel_rfl) fun args r h => by
  unfold F50 at h
  split at h
  · split at h
    · rename_i hc; cases h; exact x50 _ _ hc
    · cases h
  · cases h
end Go.Proofs.YtmmpjnjdddaldaaGreatDoor
