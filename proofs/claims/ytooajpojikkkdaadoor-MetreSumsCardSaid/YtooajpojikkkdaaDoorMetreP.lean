/- Offset, tick and Level with their errors, and the laws of the offsets and of the levels, by the machine. -/
import Derived.Test.YtooajpojikkkdaaDoorMetreO
set_option linter.unusedSimpArgs false
set_option linter.unusedVariables false
set_option maxRecDepth 1000000
set_option maxHeartbeats 400000
namespace Go.Proofs.YtooajpojikkkdaaDoor
open Go Go.Pm Go.RowKit
noncomputable def T19 : FuncId → Option Pm.Spec := tab [(26, .pure false F26), (38, .pure false F20)]
theorem T19_eq (g : Nat) : T19 g = tab [(26, .pure false F26), (38, .pure false F20)] g := rfl
/-- Offset and its error. -/
def offR (c u : Int) (gs : List Int) (n : Int) : Int × Int :=
  if chkM c u gs ≠ 0 then (0, chkM c u gs) else if n < 1 ∨ 4398046511104 < n then (0, 2) else (if lenZ c u - n > 0 then lenZ c u - n else 0, 0)
theorem x19 (c u g0 g1 g2 g3 g4 g5 n : Int) : XFn Y T19 Tryd.f19 [.agg (M8 c u g0 g1 g2 g3 g4 g5), .i n] [] (Is (.tuple [.i (offR c u [g0, g1, g2, g3, g4, g5] n).1, .i (offR c u [g0, g1, g2, g3, g4, g5] n).2])) := by
  unfold XFn Tryd.f19
  rw [enter_2 _ (by decide)]
  by_cases h0 : chkM c u [g0, g1, g2, g3, g4, g5] = 0
  · have hok := okM_chk.2 h0
    have hl := lenZ_range hok.1 hok.2.1
    by_cases h1 : n < 1
    · simp [T19_eq, F26, h0, h1, offR, -Int.not_lt, -Int.not_le]
    · by_cases h2 : 4398046511104 < n
      · simp [T19_eq, F26, h0, h1, h2, offR, -Int.not_lt, -Int.not_le]
      · have e : IntKind.i64.wrap (lenZ c u - n) = lenZ c u - n := wrap64 (n := lenZ c u - n) (by omega) (by omega)
        simp [T19_eq, F26, F20, h0, h1, h2, hok.1, hok.2.1, e, offR, -Int.not_lt, -Int.not_le]
  · simp [T19_eq, F26, h0, offR]
def F19 : List SV → Option SV
  | [.agg [.pv (.int .i64 c), .pv (.int .i64 u), .pv (.int .i64 g0), .pv (.int .i64 g1), .pv (.int .i64 g2), .pv (.int .i64 g3), .pv (.int .i64 g4), .pv (.int .i64 g5)], .pv (.int .i64 n)] =>
    some (.tuple [.i (offR c u [g0, g1, g2, g3, g4, g5] n).1, .i (offR c u [g0, g1, g2, g3, g4, g5] n).2])
  | _ => none
theorem meets19 (W0 : World) : OkAt W0 19 F19 := meets_fn env (tok_cons (meets26 W0) (tok_cons (meets38 W0) tok_nil)) mixed Tryd.func19 (by kernel_rfl) (by kernel_rfl) fun args r h => by
  unfold F19 at h
  split at h
  · cases h; exact x19 _ _ _ _ _ _ _ _ _
  · cases h
noncomputable def T5 : FuncId → Option Pm.Spec := tab [(13, .pure false F13), (19, .pure false F19), (17, .pure false F17), (20, .pure false F20)]
theorem T5_eq (g : Nat) : T5 g = tab [(13, .pure false F13), (19, .pure false F19), (17, .pure false F17), (20, .pure false F20)] g := rfl
theorem tok5 (W0 : World) : TOk Tryd.prog W0 T5 := tok_cons (meets13 W0) (tok_cons (meets19 W0) (tok_cons (meets17 W0) (tok_cons (meets20 W0) tok_nil)))
theorem x5 (c u g0 g1 g2 g3 g4 g5 n : Int) : XFn Y T5 Tryd.f5 [.agg (M8 c u g0 g1 g2 g3 g4 g5), .i n] [] (Is (.bool true)) := by
  unfold XFn Tryd.f5
  rw [enter_2 _ (by decide)]
  by_cases h0 : chkM c u [g0, g1, g2, g3, g4, g5] = 0
  · have hok := okM_chk.2 h0
    have hl := lenZ_range hok.1 hok.2.1
    by_cases h1 : n < 1
    · simp [T5_eq, F13, F19, F17, F26, h0, h1, offR, -Int.not_lt, -Int.not_le]
    · by_cases h2 : 4398046511104 < n
      · simp [T5_eq, F13, F19, F17, F26, h0, h1, h2, offR, -Int.not_lt, -Int.not_le]
      · have e : IntKind.i64.wrap (lenZ c u - n) = lenZ c u - n := wrap64 (n := lenZ c u - n) (by omega) (by omega)
        simp [T5_eq, F13, F19, F17, F26, F20, h0, h1, h2, hok.1, hok.2.1, e, offR, -Int.not_lt, -Int.not_le]
  · simp [T5_eq, F13, F19, F17, F26, h0, offR]
noncomputable def T40 : FuncId → Option Pm.Spec := tab [(26, .pure false F26)]
theorem T40_eq (g : Nat) : T40 g = tab [(26, .pure false F26)] g := rfl
/-- The error of a tick. -/
def tickE (c u : Int) (gs : List Int) (n : Int) : Int := if chkM c u gs ≠ 0 then chkM c u gs else if n < 0 ∨ 4398046511104 < n then 2 else 0
theorem x40 (c u g0 g1 g2 g3 g4 g5 n : Int) : XFn Y T40 Tryd.f40 [.agg (M8 c u g0 g1 g2 g3 g4 g5), .i n] [] (Is (.i (tickE c u [g0, g1, g2, g3, g4, g5] n))) := by
  unfold XFn Tryd.f40
  rw [enter_2 _ (by decide)]
  by_cases h0 : chkM c u [g0, g1, g2, g3, g4, g5] = 0
  · by_cases h1 : n < 0
    · simp [T40_eq, F26, h0, h1, tickE, -Int.not_lt, -Int.not_le]
    · by_cases h2 : 4398046511104 < n
      · simp [T40_eq, F26, h0, h1, h2, tickE, -Int.not_lt, -Int.not_le]
      · simp [T40_eq, F26, h0, h1, h2, tickE, -Int.not_lt, -Int.not_le]
  · simp [T40_eq, F26, h0, tickE]
def F40 : List SV → Option SV
  | [.agg [.pv (.int .i64 c), .pv (.int .i64 u), .pv (.int .i64 g0), .pv (.int .i64 g1), .pv (.int .i64 g2), .pv (.int .i64 g3), .pv (.int .i64 g4), .pv (.int .i64 g5)], .pv (.int .i64 n)] =>
    some (.i (tickE c u [g0, g1, g2, g3, g4, g5] n))
  | _ => none
theorem meets40 (W0 : World) : OkAt W0 40 F40 := meets_fn env (tok_cons (meets26 W0) tok_nil) mixed Tryd.func40 (by kernel_rfl) (by kernel_rfl) fun args r h => by
  unfold F40 at h
  split at h
  · cases h; exact x40 _ _ _ _ _ _ _ _ _
  · cases h
noncomputable def T21 : FuncId → Option Pm.Spec := tab [(40, .pure false F40), (41, .pure false F22)]
theorem T21_eq (g : Nat) : T21 g = tab [(40, .pure false F40), (41, .pure false F22)] g := rfl
/-- Level and its error. -/
def lvlR (c u : Int) (gs : List Int) (n : Int) : Int × Int := if tickE c u gs n ≠ 0 then (0, tickE c u gs n) else (levelZ c u gs n, 0)
theorem tick_ok {c u : Int} {gs : List Int} {n : Int} (h : tickE c u gs n = 0) : okM c u gs ∧ 0 ≤ n ∧ n ≤ 4398046511104 := by
  unfold tickE at h
  split at h
  · exact absurd h (by assumption)
  · split at h
    · cases h
    · rename_i h0 h1
      exact ⟨okM_chk.2 (by simpa using h0), by omega, by omega⟩
theorem tick_of {c u : Int} {gs : List Int} {n : Int} (h : okM c u gs) (h0 : 0 ≤ n) (h1 : n ≤ 4398046511104) : tickE c u gs n = 0 := by
  unfold tickE
  rw [okM_chk.1 h, if_neg (by simp), if_neg (by omega)]
theorem x21 (c u g0 g1 g2 g3 g4 g5 n : Int) : XFn Y T21 Tryd.f21 [.agg (M8 c u g0 g1 g2 g3 g4 g5), .i n] [] (Is (.tuple [.i (lvlR c u [g0, g1, g2, g3, g4, g5] n).1, .i (lvlR c u [g0, g1, g2, g3, g4, g5] n).2])) := by
  unfold XFn Tryd.f21
  rw [enter_2 _ (by decide)]
  by_cases h0 : tickE c u [g0, g1, g2, g3, g4, g5] n = 0
  · obtain ⟨hok, hn, _⟩ := tick_ok h0
    simp [T21_eq, F40, F22, h0, hok, hn, lvlR]
  · simp [T21_eq, F40, h0, lvlR]
def F21 : List SV → Option SV
  | [.agg [.pv (.int .i64 c), .pv (.int .i64 u), .pv (.int .i64 g0), .pv (.int .i64 g1), .pv (.int .i64 g2), .pv (.int .i64 g3), .pv (.int .i64 g4), .pv (.int .i64 g5)], .pv (.int .i64 n)] =>
    some (.tuple [.i (lvlR c u [g0, g1, g2, g3, g4, g5] n).1, .i (lvlR c u [g0, g1, g2, g3, g4, g5] n).2])
  | _ => none
theorem meets21 (W0 : World) : OkAt W0 21 F21 := meets_fn env (tok_cons (meets40 W0) (tok_cons (meets41 W0) tok_nil)) mixed Tryd.func21 (by kernel_rfl) (by kernel_rfl) fun args r h => by
  unfold F21 at h
  split at h
  · cases h; exact x21 _ _ _ _ _ _ _ _ _
  · cases h
noncomputable def T6 : FuncId → Option Pm.Spec := tab [(13, .pure false F13), (21, .pure false F21), (17, .pure false F17), (22, .pure false F22)]
theorem T6_eq (g : Nat) : T6 g = tab [(13, .pure false F13), (21, .pure false F21), (17, .pure false F17), (22, .pure false F22)] g := rfl
theorem tok6 (W0 : World) : TOk Tryd.prog W0 T6 := tok_cons (meets13 W0) (tok_cons (meets21 W0) (tok_cons (meets17 W0) (tok_cons (meets22 W0) tok_nil)))
theorem x6 (c u g0 g1 g2 g3 g4 g5 n : Int) : XFn Y T6 Tryd.f6 [.agg (M8 c u g0 g1 g2 g3 g4 g5), .i n] [] (Is (.bool true)) := by
  unfold XFn Tryd.f6
  rw [enter_2 _ (by decide)]
  by_cases h0 : chkM c u [g0, g1, g2, g3, g4, g5] = 0
  · have hok := okM_chk.2 h0
    by_cases h1 : n < 0
    · simp [T6_eq, F13, F21, F17, F26, h0, h1, lvlR, tickE, -Int.not_lt, -Int.not_le]
    · by_cases h2 : 4398046511104 < n
      · simp [T6_eq, F13, F21, F17, F26, h0, h1, h2, lvlR, tickE, -Int.not_lt, -Int.not_le]
      · have h3 : 0 ≤ n := by omega
        simp [T6_eq, F13, F21, F17, F26, F22, h0, h1, h2, h3, hok, lvlR, tickE, -Int.not_lt, -Int.not_le]
  · simp [T6_eq, F13, F21, F17, F26, h0, lvlR, tickE]
end Go.Proofs.YtooajpojikkkdaaDoor
