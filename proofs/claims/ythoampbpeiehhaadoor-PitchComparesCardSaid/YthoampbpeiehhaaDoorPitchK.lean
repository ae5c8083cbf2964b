/- The examples of the chapter, by the interpreter. -/
import Derived.Test.YthoampbpeiehhaaDoorPitchLib
set_option linter.unusedSimpArgs false
set_option linter.unusedVariables false
set_option maxRecDepth 100000
set_option maxHeartbeats 4000000
namespace Go.Proofs.YthoampbpeiehhaaDoor
open Go.Pm Go.RowKit
attribute [local simp] acode_skip acode_ret acode_exit acode_label acode_scope acode_region acode_seq acode_block acode_cond aops_nil aops_plain aops_guard finish_norm finish_ret thenC_ite inB_ite finish_ite Go.Pm.prun outO_ite arun aval put aWanted enter aresult List.getD Tree.get Nat.beq Nat.ble specFn
attribute [local simp] Y tys

theorem w64_id {n : Int} (h : -9223372036854775808 ≤ n) (h' : n ≤ 9223372036854775807) : w64 n = n := by
  unfold w64 IntKind.wrap
  simp only [IntKind.bits, IntKind.signed]
  have e1 : (2 : Int) ^ 64 = 18446744073709551616 := by decide
  have e2 : (2 : Int) ^ (64 - 1) = 9223372036854775808 := by decide
  simp only [e1, e2, Bool.true_and]
  split
  · rename_i h1; simp at h1; omega
  · rename_i h1; simp at h1; omega

/-- The rounded quotient and the rest, at the two divisors that the program has. -/
theorem run34 (a b : Int) (h : -9223372036854775808 ≤ a ∧ a ≤ 9223372036854775807) (hb : b = 7 ∨ b = 12) : prun Y (fun _ => none) Tryd.f34 100 [.i a, .i b] = some (.tuple [.i (a / b), .i (a % b)]) := by
  have hb0 : b ≠ 0 := by omega
  have k1 := Int.mul_tdiv_add_tmod a b
  have k2 : a.tmod b < b := Int.tmod_lt_of_pos a (by omega)
  have k3 : -b < a.tmod b := Int.lt_tmod_of_pos a (by omega)
  unfold Tryd.f34
  generalize hq : a.tdiv b = q at k1
  generalize hm : a.tmod b = m at k1 k2 k3
  have e1 : w64 q = q := by rcases hb with rfl | rfl <;> (apply w64_id <;> omega)
  by_cases hr : m < 0
  · have e2 : w64 (q - 1) = a / b := by rcases hb with rfl | rfl <;> (rw [w64_id] <;> omega)
    have e3 : w64 (m + b) = a % b := by rcases hb with rfl | rfl <;> (rw [w64_id] <;> omega)
    simp [hb0, hq, hm, hr, e1, e2, e3]
  · have e2 : q = a / b := by rcases hb with rfl | rfl <;> omega
    have e3 : m = a % b := by rcases hb with rfl | rfl <;> omega
    have hr' : ¬ a % b < 0 := by rw [← e3]; exact hr
    have e4 : w64 (a / b) = a / b := by rw [← e2]; exact e1
    simp [hb0, hq, hm, hr, hr', e1, e2, e3, e4]
def F34 : List SV → Option SV
  | [.pv (.int .i64 a), .pv (.int .i64 b)] => if (-9223372036854775808 ≤ a ∧ a ≤ 9223372036854775807) ∧ (b = 7 ∨ b = 12) then some (.tuple [.i (a / b), .i (a % b)]) else none
  | _ => none
theorem meets34 (W0 : World) : OkAt W0 34 F34 := ⟨enterable_of Tryd.func34 (by kernel_rfl), meets_prun env tok_none mixed Tryd.func34 rfl (by kernel_rfl) fun args r h => by
  unfold F34 at h
  split at h
  · split at h
    · cases h; rename_i h; exact ⟨100, run34 _ _ h.1 h.2⟩
    · cases h
  · cases h⟩

noncomputable def TE : FuncId → Option Pm.Spec := Tree.get (.node 34 (.pure false F34) (.node 27 (.pure false F27) .nil .nil) (.node 35 (.pure false F35) .nil .nil))
theorem tokE (W0 : World) : TOk Tryd.prog W0 TE := tok_tree ⟨meets34 W0, ⟨meets27 W0, trivial, trivial⟩, meets35 W0, trivial, trivial⟩
abbrev V3 (s a o : Int) : List PV := [.int .i64 s, .int .i64 a, .int .i64 o]
theorem run12_61 : prun Y TE Tryd.f12 100 [.i 61] = some (.tuple [.fresh 29 3 [V3 6 2 3, V3 0 1 4, V3 1 (-1) 4], .i 0]) := by kernel_rfl
theorem run12_60 : prun Y TE Tryd.f12 100 [.i 60] = some (.tuple [.fresh 29 3 [V3 6 1 3, V3 0 0 4, V3 1 (-2) 4], .i 0]) := by kernel_rfl

def F12k : List SV → Option SV
  | [.pv (.int .i64 n)] => if n = 61 then some (.tuple [.fresh 29 3 [V3 6 2 3, V3 0 1 4, V3 1 (-1) 4], .i 0]) else if n = 60 then some (.tuple [.fresh 29 3 [V3 6 1 3, V3 0 0 4, V3 1 (-2) 4], .i 0]) else none
  | _ => none
abbrev OkFr (W0 : World) (g : Nat) (F : List SV → Option SV) : Prop := Enterable Tryd.prog g ∧ Meets Tryd.prog W0 g (specFn (.pure true F))
theorem meets12k (W0 : World) : OkFr W0 12 F12k := ⟨enterable_of Tryd.func12 (by kernel_rfl), meets_prun env (tokE W0) mixed Tryd.func12 rfl (by kernel_rfl) fun args r h => by
  unfold F12k at h
  split at h
  · split at h
    · cases h; rename_i h; subst h; exact ⟨100, run12_61⟩
    · split at h
      · cases h; rename_i h; subst h; exact ⟨100, run12_60⟩
      · cases h
  · cases h⟩

noncomputable def TF : FuncId → Option Pm.Spec := Tree.get (.node 27 (.pure false F27) (.node 12 (.pure true F12k) .nil .nil) (.node 37 (.pure false F37) .nil .nil))
theorem tokF (W0 : World) : TOk Tryd.prog W0 TF := tok_tree ⟨meets27 W0, ⟨meets12k W0, trivial, trivial⟩, meets37 W0, trivial, trivial⟩
def F15k : List SV → Option SV
  | [.agg [.pv (.int .i64 s), .pv (.int .i64 a), .pv (.int .i64 o)], .pv (.int .i64 d)] => if s = 0 ∧ a = 0 ∧ o = 4 ∧ d = -1 then some (.tuple [P3 6 1 3, .i 0]) else none
  | _ => none
theorem run15k : prun Y TF Tryd.f15 100 [P3 0 0 4, .i (-1)] = some (.tuple [P3 6 1 3, .i 0]) := by kernel_rfl
theorem meets15k (W0 : World) : OkAt W0 15 F15k := ⟨enterable_of Tryd.func15 (by kernel_rfl), meets_prun env (tokF W0) mixed Tryd.func15 rfl (by kernel_rfl) fun args r h => by
  unfold F15k at h
  split at h
  · split at h
    · cases h; rename_i h; obtain ⟨rfl, rfl, rfl, rfl⟩ := h; exact ⟨100, run15k⟩
    · cases h
  · cases h⟩

noncomputable def TG : FuncId → Option Pm.Spec := Tree.get (.node 40 (.pure false F40) (.node 38 (.pure false F38) (.node 27 (.pure false F27) .nil .nil) (.node 39 (.pure false F39) .nil .nil)) (.node 41 (.pure false F41) .nil (.node 42 (.pure false F42) .nil .nil)))
theorem tokG {W0 : World} (L : Laid W0) : TOk Tryd.prog W0 TG := tok_tree ⟨meets40 W0, ⟨meets38 W0, ⟨meets27 W0, trivial, trivial⟩, meets39 L, trivial, trivial⟩, meets41 W0, trivial, meets42 L, trivial, trivial⟩
theorem run19k : prun Y TG Tryd.f19 100 [.str [67, 35]] = some (.tuple [P3 0 0 0, .i 1, .i 3]) := by kernel_rfl
theorem run18k : prun Y TG Tryd.f18 100 [P3 6 (-1) 3] = some (.tuple [.str [66, 98, 51], .i 0]) := by kernel_rfl

def F19k : List SV → Option SV
  | [.pv (.str s)] => if s = [67, 35] then some (.tuple [P3 0 0 0, .i 1, .i 3]) else none
  | _ => none
theorem meets19k {W0 : World} (L : Laid W0) : OkAt W0 19 F19k := ⟨enterable_of Tryd.func19 (by kernel_rfl), meets_prun env (tokG L) mixed Tryd.func19 rfl (by kernel_rfl) fun args r h => by
  unfold F19k at h
  split at h
  · split at h
    · cases h; rename_i h; subst h; exact ⟨100, run19k⟩
    · cases h
  · cases h⟩
def F18k : List SV → Option SV
  | [.agg [.pv (.int .i64 s), .pv (.int .i64 a), .pv (.int .i64 o)]] => if s = 6 ∧ a = -1 ∧ o = 3 then some (.tuple [.str [66, 98, 51], .i 0]) else none
  | _ => none
theorem meets18k {W0 : World} (L : Laid W0) : OkAt W0 18 F18k := ⟨enterable_of Tryd.func18 (by kernel_rfl), meets_prun env (tokG L) mixed Tryd.func18 rfl (by kernel_rfl) fun args r h => by
  unfold F18k at h
  split at h
  · split at h
    · cases h; rename_i h; obtain ⟨rfl, rfl, rfl⟩ := h; exact ⟨100, run18k⟩
    · cases h
  · cases h⟩
noncomputable def TH : FuncId → Option Pm.Spec := Tree.get (.node 18 (.pure false F18k) (.node 15 (.pure false F15k) (.node 12 (.pure true F12k) .nil .nil) .nil) (.node 22 (.pure false F22) (.node 19 (.pure false F19k) .nil .nil) .nil))
theorem tokH {W0 : World} (L : Laid W0) : TOk Tryd.prog W0 TH := tok_tree ⟨meets18k L, ⟨meets15k W0, ⟨meets12k W0, trivial, trivial⟩, trivial⟩, meets22 W0, ⟨meets19k L, trivial, trivial⟩, trivial⟩
theorem run13 : prun Y TH Tryd.f13 100 [] = some (.bool true) := by kernel_rfl
def F13 : List SV → Option SV
  | [] => some (.bool true)
  | _ => none
/-- The chapter's examples hold. -/
theorem meets13 {W0 : World} (L : Laid W0) : OkAt W0 13 F13 := ⟨enterable_of Tryd.func13 (by kernel_rfl), meets_prun env (tokH L) mixed Tryd.func13 rfl (by kernel_rfl) fun args r h => by
  unfold F13 at h
  split at h
  · cases h; exact ⟨100, run13⟩
  · cases h⟩
end Go.Proofs.YthoampbpeiehhaaDoor
