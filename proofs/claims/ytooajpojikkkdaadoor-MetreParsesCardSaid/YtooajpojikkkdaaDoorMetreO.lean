/- The chapter's example, and the law of Split, by the machine. -/
import Derived.Test.YtooajpojikkkdaaDoorMetreN
set_option linter.unusedSimpArgs false
set_option linter.unusedVariables false
set_option maxRecDepth 1000000
set_option maxHeartbeats 400000
namespace Go.Proofs.YtooajpojikkkdaaDoor
open Go Go.Pm Go.RowKit
noncomputable def T13 : FuncId → Option Pm.Spec := tab [(14, .pure false F14), (32, .pure false F32)]
theorem T13_eq (g : Nat) : T13 g = tab [(14, .pure false F14), (32, .pure false F32)] g := rfl
theorem kn1 : splitR 4 4 [0, 0, 0, 0, 0, 0] 0 1451520 = ([(1, 1)], 0) := by decide +kernel
theorem kn2 : splitR 4 4 [0, 0, 0, 0, 0, 0] 483840 1935360 = ([(2, 0), (1, 0)], 0) := by decide +kernel
theorem kn3 : textR 7 8 [2, 2, 3, 0, 0, 0] = ([50, 43, 50, 43, 51, 47, 56], 0) := by decide +kernel
theorem x13 : XFn Y T13 Tryd.f13 [] [] (Is (.bool true)) := by
  unfold XFn Tryd.f13
  rw [enter_mk0]
  simp [T13_eq, F14, F32, kn1, kn2, kn3, plainV, rowV]
def F13 : List SV → Option SV
  | [] => some (.bool true)
  | _ => none
theorem meets13 (W0 : World) : OkAt W0 13 F13 := meets_fn env (tok_cons (meets14 W0) (tok_cons (meets32 W0) tok_nil)) mixed Tryd.func13 (by kernel_rfl) (by kernel_rfl) fun args r h => by
  unfold F13 at h
  split at h
  · cases h; exact x13
  · cases h
noncomputable def T3 : FuncId → Option Pm.Spec := tab [(13, .pure false F13), (14, .pure false F14), (15, .pure false F14), (16, .pure false F16)]
theorem T3_eq (g : Nat) : T3 g = tab [(13, .pure false F13), (14, .pure false F14), (15, .pure false F14), (16, .pure false F16)] g := rfl
theorem tok3 (W0 : World) : TOk Tryd.prog W0 T3 := tok_cons (meets13 W0) (tok_cons (meets14 W0) (tok_cons (meets15 W0) (tok_cons (meets16 W0) tok_nil)))
theorem splitR_len (c u g0 g1 g2 g3 g4 g5 a b : Int) : (splitR c u [g0, g1, g2, g3, g4, g5] a b).1.length ≤ 2048 := by
  unfold splitR
  repeat' split
  all_goals try (simp; done)
  rename_i h0 h1 h2 h3
  have hlv := level_range c u [g0, g1, g2, g3, g4, g5]
  have hd : dom2 a b := ⟨⟨by omega, by omega, by omega, by omega⟩, by omega, by omega⟩
  have := (splitZ_len hlv 2049 a b _ hd (sp_eq hlv hd)).2
  simp only []
  omega
theorem x3 (c u g0 g1 g2 g3 g4 g5 a b : Int) : XFn Y T3 Tryd.f3 [.agg (M8 c u g0 g1 g2 g3 g4 g5), .i a, .i b] [] (Is (.bool true)) := by
  unfold XFn Tryd.f3
  rw [enter_3 _ (by decide)]
  have hl := splitR_len c u g0 g1 g2 g3 g4 g5 a b
  generalize hR : splitR c u [g0, g1, g2, g3, g4, g5] a b = R at *
  obtain ⟨l, e⟩ := R
  simp only [] at hl
  have hf : F16 [argV l, argV l] = some (.bool true) := by
    simp only [F16, unV_arg]
    rw [if_pos (by omega)]; simp
  match l, hf with
  | [], hf => simp [T3_eq, F13, F14, hR, plainV, argV] at hf ⊢; simp [hf]
  | [v], hf => simp [T3_eq, F13, F14, hR, plainV, argV] at hf ⊢; simp [hf]
  | v :: w :: r, hf => simp [T3_eq, F13, F14, hR, plainV, argV] at hf ⊢; simp [hf]
theorem law3 (W0 : World) : codeOk T3 (Tryd.f3.body.getD .skip) = true := by kernel_rfl
end Go.Proofs.YtooajpojikkkdaaDoor
