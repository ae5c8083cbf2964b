/- One of the four sorts of tokens, by the machine. -/
import Derived.Test.YtkbfgmneibabgaaDoorLexK
set_option linter.unusedSimpArgs false
set_option linter.unusedVariables false
set_option maxRecDepth 1000000
set_option maxHeartbeats 2000000
namespace Go.Proofs.YtkbfgmneibabgaaDoor
open Go Go.Pm Go.RowKit
open LexP hiding place Sep Run
noncomputable def T77 : FuncId → Option Pm.Spec := tab [(69, .heap (arunAll Y T69 Tryd.f69)), (70, .heap (arunAll Y T70 Tryd.f70)), (71, .heap (arunAll Y T71 Tryd.f71)), (72, .heap (arunAll Y T72 Tryd.f72))]
theorem T77_eq (g : Nat) : T77 g = tab [(69, .heap (arunAll Y T69 Tryd.f69)), (70, .heap (arunAll Y T70 Tryd.f70)), (71, .heap (arunAll Y T71 Tryd.f71)), (72, .heap (arunAll Y T72 Tryd.f72))] g := rfl
theorem tok77 (W0 : World) : TOk Tryd.prog W0 T77 := tok_cons (meets69 W0) (tok_cons (meets70 W0) (tok_cons (meets71 W0) (tok_cons (meets72 W0) tok_nil)))
theorem meets77 (W0 : World) : Enterable Tryd.prog 77 ∧ Meets Tryd.prog W0 77 (specFn (.heap (arunAll Y T77 Tryd.f77))) := meets_heap env (tok77 W0) mixed Tryd.func77 (by kernel_rfl) (by kernel_rfl)
theorem all77 {g : Nat} {G : List SV → List Blk → Option (SV × List Blk)} (hg : T77 g = some (.heap G)) {ka kb k : Nat} {t t' : Option TypeId} {j b : Bool} {H H' : List Blk} (h1 : H[ka]? = some (.box t [.ptr k 0])) (h2 : H[kb]? = some (.box t' [.bool j])) (hG : G [.ptr k 0, .bool j] H = some (.bool b, H')) :
    arunAll Y T77 Tryd.f77 [.pv (.fn g), .ptr ka 0, .ptr kb 0] H = some (.bool b, H') := by
  have hx : XFn Y T77 Tryd.f77 [.pv (.fn g), .ptr ka 0, .ptr kb 0] H (fun x => x = (.bool b, H')) := by
    unfold XFn Tryd.f77
    rw [enter_3 _ (by decide)]
    have q2 : T77 2 = none := rfl
    simp [h1, h2, hg, hG, q2]
  obtain ⟨r, H1, x1, x2⟩ := all_of_XFn (by rfl) hx
  rw [x1, x2]
abbrev fnRow : List (List PV) := [[.fn 69], [.fn 70], [.fn 71], [.fn 72]]
noncomputable def T91 : FuncId → Option Pm.Spec := tab [(77, .heap (arunAll Y T77 Tryd.f77))]
theorem T91_eq (g : Nat) : T91 g = tab [(77, .heap (arunAll Y T77 Tryd.f77))] g := rfl
theorem tok91 (W0 : World) : TOk Tryd.prog W0 T91 := tok_cons (meets77 W0) tok_nil
theorem meets91 (W0 : World) : Enterable Tryd.prog 91 ∧ Meets Tryd.prog W0 91 (specFn (.heap (arunAll Y T91 Tryd.f91))) := meets_heap env (tok91 W0) mixed Tryd.func91 (by kernel_rfl) (by kernel_rfl)
/-- Which of the four is the first. -/
def idx4 (b1 b2 b3 b4 : Bool) : Int := if b1 then 0 else if b2 then 1 else if b3 then 2 else if b4 then 3 else -1
theorem all91 {ka kb : Nat} {H H' : List Blk} {b1 b2 b3 b4 : Bool}
    (h1 : arunAll Y T77 Tryd.f77 [.pv (.fn 69), .ptr ka 0, .ptr kb 0] H = some (.bool b1, if b1 then H' else H))
    (h2 : b1 = false → arunAll Y T77 Tryd.f77 [.pv (.fn 70), .ptr ka 0, .ptr kb 0] H = some (.bool b2, if b2 then H' else H))
    (h3 : b1 = false → b2 = false → arunAll Y T77 Tryd.f77 [.pv (.fn 71), .ptr ka 0, .ptr kb 0] H = some (.bool b3, if b3 then H' else H))
    (h4 : b1 = false → b2 = false → b3 = false → arunAll Y T77 Tryd.f77 [.pv (.fn 72), .ptr ka 0, .ptr kb 0] H = some (.bool b4, if b4 then H' else H)) :
    arunAll Y T91 Tryd.f91 [.tight 1 fnRow, .clo 77 [.ptr ka 0, .ptr kb 0]] H = some (.i (idx4 b1 b2 b3 b4), if b1 || b2 || b3 || b4 then H' else H) := by
  have hx : XFn Y T91 Tryd.f91 [.tight 1 fnRow, .clo 77 [.ptr ka 0, .ptr kb 0]] H (fun x => x = (.i (idx4 b1 b2 b3 b4), if b1 || b2 || b3 || b4 then H' else H)) := by
    have q2 : T91 2 = none := rfl
    have u1 : IntKind.i64.wrap 1 = 1 := wrap64 (by omega) (by omega)
    have u2 : IntKind.i64.wrap 2 = 2 := wrap64 (by omega) (by omega)
    have u3 : IntKind.i64.wrap 3 = 3 := wrap64 (by omega) (by omega)
    have u4 : IntKind.i64.wrap 4 = 4 := wrap64 (by omega) (by omega)
    unfold XFn Tryd.f91
    rw [enter_2 _ (by decide)]
    simp [T91_eq]
    refine X_loop_of rfl ?_
    cases b1 with
    | true => simp [T91_eq, h1, idx4]
    | false =>
      have h2 := h2 rfl
      simp [T91_eq, h1, u1]
      refine X_loop_of rfl ?_
      cases b2 with
      | true => simp [T91_eq, h2, idx4, u1]
      | false =>
        have h3 := h3 rfl rfl
        simp [T91_eq, h2, u1, u2]
        refine X_loop_of rfl ?_
        cases b3 with
        | true => simp [T91_eq, h3, idx4, u2]
        | false =>
          have h4 := h4 rfl rfl rfl
          simp [T91_eq, h3, u2, u3]
          refine X_loop_of rfl ?_
          cases b4 with
          | true => simp [T91_eq, h4, idx4, u3]
          | false =>
            simp [T91_eq, h4, u3, u4]
            refine X_loop_of rfl ?_
            simp [idx4, u4]
  obtain ⟨r, H1, x1, x2⟩ := all_of_XFn (by rfl) hx
  rw [x1, x2]
noncomputable def T76 : FuncId → Option Pm.Spec := tab [(91, .heap (arunAll Y T91 Tryd.f91))]
theorem T76_eq (g : Nat) : T76 g = tab [(91, .heap (arunAll Y T91 Tryd.f91))] g := rfl
theorem tok76 (W0 : World) : TOk Tryd.prog W0 T76 := tok_cons (meets91 W0) tok_nil
theorem meets76 (W0 : World) : Enterable Tryd.prog 76 ∧ Meets Tryd.prog W0 76 (specFn (.heap (arunAll Y T76 Tryd.f76))) := meets_heap env (tok76 W0) mixed Tryd.func76 (by kernel_rfl) (by kernel_rfl)
theorem all76 {ka kb : Nat} {H H' : List Blk} {i : Int} (h : arunAll Y T91 Tryd.f91 [.tight 1 fnRow, .clo 77 [.ptr ka 0, .ptr kb 0]] H = some (.i i, H')) :
    arunAll Y T76 Tryd.f76 [.tight 1 fnRow, .clo 77 [.ptr ka 0, .ptr kb 0]] H = some (.bool (decide (0 ≤ i)), H') := by
  have hx : XFn Y T76 Tryd.f76 [.tight 1 fnRow, .clo 77 [.ptr ka 0, .ptr kb 0]] H (fun x => x = (.bool (decide (0 ≤ i)), H')) := by
    unfold XFn Tryd.f76
    rw [enter_2 _ (by decide)]
    simp [T76_eq, h]
  obtain ⟨r, H1, x1, x2⟩ := all_of_XFn (by rfl) hx
  rw [x1, x2]
/-- A token, or the error that there is none. -/
theorem tok_step {k ka kb : Nat} {pre r : Bs} {c : UInt8} {toks : List Tk} {w : Int} {H : List Blk} {t t' : Option TypeId} (h : Scn k (pre ++ c :: r) pre.length toks 0 w H) (hb : toks.length ≤ 1100000) (j : Bool)
    (h1 : H[ka]? = some (.box t [.ptr k 0])) (h2 : H[kb]? = some (.box t' [.bool j])) :
    ∃ (b : Bool) (H' : List Blk), arunAll Y T76 Tryd.f76 [.tight 1 fnRow, .clo 77 [.ptr ka 0, .ptr kb 0]] H = some (.bool b, H') ∧
      (b = true → TokQ k (pre ++ c :: r) pre.length toks j w (c :: r) H H') ∧ (b = false → H' = H ∧ tokL (c :: r) = .err 0 6) := by
  by_cases q1 : letZ (z c) = true
  · obtain ⟨H', g1, g2⟩ := (all69 h hb j).2 q1
    have := all76 (all91 (b1 := true) (b2 := false) (b3 := false) (b4 := false) (H' := H') (all77 (g := 69) rfl h1 h2 g1) (fun e => by cases e) (fun e => by cases e) (fun e => by cases e))
    exact ⟨true, H', this, fun _ => g2, fun e => by cases e⟩
  have f1 := all77 (g := 69) rfl h1 h2 ((all69 h hb j).1 (by simpa using q1))
  by_cases q2 : digZ (z c) = true
  · obtain ⟨H', g1, g2⟩ := (all70 h hb j).2 q2
    have := all76 (all91 (b1 := false) (b2 := true) (b3 := false) (b4 := false) (H' := H') f1 (fun _ => all77 (g := 70) rfl h1 h2 g1) (fun _ e => by cases e) (fun _ e => by cases e))
    exact ⟨true, H', this, fun _ => g2, fun e => by cases e⟩
  have f2 := all77 (g := 70) rfl h1 h2 ((all70 h hb j).1 (by simpa using q2))
  by_cases q3 : z c = 34
  · obtain ⟨H', g1, g2⟩ := all71 h hb j q3
    have := all76 (all91 (b1 := false) (b2 := false) (b3 := true) (b4 := false) (H' := H') f1 (fun _ => f2) (fun _ _ => all77 (g := 71) rfl h1 h2 g1) (fun _ _ e => by cases e))
    exact ⟨true, H', this, fun _ => g2, fun e => by cases e⟩
  have f3 := all77 (g := 71) rfl h1 h2 (all71n h j q3)
  by_cases q4 : sgnZ (z c) = true
  · obtain ⟨H', g1, g2⟩ := (all72 h hb j).2 q4
    have := all76 (all91 (b1 := false) (b2 := false) (b3 := false) (b4 := true) (H' := H') f1 (fun _ => f2) (fun _ _ => f3) (fun _ _ _ => all77 (g := 72) rfl h1 h2 g1))
    exact ⟨true, H', this, fun _ => g2, fun e => by cases e⟩
  have f4 := all77 (g := 72) rfl h1 h2 ((all72 h hb j).1 (by simpa using q4))
  have := all76 (all91 (b1 := false) (b2 := false) (b3 := false) (b4 := false) (H' := H) f1 (fun _ => f2) (fun _ _ => f3) (fun _ _ _ => f4))
  refine ⟨false, H, this, fun e => by (cases e), fun _ => ⟨rfl, ?_⟩⟩
  rw [tokL, if_neg q1, if_neg q2, if_neg q3, if_neg q4]
end Go.Proofs.YtkbfgmneibabgaaDoor
