/- Length, Groups and Beats with their errors, two rows of numbers compared, and the law of the checks, by the machine. -/
import Derived.Test.YtooajpojikkkdaaDoorMetreP
set_option linter.unusedSimpArgs false
set_option linter.unusedVariables false
set_option maxRecDepth 1000000
set_option maxHeartbeats 400000
namespace Go.Proofs.YtooajpojikkkdaaDoor
open Go Go.Pm Go.RowKit
noncomputable def T23 : FuncId → Option Pm.Spec := tab [(26, .pure false F26), (38, .pure false F20)]
theorem T23_eq (g : Nat) : T23 g = tab [(26, .pure false F26), (38, .pure false F20)] g := rfl
def lenR (c u : Int) (gs : List Int) : Int := if chkM c u gs = 0 then lenZ c u else 0
theorem x23 (c u g0 g1 g2 g3 g4 g5 : Int) : XFn Y T23 Tryd.f23 [.agg (M8 c u g0 g1 g2 g3 g4 g5)] [] (Is (.tuple [.i (lenR c u [g0, g1, g2, g3, g4, g5]), .i (chkM c u [g0, g1, g2, g3, g4, g5])])) := by
  unfold XFn Tryd.f23
  rw [enter_1 _ (by decide)]
  by_cases h0 : chkM c u [g0, g1, g2, g3, g4, g5] = 0
  · have hok := okM_chk.2 h0
    simp [T23_eq, F26, F20, h0, hok.1, hok.2.1, lenR]
  · simp [T23_eq, F26, h0, lenR]
def F23 : List SV → Option SV
  | [.agg [.pv (.int .i64 c), .pv (.int .i64 u), .pv (.int .i64 g0), .pv (.int .i64 g1), .pv (.int .i64 g2), .pv (.int .i64 g3), .pv (.int .i64 g4), .pv (.int .i64 g5)]] =>
    some (.tuple [.i (lenR c u [g0, g1, g2, g3, g4, g5]), .i (chkM c u [g0, g1, g2, g3, g4, g5])])
  | _ => none
theorem meets23 (W0 : World) : OkAt W0 23 F23 := meets_fn env (tok_cons (meets26 W0) (tok_cons (meets38 W0) tok_nil)) mixed Tryd.func23 (by kernel_rfl) (by kernel_rfl) fun args r h => by
  unfold F23 at h
  split at h
  · cases h; exact x23 _ _ _ _ _ _ _ _
  · cases h
noncomputable def T24 : FuncId → Option Pm.Spec := tab [(26, .pure false F26), (44, .pure false F44)]
theorem T24_eq (g : Nat) : T24 g = tab [(26, .pure false F26), (44, .pure false F44)] g := rfl
/-- A row of numbers, or none with the error. -/
def rowE (c u : Int) (gs : List Int) (l : List Int) : SV := if chkM c u gs = 0 then .pv (.slice 1 (rowI l)) else .pv .nilSlice
theorem x24 (c u g0 g1 g2 g3 g4 g5 : Int) : XFn Y T24 Tryd.f24 [.agg (M8 c u g0 g1 g2 g3 g4 g5)] [] (Is (.tuple [rowE c u [g0, g1, g2, g3, g4, g5] (grpL c u [g0, g1, g2, g3, g4, g5]), .i (chkM c u [g0, g1, g2, g3, g4, g5])])) := by
  unfold XFn Tryd.f24
  rw [enter_1 _ (by decide)]
  by_cases h0 : chkM c u [g0, g1, g2, g3, g4, g5] = 0
  · have hok := okM_chk.2 h0
    simp [T24_eq, F26, F44, h0, hok, rowE]
  · simp [T24_eq, F26, h0, rowE]
def F24 : List SV → Option SV
  | [.agg [.pv (.int .i64 c), .pv (.int .i64 u), .pv (.int .i64 g0), .pv (.int .i64 g1), .pv (.int .i64 g2), .pv (.int .i64 g3), .pv (.int .i64 g4), .pv (.int .i64 g5)]] =>
    some (.tuple [rowE c u [g0, g1, g2, g3, g4, g5] (grpL c u [g0, g1, g2, g3, g4, g5]), .i (chkM c u [g0, g1, g2, g3, g4, g5])])
  | _ => none
theorem meets24 (W0 : World) : OkAt W0 24 F24 := meets_fn env (tok_cons (meets26 W0) (tok_cons (meets44 W0) tok_nil)) mixed Tryd.func24 (by kernel_rfl) (by kernel_rfl) fun args r h => by
  unfold F24 at h
  split at h
  · cases h; exact x24 _ _ _ _ _ _ _ _
  · cases h
noncomputable def T25 : FuncId → Option Pm.Spec := tab [(26, .pure false F26), (45, .pure false F29)]
theorem T25_eq (g : Nat) : T25 g = tab [(26, .pure false F26), (45, .pure false F29)] g := rfl
theorem x25 (c u g0 g1 g2 g3 g4 g5 : Int) : XFn Y T25 Tryd.f25 [.agg (M8 c u g0 g1 g2 g3 g4 g5)] [] (Is (.tuple [rowE c u [g0, g1, g2, g3, g4, g5] (beatsZ c u [g0, g1, g2, g3, g4, g5]), .i (chkM c u [g0, g1, g2, g3, g4, g5])])) := by
  unfold XFn Tryd.f25
  rw [enter_1 _ (by decide)]
  by_cases h0 : chkM c u [g0, g1, g2, g3, g4, g5] = 0
  · have hok := okM_chk.2 h0
    simp [T25_eq, F26, F29, h0, hok, rowE]
  · simp [T25_eq, F26, h0, rowE]
def F25 : List SV → Option SV
  | [.agg [.pv (.int .i64 c), .pv (.int .i64 u), .pv (.int .i64 g0), .pv (.int .i64 g1), .pv (.int .i64 g2), .pv (.int .i64 g3), .pv (.int .i64 g4), .pv (.int .i64 g5)]] =>
    some (.tuple [rowE c u [g0, g1, g2, g3, g4, g5] (beatsZ c u [g0, g1, g2, g3, g4, g5]), .i (chkM c u [g0, g1, g2, g3, g4, g5])])
  | _ => none
theorem meets25 (W0 : World) : OkAt W0 25 F25 := meets_fn env (tok_cons (meets26 W0) (tok_cons (meets45 W0) tok_nil)) mixed Tryd.func25 (by kernel_rfl) (by kernel_rfl) fun args r h => by
  unfold F25 at h
  split at h
  · cases h; exact x25 _ _ _ _ _ _ _ _
  · cases h
/-- Two equal rows compared. -/
theorem loop27 {F : List Fr} {P : SV × List Blk → Prop} {rs : List ResultVar} {H : List Blk} (l : List Int) (hl : l.length ≤ 100000) : ∀ (r m : Nat), m + r = l.length →
    X Y T0 rs F (.exit 0) ⟨mk 26 .J [], H⟩ P →
    X Y T0 rs F (.loop (loopN Tryd.f27 0)) ⟨mk 26 .J [(0, .pv (.slice 1 (rowI l))), (1, .pv (.slice 1 (rowI l))), (5, .i (m : Nat))], H⟩ P := by
  intro r
  induction r with
  | zero =>
    intro m e hx
    have q2 : ¬ (m : Int) < (l.length : Int) := by omega
    apply X_loop_of
    · simp only [loopN, Tryd.f27, loopsOf, List.nil_append, List.append_nil, List.cons_append, List.getD_cons_succ, List.getD_cons_zero]; rfl
    simp [-Int.not_lt, -Int.not_le, rowI_len, q2]
    refine X_keep hx ?_
    simp
  | succ r ih =>
    intro m e hx
    have hml : m < l.length := by omega
    have q2 : (m : Int) < (l.length : Int) := by omega
    have q3 := next_i (m := m) (by omega)
    have r1 := row_at hml
    apply X_loop_of
    · simp only [loopN, Tryd.f27, loopsOf, List.nil_append, List.append_nil, List.cons_append, List.getD_cons_succ, List.getD_cons_zero]; rfl
    simp [-Int.natCast_add, -Int.not_lt, -Int.not_le, q2, q3, r1, rowI_len, -getElem?_pos]
    refine X_keep (ih (m + 1) (by omega) hx) ?_
    simp
theorem x27 (l : List Int) (hl : l.length ≤ 100000) : XFn Y T0 Tryd.f27 [.pv (.slice 1 (rowI l)), .pv (.slice 1 (rowI l))] [] (Is (.bool true)) := by
  unfold XFn Tryd.f27
  rw [enter_2 _ (by decide)]
  simp [-Int.not_lt, -Int.not_le, rowI_len]
  refine X_keep (loop27 l hl l.length 0 (by omega) ?_) ?_
  · simp
  · simp
def F27 : List SV → Option SV
  | [.pv (.slice 1 es), .pv (.slice 1 es')] => match unrow es, unrow es' with
    | some l, some k => if l = k ∧ l.length ≤ 100000 then some (.bool true) else none
    | _, _ => none
  | _ => none
theorem meets27 (W0 : World) : OkAt W0 27 F27 := meets_fn env tok_nil mixed Tryd.func27 (by kernel_rfl) (by kernel_rfl) fun args r h => by
  unfold F27 at h
  split at h
  · split at h
    · rename_i l k h1 h2
      split at h
      · rename_i hl
        cases h
        obtain ⟨rfl, hl⟩ := hl
        rw [unrow_eq h1, unrow_eq h2]
        exact x27 l hl
      · cases h
    · cases h
  · cases h
theorem F27_same (l : List Int) (hl : l.length ≤ 100000) : F27 [.pv (.slice 1 (rowI l)), .pv (.slice 1 (rowI l))] = some (.bool true) := by
  simp [F27, unrow_row, hl]
noncomputable def T7 : FuncId → Option Pm.Spec := tab [(13, .pure false F13), (17, .pure false F17), (23, .pure false F23), (24, .pure false F24), (25, .pure false F25), (26, .pure false F26), (20, .pure false F20), (28, .pure false F28), (27, .pure false F27), (29, .pure false F29)]
theorem T7_eq (g : Nat) : T7 g = tab [(13, .pure false F13), (17, .pure false F17), (23, .pure false F23), (24, .pure false F24), (25, .pure false F25), (26, .pure false F26), (20, .pure false F20), (28, .pure false F28), (27, .pure false F27), (29, .pure false F29)] g := rfl
theorem tok7 (W0 : World) : TOk Tryd.prog W0 T7 := tok_cons (meets13 W0) (tok_cons (meets17 W0) (tok_cons (meets23 W0) (tok_cons (meets24 W0) (tok_cons (meets25 W0) (tok_cons (meets26 W0) (tok_cons (meets20 W0) (tok_cons (meets28 W0) (tok_cons (meets27 W0) (tok_cons (meets29 W0) tok_nil)))))))))
theorem x7 (c u g0 g1 g2 g3 g4 g5 : Int) : XFn Y T7 Tryd.f7 [.agg (M8 c u g0 g1 g2 g3 g4 g5)] [] (Is (.bool true)) := by
  unfold XFn Tryd.f7
  rw [enter_1 _ (by decide)]
  by_cases h0 : chkM c u [g0, g1, g2, g3, g4, g5] = 0
  · have hok := okM_chk.2 h0
    obtain ⟨f1, f2, f3, f4⟩ := grpL_facts hok rfl
    obtain ⟨b1, b2, b3⟩ := beatsZ_facts hok rfl
    have k1 := F27_same (grpL c u [g0, g1, g2, g3, g4, g5]) (by omega)
    have k2 := F27_same (beatsZ c u [g0, g1, g2, g3, g4, g5]) (by omega)
    simp [T7_eq, F13, F17, F23, F24, F25, F26, F20, F28, F29, h0, hok, hok.1, hok.2.1, lenR, rowE, k1, k2]
  · have w0 : IntKind.i64.wrap 0 = 0 := rfl
    simp [T7_eq, F13, F17, F23, F24, F25, F26, h0, lenR, rowE, w0]
end Go.Proofs.YtooajpojikkkdaaDoor
