/- Time signatures: the library's functions on slices that the program's groups and levels call, by the machine. -/
import Derived.Test.YtooajpojikkkdaaDoorMetreD

set_option linter.unusedSimpArgs false
set_option linter.unusedVariables false
set_option maxRecDepth 1000000
set_option maxHeartbeats 400000
namespace Go.Proofs.YtooajpojikkkdaaDoor
open Go Go.Pm Go.RowKit
def minL (l : List Int) : Int := (l.drop 1).foldl (fun a b => if b < a then b else a) (l.getD 0 0)
def maxL (l : List Int) : Int := (l.drop 1).foldl (fun a b => if b > a then b else a) (l.getD 0 0)
theorem drop_row {l : List Int} {m : Nat} (h : m < l.length) : l.drop m = l.getD m 0 :: l.drop (m + 1) := by rw [List.drop_eq_getElem_cons h]; simp [h]
theorem next_i {m : Nat} (h : m ≤ 100000) : IntKind.i64.wrap ((m : Int) + 1) = ((m + 1 : Nat) : Int) := by rw [show ((m : Int) + 1) = ((m + 1 : Nat) : Int) by omega]; exact wrap64 (by omega) (by omega)
theorem loop59 {F : List Fr} {P : SV × List Blk → Prop} {rs : List ResultVar} {H : List Blk} (l : List Int) (hl : l.length ≤ 100000) : ∀ (r m : Nat) (x : Int), m + r = l.length →
    X Y T0 rs F (.exit 0) ⟨mk 25 .J [(3, .i ((l.drop m).foldl (fun a b => if b < a then b else a) x))], H⟩ P →
    X Y T0 rs F (.loop (loopN Tryd.f59 0)) ⟨mk 25 .J [(0, .pv (.slice 1 (rowI l))), (3, .i x), (4, .i (m : Nat))], H⟩ P := by
  intro r
  induction r with
  | zero =>
    intro m x e hx
    have q2 : ¬ (m : Int) < (l.length : Int) := by omega
    rw [List.drop_eq_nil_of_le (by omega)] at hx
    apply X_loop_of
    · simp only [loopN, Tryd.f59, loopsOf, List.nil_append, List.append_nil, List.cons_append, List.getD_cons_succ, List.getD_cons_zero]; rfl
    simp [-Int.not_lt, -Int.not_le, rowI_len, q2]
    refine X_keep hx ?_
    simp
  | succ r ih =>
    intro m x e hx
    have hml : m < l.length := by omega
    have q2 : (m : Int) < (l.length : Int) := by omega
    have q3 := next_i (m := m) (by omega)
    have r1 := row_at hml
    rw [drop_row hml] at hx
    generalize l.getD m 0 = g at *
    apply X_loop_of
    · simp only [loopN, Tryd.f59, loopsOf, List.nil_append, List.append_nil, List.cons_append, List.getD_cons_succ, List.getD_cons_zero]; rfl
    simp [-Int.natCast_add, -Int.not_lt, -Int.not_le, q2, q3, r1, rowI_len, -getElem?_pos]
    refine X_keep (ih (m + 1) _ (by omega) hx) ?_
    simp
theorem x59 (l : List Int) (h1 : 1 ≤ l.length) (hl : l.length ≤ 100000) : XFn Y T0 Tryd.f59 [.pv (.slice 1 (rowI l))] [] (Is (.i (minL l))) := by
  unfold XFn Tryd.f59
  rw [enter_1 _ (by decide)]
  have r2 := row_at (l := l) (m := 0) (by omega)
  have q : ¬ (l.length : Int) < 1 := by omega
  simp [-Int.not_lt, -Int.not_le, rowI_len, q, r2, -getElem?_pos]
  refine X_keep (loop59 l hl (l.length - 1) 1 (l.getD 0 0) (by omega) ?_) ?_
  · simp [minL]
  · simp
theorem loop60 {F : List Fr} {P : SV × List Blk → Prop} {rs : List ResultVar} {H : List Blk} (l : List Int) (hl : l.length ≤ 100000) : ∀ (r m : Nat) (x : Int), m + r = l.length →
    X Y T0 rs F (.exit 0) ⟨mk 25 .J [(3, .i ((l.drop m).foldl (fun a b => if b > a then b else a) x))], H⟩ P →
    X Y T0 rs F (.loop (loopN Tryd.f60 0)) ⟨mk 25 .J [(0, .pv (.slice 1 (rowI l))), (3, .i x), (4, .i (m : Nat))], H⟩ P := by
  intro r
  induction r with
  | zero =>
    intro m x e hx
    have q2 : ¬ (m : Int) < (l.length : Int) := by omega
    rw [List.drop_eq_nil_of_le (by omega)] at hx
    apply X_loop_of
    · simp only [loopN, Tryd.f60, loopsOf, List.nil_append, List.append_nil, List.cons_append, List.getD_cons_succ, List.getD_cons_zero]; rfl
    simp [-Int.not_lt, -Int.not_le, rowI_len, q2]
    refine X_keep hx ?_
    simp
  | succ r ih =>
    intro m x e hx
    have hml : m < l.length := by omega
    have q2 : (m : Int) < (l.length : Int) := by omega
    have q3 := next_i (m := m) (by omega)
    have r1 := row_at hml
    rw [drop_row hml] at hx
    generalize l.getD m 0 = g at *
    apply X_loop_of
    · simp only [loopN, Tryd.f60, loopsOf, List.nil_append, List.append_nil, List.cons_append, List.getD_cons_succ, List.getD_cons_zero]; rfl
    simp [-Int.natCast_add, -Int.not_lt, -Int.not_le, q2, q3, r1, rowI_len, -getElem?_pos]
    refine X_keep (ih (m + 1) _ (by omega) hx) ?_
    simp
theorem x60 (l : List Int) (h1 : 1 ≤ l.length) (hl : l.length ≤ 100000) : XFn Y T0 Tryd.f60 [.pv (.slice 1 (rowI l))] [] (Is (.i (maxL l))) := by
  unfold XFn Tryd.f60
  rw [enter_1 _ (by decide)]
  have r2 := row_at (l := l) (m := 0) (by omega)
  have q : ¬ (l.length : Int) < 1 := by omega
  simp [-Int.not_lt, -Int.not_le, rowI_len, q, r2, -getElem?_pos]
  refine X_keep (loop60 l hl (l.length - 1) 1 (l.getD 0 0) (by omega) ?_) ?_
  · simp [maxL]
  · simp
def idxFrom (v : Int) : List Int → Int → Int
  | [], _ => -1
  | x :: r, k => if v = x then k else idxFrom v r (k + 1)
theorem idxFrom_mem (v : Int) : ∀ (l : List Int) (k : Int), 0 ≤ k → (0 ≤ idxFrom v l k ↔ v ∈ l)
  | [], k, h => by simp [idxFrom]
  | x :: r, k, h => by
    unfold idxFrom
    split
    · rename_i e; simp [e, h]
    · rename_i e; rw [idxFrom_mem v r (k + 1) (by omega)]; simp [e]
theorem loop75 {F : List Fr} {P : SV × List Blk → Prop} {H : List Blk} (v : Int) (l : List Int) (hl : l.length ≤ 100000) : ∀ (r m : Nat), m + r = l.length →
    (idxFrom v (l.drop m) m = -1 → X Y T0 [.tmp 4] F (.exit 0) ⟨mk 19 .J [], H⟩ P) → (idxFrom v (l.drop m) m ≠ -1 → P (.i (idxFrom v (l.drop m) m), H)) →
    X Y T0 [.tmp 4] F (.loop (loopN Tryd.f75 0)) ⟨mk 19 .J [(0, .pv (.slice 1 (rowI l))), (1, .i v), (7, .i (l.length : Nat)), (8, .i (m : Nat))], H⟩ P := by
  intro r
  induction r with
  | zero =>
    intro m e hx hp
    have q2 : ¬ (m : Int) < (l.length : Int) := by omega
    rw [List.drop_eq_nil_of_le (by omega)] at hx
    apply X_loop_of
    · simp only [loopN, Tryd.f75, loopsOf, List.nil_append, List.append_nil, List.cons_append, List.getD_cons_succ, List.getD_cons_zero]; rfl
    simp [-Int.not_lt, -Int.not_le, rowI_len, q2]
    refine X_keep (hx rfl) ?_
    simp
  | succ r ih =>
    intro m e hx hp
    have hml : m < l.length := by omega
    have q2 : (m : Int) < (l.length : Int) := by omega
    have q3 := next_i (m := m) (by omega)
    have r1 := row_at hml
    rw [drop_row hml, idxFrom] at hx hp
    generalize l.getD m 0 = g at *
    apply X_loop_of
    · simp only [loopN, Tryd.f75, loopsOf, List.nil_append, List.append_nil, List.cons_append, List.getD_cons_succ, List.getD_cons_zero]; rfl
    simp [-Int.natCast_add, -Int.not_lt, -Int.not_le, q2, q3, r1, rowI_len, -getElem?_pos]
    refine ⟨fun h => ?_, fun h => ?_⟩
    · rw [if_pos h] at hp; exact hp (by omega)
    · rw [if_neg h, show (m : Int) + 1 = ((m + 1 : Nat) : Int) by omega] at hx hp
      refine X_keep (ih (m + 1) (by omega) hx hp) ?_
      simp
theorem x75 (v : Int) (l : List Int) (hl : l.length ≤ 100000) : XFn Y T0 Tryd.f75 [.pv (.slice 1 (rowI l)), .i v] [] (Is (.i (idxFrom v l 0))) := by
  unfold XFn Tryd.f75
  rw [enter_2 _ (by decide)]
  simp [-Int.not_lt, -Int.not_le, rowI_len]
  refine X_keep (loop75 v l hl l.length 0 (by omega) (fun h => ?_) (fun h => ?_)) ?_
  · rw [List.drop_zero] at h
    simp [show idxFrom v l 0 = -1 from h]
  · simp
  · simp
def Frow (G : List Int → Int) : List SV → Option SV
  | [.pv (.slice 1 es)] => match unrow es with
    | some l => if 1 ≤ l.length ∧ l.length ≤ 100000 then some (.i (G l)) else none
    | none => none
  | _ => none
theorem meets59 (W0 : World) : OkAt W0 59 (Frow minL) := meets_fn env tok_nil mixed Tryd.func59 (by kernel_rfl) (by kernel_rfl) fun args r h => by
  unfold Frow at h
  split at h
  · split at h
    · rename_i l hu
      split at h
      · cases h; rename_i hl; rw [unrow_eq hu]; exact x59 l hl.1 hl.2
      · cases h
    · cases h
  · cases h
theorem meets60 (W0 : World) : OkAt W0 60 (Frow maxL) := meets_fn env tok_nil mixed Tryd.func60 (by kernel_rfl) (by kernel_rfl) fun args r h => by
  unfold Frow at h
  split at h
  · split at h
    · rename_i l hu
      split at h
      · cases h; rename_i hl; rw [unrow_eq hu]; exact x60 l hl.1 hl.2
      · cases h
    · cases h
  · cases h
def F75 : List SV → Option SV
  | [.pv (.slice 1 es), .pv (.int .i64 v)] => match unrow es with
    | some l => if l.length ≤ 100000 then some (.i (idxFrom v l 0)) else none
    | none => none
  | _ => none
theorem meets75 (W0 : World) : OkAt W0 75 F75 := meets_fn env tok_nil mixed Tryd.func75 (by kernel_rfl) (by kernel_rfl) fun args r h => by
  unfold F75 at h
  split at h
  · split at h
    · rename_i l hu
      split at h
      · cases h; rename_i hl; rw [unrow_eq hu]; exact x75 _ l hl
      · cases h
    · cases h
  · cases h
noncomputable def T61 : FuncId → Option Pm.Spec := tab [(75, .pure false F75)]
theorem T61_eq (g : Nat) : T61 g = tab [(75, .pure false F75)] g := rfl
def F61 : List SV → Option SV
  | [.pv (.slice 1 es), .pv (.int .i64 v)] => match unrow es with
    | some l => if l.length ≤ 100000 then some (.bool (decide (v ∈ l))) else none
    | none => none
  | _ => none
theorem x61 (v : Int) (l : List Int) (hl : l.length ≤ 100000) : XFn Y T61 Tryd.f61 [.pv (.slice 1 (rowI l)), .i v] [] (Is (.bool (decide (v ∈ l)))) := by
  unfold XFn Tryd.f61
  rw [enter_2 _ (by decide)]
  simp [-Int.not_lt, -Int.not_le, T61_eq, F75, unrow_row, hl]
  exact idxFrom_mem v l 0 (Int.le_refl 0)
theorem meets61 (W0 : World) : OkAt W0 61 F61 := meets_fn env (tok_cons (meets75 W0) tok_nil) mixed Tryd.func61 (by kernel_rfl) (by kernel_rfl) fun args r h => by
  unfold F61 at h
  split at h
  · split at h
    · rename_i l hu
      split at h
      · cases h; rename_i hl; rw [unrow_eq hu]; exact x61 _ l hl
      · cases h
    · cases h
  · cases h
end Go.Proofs.YtooajpojikkkdaaDoor
