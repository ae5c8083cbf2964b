/- A row that is in order is sorted: slices.SortFunc changes nothing; spelled, by the machine. -/
import Derived.Test.YtmmpjnjdddaldaaGreatDoorIntC
set_option linter.unusedSimpArgs false
set_option linter.unusedVariables false
set_option maxRecDepth 1000000
set_option maxHeartbeats 400000
namespace Go.Proofs.YtmmpjnjdddaldaaGreatDoor
open Go Go.Pm Go.RowKit
theorem next_i {m : Nat} (h : m ≤ 100000) : IntKind.i64.wrap ((m : Int) + 1) = ((m + 1 : Nat) : Int) := by rw [show ((m : Int) + 1) = ((m + 1 : Nat) : Int) by omega]; exact wrap64 (by omega) (by omega)
/-- The order of positions. -/
noncomputable def T56 : FuncId → Option Pm.Spec := tab [(45, .pure false F38)]
theorem T56_eq (g : Nat) : T56 g = tab [(45, .pure false F38)] g := rfl
theorem x56 (s a o s' a' o' : Int) (h : inR s a o) (h' : inR s' a' o') : XFn Y T56 Tryz.f72 [P3 s a o, P3 s' a' o'] [] (Is (.i (posZ s o - posZ s' o'))) := by
  unfold XFn Tryz.f72
  rw [enter_2 _ (by decide)]
  have w : IntKind.i64.wrap (posZ s o - posZ s' o') = posZ s o - posZ s' o' := by
    obtain ⟨h1, h2, h3⟩ := h
    obtain ⟨k1, k2, k3⟩ := h'
    unfold posZ
    exact wrap64 (by omega) (by omega)
  simp [T56_eq, F38, h, h', w]
def F56 : List SV → Option SV
  | [.agg [.pv (.int .i64 s), .pv (.int .i64 a), .pv (.int .i64 o)], .agg [.pv (.int .i64 s'), .pv (.int .i64 a'), .pv (.int .i64 o')]] => if inR s a o ∧ inR s' a' o' then some (.i (posZ s o - posZ s' o')) else none
  | _ => none
theorem meets56 (W0 : World) : OkAt W0 72 F56 := meets_fn env (tok_cons (meets38 W0) tok_nil) mixed Tryz.func72 (by kernel_rfl) (by kernel_rfl) fun args r h => by
  unfold F56 at h
  split at h
  · split at h
    · cases h; rename_i hc; exact x56 _ _ _ _ _ _ hc.1 hc.2
    · cases h
  · cases h
/-- Rows of pitches. -/
abbrev P := Int × Int × Int
def rowP (l : List P) : List (List PV) := l.map fun p => V3 p.1 p.2.1 p.2.2
theorem rowP_len (l : List P) : (rowP l).length = l.length := by simp [rowP]
theorem rowP_at {l : List P} {m : Nat} (hm : m < l.length) : (rowP l)[m]? = some (V3 (l.getD m (0, 0, 0)).1 (l.getD m (0, 0, 0)).2.1 (l.getD m (0, 0, 0)).2.2) := by
  simp [rowP, hm]
def unP : List (List PV) → Option (List P)
  | [] => some []
  | [.int .i64 a, .int .i64 b, .int .i64 c] :: r => (unP r).map ((a, b, c) :: ·)
  | _ => none
theorem unP_eq : ∀ {es : List (List PV)} {l : List P}, unP es = some l → es = rowP l
  | [], l, h => by simp [unP] at h; subst h; rfl
  | e :: r, l, h => by
    unfold unP at h
    split at h
    · rename_i h0; cases h0
    · rename_i a b c r' h0
      cases h0
      cases hr : unP r with
      | none => simp [hr] at h
      | some l' => simp [hr] at h; subst h; rw [unP_eq hr]; rfl
    · cases h
theorem unP_row : ∀ (l : List P), unP (rowP l) = some l
  | [] => rfl
  | (a, b, c) :: r => by
    show (unP (rowP r)).map ((a, b, c) :: ·) = _
    rw [unP_row r]; rfl
def okP (l : List P) : Bool := l.all fun p => decide (inR p.1 p.2.1 p.2.2)
def upP : List P → Bool
  | p :: q :: r => decide (posZ p.1 p.2.2 ≤ posZ q.1 q.2.2) && upP (q :: r)
  | _ => true
theorem upP_at : ∀ {l : List P} {m : Nat}, upP l = true → m + 1 < l.length → posZ (l.getD m (0, 0, 0)).1 (l.getD m (0, 0, 0)).2.2 ≤ posZ (l.getD (m + 1) (0, 0, 0)).1 (l.getD (m + 1) (0, 0, 0)).2.2
  | p :: q :: r, 0, h, _ => by
    simp only [upP, Bool.and_eq_true, decide_eq_true_eq] at h
    simpa using h.1
  | p :: q :: r, m + 1, h, hm => by
    simp only [upP, Bool.and_eq_true] at h
    have := upP_at (l := q :: r) (m := m) h.2 (by simp at hm ⊢; omega)
    simpa using this
  | [p], m, _, hm => by simp at hm
  | [], m, _, hm => by simp at hm
noncomputable def T73 : FuncId → Option Pm.Spec := tab [(72, .pure false F56)]
theorem T73_eq (g : Nat) : T73 g = tab [(72, .pure false F56)] g := rfl
theorem inner73 {F : List Fr} {Q : SV × List Blk → Prop} {rs : List ResultVar} {H : List Blk} (l : List P) (hl : l.length ≤ 12) (ho : okP l = true) (hu : upP l = true) (m : Nat) (hml : m + 1 < l.length)
    (hx : X Y T73 rs F (.exit 2) ⟨mk 53 .J [(0, .pv (.slice 3 (rowP l))), (1, .i 0), (2, .i (l.length : Nat)), (3, .pv (.fn 72)), (8, .i ((m + 1 : Nat) : Int))], H⟩ Q) :
    X Y T73 rs F (.loop (loopN Tryz.f101 1)) ⟨mk 53 .J [(0, .pv (.slice 3 (rowP l))), (1, .i 0), (2, .i (l.length : Nat)), (3, .pv (.fn 72)), (8, .i ((m + 1 : Nat) : Int)), (9, .i ((m + 1 : Nat) : Int))], H⟩ Q := by
  have q4 : IntKind.i64.wrap (((m + 1 : Nat) : Int) - 1) = (m : Int) := by rw [show ((m + 1 : Nat) : Int) - 1 = (m : Int) by omega]; exact wrap64 (by omega) (by omega)
  have q5 : (0 : Int) < ((m + 1 : Nat) : Int) := by omega
  have r1 := rowP_at hml
  have r2 := rowP_at (l := l) (m := m) (by omega)
  have u1 := upP_at hu hml
  have o1 : inR (l.getD (m + 1) (0, 0, 0)).1 (l.getD (m + 1) (0, 0, 0)).2.1 (l.getD (m + 1) (0, 0, 0)).2.2 := by
    have := List.all_eq_true.1 ho (l.getD (m + 1) (0, 0, 0)) (by simp [hml])
    simpa using this
  have o2 : inR (l.getD m (0, 0, 0)).1 (l.getD m (0, 0, 0)).2.1 (l.getD m (0, 0, 0)).2.2 := by
    have := List.all_eq_true.1 ho (l.getD m (0, 0, 0)) (by simp [show m < l.length by omega])
    simpa using this
  generalize l.getD (m + 1) (0, 0, 0) = p at *
  generalize l.getD m (0, 0, 0) = p' at *
  obtain ⟨s, a, o⟩ := p
  obtain ⟨s', a', o'⟩ := p'
  simp only [] at o1 o2 u1 r1 r2
  have hF : F56 [P3 s a o, P3 s' a' o'] = some (.i (posZ s o - posZ s' o')) := by
    simp only [F56]; rw [if_pos ⟨o1, o2⟩]
  have n1 : ¬ posZ s o - posZ s' o' < 0 := by omega
  have gz : ∀ {α : Type} (b : α) (l : List α), (b :: l)[0]? = some b := fun _ _ => rfl
  apply X_loop_of
  · simp only [loopN, Tryz.f101, loopsOf, List.nil_append, List.append_nil, List.cons_append, List.getD_cons_succ, List.getD_cons_zero]; rfl
  simp [-Int.natCast_add, -Int.not_lt, -Int.not_le, -getElem?_pos, q4, q5, r1, r2, rowP_len, T73_eq, hF, n1, gz]
  refine X_keep hx ?_
  simp [-Int.natCast_add]
theorem loop73 {F : List Fr} {Q : SV × List Blk → Prop} {rs : List ResultVar} {H : List Blk} (l : List P) (hl : l.length ≤ 12) (ho : okP l = true) (hu : upP l = true) : ∀ (r m : Nat), m + 1 + r = l.length →
    X Y T73 rs F (.exit 0) ⟨mk 53 .J [], H⟩ Q →
    X Y T73 rs F (.loop (loopN Tryz.f101 0)) ⟨mk 53 .J [(0, .pv (.slice 3 (rowP l))), (1, .i 0), (2, .i (l.length : Nat)), (3, .pv (.fn 72)), (8, .i ((m + 1 : Nat) : Int))], H⟩ Q := by
  intro r
  induction r with
  | zero =>
    intro m e hx
    have q2 : ¬ ((m + 1 : Nat) : Int) < (l.length : Int) := by omega
    apply X_loop_of
    · simp only [loopN, Tryz.f101, loopsOf, List.nil_append, List.append_nil, List.cons_append, List.getD_cons_succ, List.getD_cons_zero]; rfl
    simp [-Int.natCast_add, -Int.not_lt, -Int.not_le, q2]
    refine X_keep hx ?_
    simp
  | succ r ih =>
    intro m e hx
    have hml : m + 1 < l.length := by omega
    have q2 : ((m + 1 : Nat) : Int) < (l.length : Int) := by omega
    have q3 := next_i (m := m + 1) (by omega)
    apply X_loop_of
    · simp only [loopN, Tryz.f101, loopsOf, List.nil_append, List.append_nil, List.cons_append, List.getD_cons_succ, List.getD_cons_zero]; rfl
    simp [-Int.natCast_add, -Int.not_lt, -Int.not_le, q2]
    refine X_keep (inner73 l hl ho hu m hml ?_) ?_
    · simp [-Int.natCast_add, q3]
      refine X_keep (ih (m + 1) (by omega) hx) ?_
      simp [-Int.natCast_add]
    · simp [-Int.natCast_add]
theorem x73 (l : List P) (h1 : 1 ≤ l.length) (hl : l.length ≤ 12) (ho : okP l = true) (hu : upP l = true) : XFn Y T73 Tryz.f101 [.pv (.slice 3 (rowP l)), .i 0, .i (l.length : Nat), .pv (.fn 72)] [] (Is (.tuple [])) := by
  unfold XFn Tryz.f101
  rw [enter_4 _ (by decide)]
  have w1 : IntKind.i64.wrap 1 = 1 := rfl
  simp [-Int.not_lt, -Int.not_le, w1]
  refine X_keep (loop73 l hl ho hu (l.length - 1) 0 (by omega) ?_) ?_
  · simp
  · simp
end Go.Proofs.YtmmpjnjdddaldaaGreatDoor
