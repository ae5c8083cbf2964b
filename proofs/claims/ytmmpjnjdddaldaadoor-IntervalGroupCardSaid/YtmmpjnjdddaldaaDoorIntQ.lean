/- The reference's pitches with a number, by the machine. -/
import Derived.Test.YtmmpjnjdddaldaaDoorIntP
set_option linter.unusedSimpArgs false
set_option linter.unusedVariables false
set_option maxRecDepth 1000000
set_option maxHeartbeats 400000
namespace Go.Proofs.YtmmpjnjdddaldaaDoor
open Go Go.Pm Go.RowKit
noncomputable def T17 : FuncId → Option Pm.Spec := tab [(44, .pure false F44)]
theorem T17_eq (g : Nat) : T17 g = tab [(44, .pure false F44)] g := rfl
/-- One octave of All, from a step on; all octaves, from one on. -/
def altZ (n oc s : Int) : Int := n - 12 * (oc + 1) - semi s
def rowA (n oc : Int) : Nat → List (List PV)
  | 0 => []
  | r + 1 => (if -2 ≤ altZ n oc (6 - r) ∧ altZ n oc (6 - r) ≤ 2 ∧ 0 ≤ n ∧ n ≤ 127 then [V3 (6 - r) (altZ n oc (6 - r)) oc] else []) ++ rowA n oc r
def rowsA (n : Int) : Nat → List (List PV)
  | 0 => []
  | r + 1 => rowA n (9 - r) 7 ++ rowsA n r
theorem rowA_len (n oc : Int) : ∀ r, (rowA n oc r).length ≤ r
  | 0 => by simp [rowA]
  | r + 1 => by
    have := rowA_len n oc r
    simp only [rowA, List.length_append]
    split <;> simp <;> omega
theorem loop17i {rs : List ResultVar} {F : List Fr} {P : SV × List Blk → Prop} (n oc : Int) (hn : -1000 ≤ n ∧ n ≤ 1000) (hoc : -1 ≤ oc ∧ oc ≤ 9) : ∀ (r : Nat) (H : List Blk) (es : List (List PV)) (out : SV), r ≤ 7 → es.length + r ≤ 1000 → Pm.Acc 23 3 H es out →
    (∀ H' out', Pm.Acc 23 3 H' (es ++ rowA n oc r) out' → X Y T17 rs F (.exit 2) ⟨mk 45 .J [(0, .i n), (3, out'), (4, .i oc)], H'⟩ P) →
    X Y T17 rs F (.loop (loopN Tryd.f17 1)) ⟨mk 45 .J [(0, .i n), (3, out), (4, .i oc), (5, .i (7 - r))], H⟩ P := by
  intro r
  induction r with
  | zero =>
    intro H es out h1 h2 hA hx
    apply X_loop_of
    · simp only [loopN, Tryd.f17, loopsOf, List.nil_append, List.append_nil, List.cons_append, List.getD_cons_succ, List.getD_cons_zero]; rfl
    simp
    refine X_keep (hx H out (by simpa [rowA] using hA)) ?_
    simp
  | succ r ih =>
    intro H es out h1 h2 hA hx
    have q1 : (7 : Int) - ((r + 1 : Nat) : Int) = 6 - r := by omega
    have q2 : (6 : Int) - r ≤ 6 := by omega
    have q3 : IntKind.i64.wrap (6 - (r : Int) + 1) = 7 - r := by rw [show (6 : Int) - r + 1 = 7 - r by omega]; exact wrap64 (by omega) (by omega)
    have hs := semi_range (s := 6 - (r : Int)) ⟨by omega, by omega⟩
    have hF : F44 [.i (6 - (r : Int))] = some (.i (semi (6 - r))) := by simp only [F44]; rw [if_pos ⟨by omega, by omega⟩]
    have w1 : IntKind.i64.wrap (oc + 1) = oc + 1 := wrap64 (by omega) (by omega)
    have w2 : IntKind.i64.wrap (12 * (oc + 1)) = 12 * (oc + 1) := wrap64 (by omega) (by omega)
    have w3 : IntKind.i64.wrap (n - 12 * (oc + 1)) = n - 12 * (oc + 1) := wrap64 (by omega) (by omega)
    have w4 : IntKind.i64.wrap (n - 12 * (oc + 1) - semi (6 - r)) = altZ n oc (6 - r) := wrap64 (by omega) (by omega)
    rw [q1]
    apply X_loop_of
    · simp only [loopN, Tryd.f17, loopsOf, List.nil_append, List.append_nil, List.cons_append, List.getD_cons_succ, List.getD_cons_zero]; rfl
    rw [show (6 : Int) - ((r : Nat) : Int) = 6 - (r : Int) from rfl] at *
    generalize hal : altZ n oc (6 - (r : Int)) = al at *
    obtain ⟨out1, H1, a1, a2⟩ := app23 (V3 (6 - r) al oc) (by omega) hA
    simp [-aAppend, -Int.not_lt, -Int.not_le, T17_eq, hF, q2, q3, w1, w2, w3, w4, a1, hA.live, a2.live]
    have no : ¬ (-2 ≤ al ∧ al ≤ 2 ∧ 0 ≤ n ∧ n ≤ 127) → ∀ (l : List (Nat × SV)) , Keeps .J l [(0, .i n), (3, out), (4, .i oc), (5, .i (7 - r))] → X Y T17 rs F (.loop (loopN Tryd.f17 1)) ⟨mk 45 .J l, H⟩ P := fun hc l hl => by
      refine X_keep (ih H _ out (by omega) (by omega) hA (fun H' out' hA' => hx H' out' (by simpa [rowA, hal, hc] using hA'))) hl
    refine ⟨fun c1 => ⟨fun c2 => ⟨fun c3 => ⟨fun c4 => ?_, fun c4 => ?_⟩, fun c3 => ?_⟩, fun c2 => ?_⟩, fun c1 => ?_⟩
    · refine X_keep (ih H1 _ out1 (by omega) (by simp; omega) a2 (fun H' out' hA' => hx H' out' (by simpa [rowA, hal, c1, c2, c3, c4] using hA'))) ?_
      simp
    all_goals
      refine X_keep (ih H _ out (by omega) (by omega) hA (fun H' out' hA' => hx H' out' (by
        rw [rowA, hal, if_neg (by omega)] ; simpa using hA'))) ?_
      simp
theorem loop17o {rs : List ResultVar} {F : List Fr} {P : SV × List Blk → Prop} (n : Int) (hn : -1000 ≤ n ∧ n ≤ 1000) : ∀ (r : Nat) (H : List Blk) (es : List (List PV)) (out : SV), r ≤ 11 → es.length + 7 * r ≤ 100 → Pm.Acc 23 3 H es out →
    (∀ H' out', Pm.Acc 23 3 H' (es ++ rowsA n r) out' → X Y T17 rs F (.exit 0) ⟨mk 45 .J [(3, out')], H'⟩ P) →
    X Y T17 rs F (.loop (loopN Tryd.f17 0)) ⟨mk 45 .J [(0, .i n), (3, out), (4, .i (10 - r))], H⟩ P := by
  intro r
  induction r with
  | zero =>
    intro H es out h1 h2 hA hx
    apply X_loop_of
    · simp only [loopN, Tryd.f17, loopsOf, List.nil_append, List.append_nil, List.cons_append, List.getD_cons_succ, List.getD_cons_zero]; rfl
    simp
    refine X_keep (hx H out (by simpa [rowsA] using hA)) ?_
    simp
  | succ r ih =>
    intro H es out h1 h2 hA hx
    have q1 : (10 : Int) - ((r + 1 : Nat) : Int) = 9 - r := by omega
    have q2 : (9 : Int) - r ≤ 9 := by omega
    have q3 : IntKind.i64.wrap (9 - (r : Int) + 1) = 10 - r := by rw [show (9 : Int) - r + 1 = 10 - r by omega]; exact wrap64 (by omega) (by omega)
    have hl := rowA_len n (9 - r) 7
    rw [q1]
    apply X_loop_of
    · simp only [loopN, Tryd.f17, loopsOf, List.nil_append, List.append_nil, List.cons_append, List.getD_cons_succ, List.getD_cons_zero]; rfl
    simp [-Int.not_lt, -Int.not_le, q2]
    refine X_keep (loop17i n (9 - r) hn (by omega) 7 H es out (by omega) (by omega) hA ?_) ?_
    · intro H' out' hA'
      simp [q3, hA'.live]
      refine X_keep (ih H' _ out' (by omega) (by simp; omega) hA' (fun H' out' hA' => hx H' out' (by simpa [rowsA] using hA'))) ?_
      simp
    · simp
theorem rowA_none {n oc : Int} (h : ¬ (0 ≤ n ∧ n ≤ 127)) : ∀ r, rowA n oc r = []
  | 0 => rfl
  | r + 1 => by rw [rowA, if_neg (by omega), rowA_none h r]; rfl
theorem rowsA_none {n : Int} (h : ¬ (0 ≤ n ∧ n ≤ 127)) : ∀ r, rowsA n r = []
  | 0 => rfl
  | r + 1 => by rw [rowsA, rowA_none h, rowsA_none h r]; rfl
theorem all_same : (List.range 128).all (fun n => decide (unP (rowsA (n : Int) 11) = unP (rowO (n : Int) 5))) = true := by kernel_rfl
theorem rowsA_enh {n : Int} (h : 0 ≤ n ∧ n ≤ 127) : rowsA n 11 = rowP (enhP n) := by
  have h1 := List.all_eq_true.1 all_same n.toNat (by simp; omega)
  rw [show ((n.toNat : Nat) : Int) = n by omega] at h1
  have h2 := of_decide_eq_true h1
  obtain ⟨e, _⟩ := enh_p h
  unfold enhL at e
  rw [e, unP_row] at h2
  exact unP_eq h2
def allR (n : Int) : SV := if 0 ≤ n ∧ n ≤ 127 then .fresh 23 3 (rowP (enhP n)) else .pv .nilSlice
theorem x17 (n : Int) (hn : -1000 ≤ n ∧ n ≤ 1000) : XFn Y T17 Tryd.f17 [.i n] [] (Is (allR n)) := by
  unfold XFn Tryd.f17
  rw [enter_1 _ (by decide)]
  simp [-outR, -Int.not_lt]
  refine X_keep (loop17o n hn 11 [] [] _ (by omega) (by simp) Acc.nil ?_) ?_
  · intro H' out' hA
    simp only [List.nil_append] at hA
    simp [-outR, hA.live]
    unfold allR
    by_cases h : 0 ≤ n ∧ n ≤ 127
    · rw [if_pos h]
      rw [rowsA_enh h] at hA
      obtain ⟨e, hs⟩ := enh_p h
      rcases hA with ⟨h0, _⟩ | ⟨_, k, v, rfl, hk⟩
      · have := hs.1.1
        have h0' := congrArg List.length h0
        rw [rowP_len] at h0'
        simp at h0'; simp [h0'] at this
      · simp [hk]
    · rw [if_neg h]
      rw [rowsA_none h] at hA
      rcases hA with ⟨_, rfl⟩ | ⟨h0, _⟩
      · simp
      · exact absurd rfl h0
  · simp
def F17 : List SV → Option SV
  | [.pv (.int .i64 n)] => if -1000 ≤ n ∧ n ≤ 1000 then some (allR n) else none
  | _ => none
theorem meets17 (W0 : World) : OkAt W0 17 F17 := meets_fn env (tok_cons (meets44 W0) tok_nil) mixed Tryd.func17 (by kernel_rfl) (by kernel_rfl) fun args r h => by
  unfold F17 at h
  split at h
  · split at h
    · rename_i hc; cases h; exact x17 _ hc
    · cases h
  · cases h
end Go.Proofs.YtmmpjnjdddaldaaDoor
