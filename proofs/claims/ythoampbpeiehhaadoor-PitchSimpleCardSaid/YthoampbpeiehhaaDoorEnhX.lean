/- The reference's rows of pitches, by the machine. -/
import Derived.Test.YthoampbpeiehhaaDoorPitchK
set_option linter.unusedSimpArgs false
set_option linter.unusedVariables false
set_option maxRecDepth 100000
set_option maxHeartbeats 4000000
namespace Go.Proofs.YthoampbpeiehhaaDoor
open Go.Pm
abbrev VP (p : Int × Int × Int) : List PV := V3 p.1 p.2.1 p.2.2
abbrev ty29 : Ty := ⟨.struct [(0, 3), (1, 3), (2, 3)], 3, 24, [.int .i64 0, .int .i64 0, .int .i64 0], [.int .i64, .int .i64, .int .i64]⟩
noncomputable def T36 : FuncId → Option Pm.Spec := tab [(16, .pure false F16)]
theorem T36_eq (g : Nat) : T36 g = tab [(16, .pure false F16)] g := rfl
theorem tok36 (W0 : World) : TOk Tryd.prog W0 T36 := tok_cons (meets16 W0) tok_nil
theorem app29 {H : List Blk} {es : List (List PV)} {out : SV} (x : List PV) (hl : es.length ≤ 1000) (h : Pm.Acc 29 3 H es out) :
    ∃ out' H', aAppend Y H 22 22 out (.tight 3 [x]) = some (out', H') ∧ Pm.Acc 29 3 H' (es ++ [x]) out' := by
  obtain ⟨out', H', a, b, -, -⟩ := Acc.app (Y := Y) (t := 22) (e := 29) (y := ty29) (x := x) rfl rfl (by decide) (by decide) (by decide) (by simp [maxRow]; omega) h
  exact ⟨out', H', a, b⟩

def rowsC (s o : Int) : Nat → List (List PV)
  | 0 => []
  | r + 1 => (if ex s (2 - r) o then [V3 s (2 - r) o] else []) ++ rowsC s o r
theorem rowsC_len (s o : Int) : ∀ r, (rowsC s o r).length ≤ r
  | 0 => by simp [rowsC]
  | r + 1 => by
    have := rowsC_len s o r
    simp only [rowsC, List.length_append]
    split <;> simp <;> omega

theorem loopC {rs : List ResultVar} {F : List Fr} {P : SV × List Blk → Prop} (s o : Int) : ∀ (r : Nat) (H : List Blk) (es : List (List PV)) (out : SV), r ≤ 5 → es.length + r ≤ 1000 → Pm.Acc 29 3 H es out →
    (∀ H' out', Pm.Acc 29 3 H' (es ++ rowsC s o r) out' → X Y T36 rs F (.exit 4) ⟨mk 29 .J [(1, out'), (2, .i o), (3, .i s)], H'⟩ P) →
    X Y T36 rs F (.loop (loopN Tryd.f36 2)) ⟨mk 29 .J [(1, out), (2, .i o), (3, .i s), (4, .i (3 - r))], H⟩ P := by
  intro r
  induction r with
  | zero =>
    intro H es out h1 h2 hA hx
    apply X_loop_of
    · simp only [loopN, Tryd.f36, loopsOf, List.nil_append, List.append_nil, List.cons_append, List.getD_cons_succ, List.getD_cons_zero]; rfl
    simp
    refine X_keep (hx H out (by simpa [rowsC] using hA)) ?_
    simp
  | succ r ih =>
    intro H es out h1 h2 hA hx
    have q1 : (3 : Int) - ((r + 1 : Nat) : Int) = 2 - r := by omega
    have q2 : (2 : Int) - r ≤ 2 := by omega
    have q3 : IntKind.i64.wrap (2 - r + 1) = 3 - r := by rw [show (2 : Int) - r + 1 = 3 - r by omega]; exact w64_id (by omega) (by omega)
    rw [q1]
    apply X_loop_of
    · simp only [loopN, Tryd.f36, loopsOf, List.nil_append, List.append_nil, List.cons_append, List.getD_cons_succ, List.getD_cons_zero]; rfl
    cases he : ex s (2 - r) o with
    | true =>
      obtain ⟨out1, H1, a1, a2⟩ := app29 (V3 s (2 - r) o) (by omega) (hA.more [.box [.i s, .i (2 - r), .i o]])
      simp [-aAppend, T36_eq, onQ, he, q2, q3, a1, hA.live, a2.live]
      refine X_keep (ih H1 _ out1 (by omega) (by simp; omega) a2 (fun H' out' hA' => hx H' out' (by simpa [rowsC, he] using hA'))) ?_
      simp
    | false =>
      simp [T36_eq, onQ, he, q2, q3, hA.live]
      refine X_keep (ih _ _ out (by omega) (by omega) (hA.more _) (fun H' out' hA' => hx H' out' (by simpa [rowsC, he] using hA'))) ?_
      simp

def rowsB (o : Int) : Nat → List (List PV)
  | 0 => []
  | r + 1 => rowsC (6 - r) o 5 ++ rowsB o r
theorem rowsB_len (o : Int) : ∀ r, (rowsB o r).length ≤ 5 * r
  | 0 => by simp [rowsB]
  | r + 1 => by
    have := rowsB_len o r
    have := rowsC_len (6 - r) o 5
    simp only [rowsB, List.length_append]
    omega
theorem loopB {rs : List ResultVar} {F : List Fr} {P : SV × List Blk → Prop} (o : Int) : ∀ (r : Nat) (H : List Blk) (es : List (List PV)) (out : SV), r ≤ 7 → es.length + 5 * r ≤ 900 → Pm.Acc 29 3 H es out →
    (∀ H' out', Pm.Acc 29 3 H' (es ++ rowsB o r) out' → X Y T36 rs F (.exit 2) ⟨mk 29 .J [(1, out'), (2, .i o)], H'⟩ P) →
    X Y T36 rs F (.loop (loopN Tryd.f36 1)) ⟨mk 29 .J [(1, out), (2, .i o), (3, .i (7 - r))], H⟩ P := by
  intro r
  induction r with
  | zero =>
    intro H es out h1 h2 hA hx
    apply X_loop_of
    · simp only [loopN, Tryd.f36, loopsOf, List.nil_append, List.append_nil, List.cons_append, List.getD_cons_succ, List.getD_cons_zero]; rfl
    simp
    refine X_keep (hx H out (by simpa [rowsB] using hA)) ?_
    simp
  | succ r ih =>
    intro H es out h1 h2 hA hx
    have q1 : (7 : Int) - ((r + 1 : Nat) : Int) = 6 - r := by omega
    have q2 : (6 : Int) - r ≤ 6 := by omega
    have q3 : IntKind.i64.wrap (6 - r + 1) = 7 - r := by rw [show (6 : Int) - r + 1 = 7 - r by omega]; exact w64_id (by omega) (by omega)
    have hl := rowsC_len (6 - r) o 5
    rw [q1]
    apply X_loop_of
    · simp only [loopN, Tryd.f36, loopsOf, List.nil_append, List.append_nil, List.cons_append, List.getD_cons_succ, List.getD_cons_zero]; rfl
    simp [q2]
    refine X_keep (loopC (6 - r) o 5 H es out (by omega) (by omega) hA ?_) ?_
    · intro H' out' hA'
      simp [q3, hA'.live]
      refine X_keep (ih H' _ out' (by omega) (by simp; omega) hA' (fun H' out' hA' => hx H' out' (by simpa [rowsB] using hA'))) ?_
      simp
    · simp

def rowsA : Nat → List (List PV)
  | 0 => []
  | r + 1 => rowsB (9 - r) 7 ++ rowsA r
theorem rowsA_len : ∀ r, (rowsA r).length ≤ 35 * r
  | 0 => by simp [rowsA]
  | r + 1 => by
    have := rowsA_len r
    have := rowsB_len (9 - r) 7
    simp only [rowsA, List.length_append]
    omega
theorem loopA {rs : List ResultVar} {F : List Fr} {P : SV × List Blk → Prop} : ∀ (r : Nat) (H : List Blk) (es : List (List PV)) (out : SV), r ≤ 11 → es.length + 35 * r ≤ 500 → Pm.Acc 29 3 H es out →
    (∀ H' out', Pm.Acc 29 3 H' (es ++ rowsA r) out' → X Y T36 rs F (.exit 0) ⟨mk 29 .J [(1, out')], H'⟩ P) →
    X Y T36 rs F (.loop (loopN Tryd.f36 0)) ⟨mk 29 .J [(1, out), (2, .i (10 - r))], H⟩ P := by
  intro r
  induction r with
  | zero =>
    intro H es out h1 h2 hA hx
    apply X_loop_of
    · simp only [loopN, Tryd.f36, loopsOf, List.nil_append, List.append_nil, List.cons_append, List.getD_cons_succ, List.getD_cons_zero]; rfl
    simp
    refine X_keep (hx H out (by simpa [rowsA] using hA)) ?_
    simp
  | succ r ih =>
    intro H es out h1 h2 hA hx
    have q1 : (10 : Int) - ((r + 1 : Nat) : Int) = 9 - r := by omega
    have q2 : (9 : Int) - r ≤ 9 := by omega
    have q3 : IntKind.i64.wrap (9 - r + 1) = 10 - r := by rw [show (9 : Int) - r + 1 = 10 - r by omega]; exact w64_id (by omega) (by omega)
    have hl := rowsB_len (9 - r) 7
    rw [q1]
    apply X_loop_of
    · simp only [loopN, Tryd.f36, loopsOf, List.nil_append, List.append_nil, List.cons_append, List.getD_cons_succ, List.getD_cons_zero]; rfl
    simp [q2]
    refine X_keep (loopB (9 - r) 7 H es out (by omega) (by omega) hA ?_) ?_
    · intro H' out' hA'
      simp [q3, hA'.live]
      refine X_keep (ih H' _ out' (by omega) (by simp; omega) hA' (fun H' out' hA' => hx H' out' (by simpa [rowsA] using hA'))) ?_
      simp
    · simp
def allL : List (List PV) := rowsA 11
def F36 : List SV → Option SV
  | [] => some (.fresh 29 3 allL)
  | _ => none
theorem x36 : XFn Y T36 Tryd.f36 [] [] (Is (.fresh 29 3 allL)) := by
  unfold XFn Tryd.f36
  rw [enter_mk0]
  simp [-outR]
  refine X_keep (loopA 11 [] [] _ (by omega) (by simp) Acc.nil ?_) ?_
  · intro H' out' hA
    simp [-outR, hA.live]
    rw [hA.outR, if_neg (by decide +kernel)]; rfl
  · simp
theorem meets36 (W0 : World) : OkFr W0 36 F36 := meets_fn env (tok36 W0) mixed Tryd.func36 (by kernel_rfl) (by kernel_rfl) fun args r h => by
  unfold F36 at h
  split at h
  · cases h; exact x36
  · cases h

def numOf : List PV → Int
  | [.int _ s, .int _ a, .int _ o] => numW s a o
  | _ => 0
/-- A row of pitches. -/
def Pitches (L : List (List PV)) : Prop := ∀ x ∈ L, ∃ s a o, x = V3 s a o ∧ valid s a o
theorem rowsC_p (s o : Int) : ∀ r, Pitches (rowsC s o r)
  | 0 => fun x h => by cases h
  | r + 1 => fun x h => by
    simp only [rowsC, List.mem_append] at h
    rcases h with h | h
    · split at h
      · rename_i he
        simp at h
        unfold ex at he
        split at he
        · rename_i hv; exact ⟨_, _, _, h, hv⟩
        · cases he
      · cases h
    · exact rowsC_p s o r x h
theorem rowsB_p (o : Int) : ∀ r, Pitches (rowsB o r)
  | 0 => fun x h => by cases h
  | r + 1 => fun x h => (List.mem_append.1 h).elim (rowsC_p _ _ _ x) (rowsB_p o r x)
theorem rowsA_p : ∀ r, Pitches (rowsA r)
  | 0 => fun x h => by cases h
  | r + 1 => fun x h => (List.mem_append.1 h).elim (rowsB_p _ _ x) (rowsA_p r x)
theorem allL_p : Pitches allL := rowsA_p 11
theorem allL_len : allL.length ≤ 385 := rowsA_len 11

noncomputable def T14 : FuncId → Option Pm.Spec := tab [(36, .pure true F36), (28, .pure false F28)]
theorem T14_eq (g : Nat) : T14 g = tab [(36, .pure true F36), (28, .pure false F28)] g := rfl
theorem tok14 (W0 : World) : TOk Tryd.prog W0 T14 := tok_cons (meets36 W0) (tok_cons (meets28 W0) tok_nil)
theorem loop14 {rs : List ResultVar} {F : List Fr} {P : SV × List Blk → Prop} (n : Int) (k : Nat) (L : List (List PV)) (hL : Pitches L) (hN : L.length ≤ 385) : ∀ (r m : Nat) (H : List Blk) (es : List (List PV)) (out : SV),
    m + r = L.length → es.length ≤ m → Pm.Acc 29 3 H es out →
    (∀ H' out', Pm.Acc 29 3 H' (es ++ (L.drop m).filter (fun x => numOf x == n)) out' → X Y T14 rs F (.exit 0) ⟨mk 28 .J [(3, out')], H'⟩ P) →
    X Y T14 rs F (.loop (loopN Tryd.f14 0)) ⟨mk 28 .J [(0, .i n), (3, out), (4, .own k 0 3 L), (5, .i (m : Nat))], H⟩ P := by
  intro r
  induction r with
  | zero =>
    intro m H es out h1 h3 hA hx
    have e1 : m = L.length := by omega
    subst e1
    apply X_loop_of
    · simp only [loopN, Tryd.f14, loopsOf, List.nil_append, List.append_nil, List.cons_append, List.getD_cons_succ, List.getD_cons_zero]; rfl
    simp
    refine X_keep (hx H out (by simpa using hA)) ?_
    simp
  | succ r ih =>
    intro m H es out h1 h3 hA hx
    have hm : m < L.length := by omega
    have hg : L[m]? = some L[m] := List.getElem?_eq_getElem hm
    obtain ⟨s, a, o, e, hv⟩ := hL L[m] (List.getElem_mem hm)
    rw [e] at hg
    have hd : L.drop m = V3 s a o :: L.drop (m + 1) := by rw [List.drop_eq_getElem_cons hm, e]
    have h06 : 0 ≤ s ∧ s ≤ 6 := ⟨hv.1.1, hv.1.2.1⟩
    have q2 : ((m : Int) < (L.length : Int)) := by omega
    have q3 : IntKind.i64.wrap ((m : Int) + 1) = ((m + 1 : Nat) : Int) := by rw [show ((m : Int) + 1) = ((m + 1 : Nat) : Int) by omega]; exact w64_id (by omega) (by omega)
    apply X_loop_of
    · simp only [loopN, Tryd.f14, loopsOf, List.nil_append, List.append_nil, List.cons_append, List.getD_cons_succ, List.getD_cons_zero]; rfl
    obtain ⟨out1, H1, a1, a2⟩ := app29 (V3 s a o) (by omega) hA
    simp [-aAppend, -Int.natCast_add, T14_eq, onP, h06, q2, q3, hg, a1, hA.live, a2.live]
    refine ⟨fun he => ?_, fun he => ?_⟩
    · refine X_keep (ih (m + 1) _ (es ++ [V3 s a o]) out1 (by omega) (by simp; omega) a2 (fun H' out' hA' => hx H' out' ?_)) ?_
      · rw [hd, List.filter_cons_of_pos (by show (numW s a o == n) = true; simpa using he), List.append_cons]; exact hA'
      · simp
    · refine X_keep (ih (m + 1) _ es out (by omega) (by omega) hA (fun H' out' hA' => hx H' out' ?_)) ?_
      · rw [hd, List.filter_cons_of_neg (by show ¬ (numW s a o == n) = true; simpa using he)]; exact hA'
      · simp

/-- The pitches with a number, in the reference's order. -/
def refE (n : Int) : List (List PV) := allL.filter fun x => numOf x == n
theorem x14 (n : Int) : XFn Y T14 Tryd.f14 [.i n] [] (Is (if refE n = [] then .pv .nilSlice else .fresh 29 3 (refE n))) := by
  unfold XFn Tryd.f14
  rw [enter_1 _ (by decide)]
  simp [-outR, T14_eq, F36]
  have hlen := allL_len
  refine X_keep (loop14 n 0 allL allL_p allL_len allL.length 0 _ [] _ (by omega) (by simp) Acc.nil ?_) ?_
  · intro H' out' hA
    simp [-outR, hA.live]
    rw [hA.outR]
    simp [refE]
  · simp
def F14 : List SV → Option SV
  | [.pv (.int .i64 n)] => some (if refE n = [] then .pv .nilSlice else .fresh 29 3 (refE n))
  | _ => none
theorem meets14 (W0 : World) : OkFr W0 14 F14 := meets_fn env (tok14 W0) mixed Tryd.func14 (by kernel_rfl) (by kernel_rfl) fun args r h => by
  unfold F14 at h
  split at h
  · cases h; exact x14 _
  · cases h
end Go.Proofs.YthoampbpeiehhaaDoor
