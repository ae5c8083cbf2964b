/- Enharmonics, by the machine; it is the reference's row. -/
import Derived.Test.YthoampbpeiehhaaDoorEnhX
set_option linter.unusedSimpArgs false
set_option linter.unusedVariables false
set_option maxRecDepth 1000000
set_option maxHeartbeats 4000000
namespace Go.Proofs.YthoampbpeiehhaaDoor
open Go.Pm
theorem semi_range {s : Int} (h : 0 ≤ s ∧ s ≤ 6) : 0 ≤ semi s ∧ semi s ≤ 11 := by
  have : s = 0 ∨ s = 1 ∨ s = 2 ∨ s = 3 ∨ s = 4 ∨ s = 5 ∨ s = 6 := by omega
  rcases this with rfl | rfl | rfl | rfl | rfl | rfl | rfl <;> simp [semi]
theorem numW_eqX {s a o : Int} (h : inR s a o) : numW s a o = 12 * (o + 1) + semi s + a := by
  have hs := semi_range ⟨h.1, h.2.1⟩
  obtain ⟨h1, h2, h3, h4, h5, h6⟩ := h
  unfold numW
  rw [w64_id (n := o + 1) (by omega) (by omega), w64_id (n := 12 * (o + 1)) (by omega) (by omega), w64_id (n := 12 * (o + 1) + semi s) (by omega) (by omega), w64_id (by omega) (by omega)]

/-- One row of Enharmonics: an alteration, its octave and its rest; the steps from i on. -/
def rowI (a oc rest : Int) : Nat → List (List PV)
  | 0 => []
  | r + 1 => (if semi (6 - r) = rest ∧ valid (6 - r) a (oc - 1) then [V3 (6 - r) a (oc - 1)] else []) ++ rowI a oc rest r
theorem rowI_len (a oc rest : Int) : ∀ r, (rowI a oc rest r).length ≤ r
  | 0 => by simp [rowI]
  | r + 1 => by
    have := rowI_len a oc rest r
    simp only [rowI, List.length_append]
    split <;> simp <;> omega
noncomputable def T12 : FuncId → Option Pm.Spec := tab [(34, .pure false F34), (27, .pure false F27), (35, .pure false F35)]
theorem T12_eq (g : Nat) : T12 g = tab [(34, .pure false F34), (27, .pure false F27), (35, .pure false F35)] g := rfl
theorem tok12 (W0 : World) : TOk Tryd.prog W0 T12 := tok_cons (meets34 W0) (tok_cons (meets27 W0) (tok_cons (meets35 W0) tok_nil))
abbrev semis : SV := .agg [.i 0, .i 2, .i 4, .i 5, .i 7, .i 9, .i 11]
theorem semi_at {r : Nat} (h : r < 7) : ([SV.i 0, .i 2, .i 4, .i 5, .i 7, .i 9, .i 11] : List SV)[6 - r]? = some (.i (semi (6 - r))) := by
  have : r = 0 ∨ r = 1 ∨ r = 2 ∨ r = 3 ∨ r = 4 ∨ r = 5 ∨ r = 6 := by omega
  rcases this with rfl | rfl | rfl | rfl | rfl | rfl | rfl <;> rfl
theorem loopI {rs : List ResultVar} {F : List Fr} {P : SV × List Blk → Prop} (n a oc rest : Int) (ha : -2 ≤ a ∧ a ≤ 2) (hoc : -9 ≤ oc ∧ oc ≤ 20) : ∀ (r : Nat) (H : List Blk) (es : List (List PV)) (out : SV), r ≤ 7 → es.length + r ≤ 1000 → Pm.Acc 29 3 H es out →
    (∀ H' out', Pm.Acc 29 3 H' (es ++ rowI a oc rest r) out' → X Y T12 rs F (.exit 2) ⟨mk 52 .J [(0, .i n), (4, out'), (5, .i a)], H'⟩ P) →
    X Y T12 rs F (.loop (loopN Tryd.f12 1)) ⟨mk 52 .J [(0, .i n), (4, out), (5, .i a), (6, .i oc), (7, .i rest), (28, semis), (29, .i (7 - r))], H⟩ P := by
  intro r
  induction r with
  | zero =>
    intro H es out h1 h2 hA hx
    apply X_loop_of
    · simp only [loopN, Tryd.f12, loopsOf, List.nil_append, List.append_nil, List.cons_append, List.getD_cons_succ, List.getD_cons_zero]; rfl
    simp
    refine X_keep (hx H out (by simpa [rowI] using hA)) ?_
    simp
  | succ r ih =>
    intro H es out h1 h2 hA hx
    have q1 : (7 : Int) - ((r + 1 : Nat) : Int) = 6 - r := by omega
    have q2 : (6 : Int) - r < 7 := by omega
    have q2' : (0 : Int) ≤ 6 - r := by omega
    have q2'' : (r : Int) ≤ 6 := by omega
    have q3 : IntKind.i64.wrap (6 - r + 1) = 7 - r := by rw [show (6 : Int) - r + 1 = 7 - r by omega]; exact w64_id (by omega) (by omega)
    have q4 : IntKind.i64.wrap (oc - 1) = oc - 1 := w64_id (by omega) (by omega)
    have q5 := semi_at (r := r) (by omega)
    rw [q1]
    apply X_loop_of
    · simp only [loopN, Tryd.f12, loopsOf, List.nil_append, List.append_nil, List.cons_append, List.getD_cons_succ, List.getD_cons_zero]; rfl
    obtain ⟨out1, H1, a1, a2⟩ := app29 (V3 (6 - r) a (oc - 1)) (by omega) (hA.more [.box [.i (6 - r), .i a, .i (oc - 1)]])
    simp [-aAppend, T12_eq, onQ, q2, q2', q2'', q3, q4, q5, a1, hA.live, a2.live]
    refine ⟨fun he => ⟨fun hv => ?_, fun hv => ?_⟩, fun he => ?_⟩
    · have hv' : valid (6 - r) a (oc - 1) := by
        by_cases h : valid (6 - r) a (oc - 1)
        · exact h
        · rw [show chk (6 - r) a (oc - 1) = 18 from if_neg h] at hv; cases hv
      refine X_keep (ih H1 _ out1 (by omega) (by simp; omega) a2 (fun H' out' hA' => hx H' out' (by simpa [rowI, he, hv'] using hA'))) ?_
      simp
    · have hv' : ¬ valid (6 - r) a (oc - 1) := by
        intro h
        exact hv (if_pos h)
      refine X_keep (ih _ _ out (by omega) (by omega) (hA.more _) (fun H' out' hA' => hx H' out' (by simpa [rowI, he, hv'] using hA'))) ?_
      simp
    · refine X_keep (ih _ _ out (by omega) (by omega) (hA.more _) (fun H' out' hA' => hx H' out' (by simpa [rowI, he] using hA'))) ?_
      simp
def rowO (n : Int) : Nat → List (List PV)
  | 0 => []
  | r + 1 => rowI (r - 2) ((n - (r - 2)) / 12) ((n - (r - 2)) % 12) 7 ++ rowO n r
theorem loopO {rs : List ResultVar} {F : List Fr} {P : SV × List Blk → Prop} (n : Int) (hn : 0 ≤ n ∧ n ≤ 127) : ∀ (r : Nat) (H : List Blk) (es : List (List PV)) (out : SV), r ≤ 5 → es.length + 7 * r ≤ 100 → Pm.Acc 29 3 H es out →
    (∀ H' out', Pm.Acc 29 3 H' (es ++ rowO n r) out' → X Y T12 rs F (.exit 0) ⟨mk 52 .J [(4, out')], H'⟩ P) →
    X Y T12 rs F (.loop (loopN Tryd.f12 0)) ⟨mk 52 .J [(0, .i n), (4, out), (5, .i (r - 3))], H⟩ P := by
  intro r
  induction r with
  | zero =>
    intro H es out h1 h2 hA hx
    apply X_loop_of
    · simp only [loopN, Tryd.f12, loopsOf, List.nil_append, List.append_nil, List.cons_append, List.getD_cons_succ, List.getD_cons_zero]; rfl
    simp
    refine X_keep (hx H out (by simpa [rowO] using hA)) ?_
    simp
  | succ r ih =>
    intro H es out h1 h2 hA hx
    have q1 : ((r + 1 : Nat) : Int) - 3 = r - 2 := by omega
    have q2 : -2 ≤ (r : Int) - 2 := by omega
    have q3 : IntKind.i64.wrap ((r : Int) - 2 - 1) = r - 3 := by rw [show (r : Int) - 2 - 1 = r - 3 by omega]; exact w64_id (by omega) (by omega)
    have q4 : IntKind.i64.wrap (n - ((r : Int) - 2)) = n - (r - 2) := w64_id (by omega) (by omega)
    have q5 : -9223372036854775808 ≤ n - ((r : Int) - 2) ∧ n - ((r : Int) - 2) ≤ 9223372036854775807 := by omega
    have hl := rowI_len (r - 2) ((n - (r - 2)) / 12) ((n - (r - 2)) % 12) 7
    rw [q1]
    apply X_loop_of
    · simp only [loopN, Tryd.f12, loopsOf, List.nil_append, List.append_nil, List.cons_append, List.getD_cons_succ, List.getD_cons_zero]; rfl
    simp [T12_eq, F34, F35, q2, q3, q4, q5]
    refine X_keep (loopI n (r - 2) ((n - (r - 2)) / 12) ((n - (r - 2)) % 12) (by omega) (by omega) 7 H es out (by omega) (by omega) hA ?_) ?_
    · intro H' out' hA'
      simp [q3, hA'.live]
      refine X_keep (ih H' _ out' (by omega) (by simp; omega) hA' (fun H' out' hA' => hx H' out' (by simpa [rowO] using hA'))) ?_
      simp
    · simp
/-- In plain words. -/
def num' : List PV → Int
  | [.int _ s, .int _ a, .int _ o] => 12 * (o + 1) + semi s + a
  | _ => 0
theorem refE_eq (n : Int) : refE n = allL.filter fun x => num' x == n := by
  unfold refE
  refine List.filter_congr fun x hx => ?_
  obtain ⟨s, a, o, rfl, hv⟩ := allL_p x hx
  show (numW s a o == n) = (12 * (o + 1) + semi s + a == n)
  rw [numW_eqX hv.1]
def pvEq : List PV → List PV → Bool
  | [.int .i64 a, .int .i64 b, .int .i64 c], [.int .i64 x, .int .i64 y, .int .i64 z] => a == x && (b == y && c == z)
  | _, _ => false
theorem pvEq_eq {x y : List PV} (h : pvEq x y = true) : x = y := by
  unfold pvEq at h
  split at h
  · simp at h; obtain ⟨rfl, rfl, rfl⟩ := h; rfl
  · cases h
def rowEq : List (List PV) → List (List PV) → Bool
  | [], [] => true
  | x :: r, y :: s => pvEq x y && rowEq r s
  | _, _ => false
theorem rowEq_eq : ∀ {x y : List (List PV)}, rowEq x y = true → x = y
  | [], [], _ => rfl
  | [], _ :: _, h => by simp [rowEq] at h
  | _ :: _, [], h => by simp [rowEq] at h
  | a :: r, b :: s, h => by
    simp only [rowEq, Bool.and_eq_true] at h
    rw [pvEq_eq h.1, rowEq_eq h.2]
theorem enh_same : (List.range 128).all (fun n => rowEq (allL.filter fun x => num' x == (n : Int)) (rowO (n : Int) 5) && !(rowO (n : Int) 5).isEmpty) = true := by kernel_rfl
theorem enh_row {n : Int} (h : 0 ≤ n ∧ n ≤ 127) : rowO n 5 = refE n ∧ refE n ≠ [] := by
  have h1 := List.all_eq_true.1 enh_same n.toNat (by simp; omega)
  rw [show ((n.toNat : Nat) : Int) = n by omega] at h1
  simp only [Bool.and_eq_true] at h1
  have e : refE n = rowO n 5 := by rw [refE_eq]; exact rowEq_eq h1.1
  refine ⟨e.symm, fun e' => ?_⟩
  rw [← e, e'] at h1
  simp at h1
def enhR (n : Int) : SV := if 0 ≤ n ∧ n ≤ 127 then .tuple [.fresh 29 3 (refE n), .i 0] else .tuple [.pv .nilSlice, .i 2]
theorem x12 (n : Int) : XFn Y T12 Tryd.f12 [.i n] [] (Is (enhR n)) := by
  unfold XFn Tryd.f12
  rw [enter_1 _ (by decide)]
  simp [-outR, -Int.not_lt]
  refine ⟨fun h => ?_, fun h => ⟨fun h' => ?_, fun h' => ?_⟩⟩
  · rw [enhR, if_neg (by omega)]; simp
  · rw [enhR, if_neg (by omega)]; simp
  · have hn : 0 ≤ n ∧ n ≤ 127 := by omega
    refine X_keep (loopO n hn 5 [] [] _ (by omega) (by simp) Acc.nil ?_) ?_
    · intro H' out' hA
      obtain ⟨e1, e2⟩ := enh_row hn
      simp only [List.nil_append] at hA
      rw [e1] at hA
      simp [-outR, hA.live]
      rw [enhR, if_pos hn]
      rcases hA with ⟨h0, _⟩ | ⟨_, k, v, rfl, hk⟩
      · exact absurd h0 e2
      · simp [hk]
    · simp
def F12 : List SV → Option SV
  | [.pv (.int .i64 n)] => some (enhR n)
  | _ => none
theorem meets12 (W0 : World) : OkFr W0 12 F12 := meets_fn env (tok12 W0) mixed Tryd.func12 (by kernel_rfl) (by kernel_rfl) fun args r h => by
  unfold F12 at h
  split at h
  · cases h; exact x12 _
  · cases h
end Go.Proofs.YthoampbpeiehhaaDoor
