/- Enharmonics, by the machine. -/
import Derived.Test.YtmmpjnjdddaldaaGreatDoorIntB
set_option linter.unusedSimpArgs false
set_option linter.unusedVariables false
set_option maxRecDepth 1000000
set_option maxHeartbeats 400000
namespace Go.Proofs.YtmmpjnjdddaldaaGreatDoor
open Go Go.Pm Go.RowKit
abbrev V3 (s a o : Int) : List PV := [.int .i64 s, .int .i64 a, .int .i64 o]
theorem x64 (a : Int) (h : -2 ≤ a ∧ a ≤ 200) : XFn Y T0 Tryz.f85 [.i a, .i 12] [] (Is (.tuple [.i (a / 12), .i (a % 12)])) := by
  unfold XFn Tryz.f85
  rw [enter_2 _ (by decide)]
  by_cases h0 : 0 ≤ a
  · have t1 : a.tdiv 12 = a / 12 := Int.tdiv_eq_ediv_of_nonneg h0
    have t2 : a.tmod 12 = a % 12 := Int.tmod_eq_emod_of_nonneg h0
    have w1 : IntKind.i64.wrap (a / 12) = a / 12 := wrap64 (by omega) (by omega)
    have n1 : ¬ a % 12 < 0 := by omega
    simp [-Int.not_lt, -Int.not_le, t1, t2, w1, n1]
  · rcases (by omega : a = -1 ∨ a = -2) with rfl | rfl
    · have w1 : IntKind.i64.wrap 0 = 0 := rfl
      have w2 : IntKind.i64.wrap (-1) = -1 := rfl
      have w3 : IntKind.i64.wrap 11 = 11 := rfl
      simp [-Int.not_lt, -Int.not_le, show (-1 : Int).tdiv 12 = 0 from rfl, show (-1 : Int).tmod 12 = -1 from rfl, w1, w2, w3]
    · have w1 : IntKind.i64.wrap 0 = 0 := rfl
      have w2 : IntKind.i64.wrap (-1) = -1 := rfl
      have w3 : IntKind.i64.wrap 10 = 10 := rfl
      simp [-Int.not_lt, -Int.not_le, show (-2 : Int).tdiv 12 = 0 from rfl, show (-2 : Int).tmod 12 = -2 from rfl, w1, w2, w3]
def F64 : List SV → Option SV
  | [.pv (.int .i64 a), .pv (.int .i64 b)] => if (-2 ≤ a ∧ a ≤ 200) ∧ b = 12 then some (.tuple [.i (a / 12), .i (a % 12)]) else none
  | _ => none
theorem meets64 (W0 : World) : OkAt W0 85 F64 := meets_fn env tok_nil mixed Tryz.func85 (by kernel_rfl) (by kernel_rfl) fun args r h => by
  unfold F64 at h
  split at h
  · split at h
    · rename_i hc; cases h; obtain ⟨hc, rfl⟩ := hc; exact x64 _ hc
    · cases h
  · cases h
abbrev ty23 : Ty := ⟨.struct [(0, 3), (1, 3), (2, 3)], 3, 24, [.int .i64 0, .int .i64 0, .int .i64 0], [.int .i64, .int .i64, .int .i64]⟩
theorem app23 {H : List Blk} {es : List (List PV)} {out : SV} (x : List PV) (hl : es.length ≤ 1000) (h : Pm.Acc 46 3 H es out) :
    ∃ out' H', aAppend Y H 69 69 out (.tight 3 [x]) = some (out', H') ∧ Pm.Acc 46 3 H' (es ++ [x]) out' := by
  obtain ⟨out', H', a, b, -, -⟩ := Acc.app (Y := Y) (t := 69) (e := 46) (y := ty23) (x := x) rfl rfl (by decide) (by decide) (by decide) (by simp [maxRow]; omega) h
  exact ⟨out', H', a, b⟩
/-- One row of Enharmonics: an alteration, its octave and its rest; the steps from i on. -/
def rowI (a oc rest : Int) : Nat → List (List PV)
  | 0 => []
  | r + 1 => (if semi (6 - r) = rest ∧ valid (6 - r) a (oc - 1) then [V3 (6 - r) a (oc - 1)] else []) ++ rowI a oc rest r
theorem rowI_len (a oc rest : Int) : ∀ r, (rowI a oc rest r).length ≤ r
  | 0 => by simp [rowI]
  | r + 1 => by
    have := rowI_len a oc rest r
    simp only [rowI, List.length_append]
    split <;> simp <;> omega
noncomputable def T54 : FuncId → Option Pm.Spec := tab [(85, .pure false F64), (83, .pure false F66), (86, .pure false F65)]
theorem T54_eq (g : Nat) : T54 g = tab [(85, .pure false F64), (83, .pure false F66), (86, .pure false F65)] g := rfl
theorem tok54 (W0 : World) : TOk Tryz.prog W0 T54 := tok_cons (meets64 W0) (tok_cons (meets66 W0) (tok_cons (meets65 W0) tok_nil))
abbrev semis : SV := .agg [.i 0, .i 2, .i 4, .i 5, .i 7, .i 9, .i 11]
theorem semi_atR {r : Nat} (h : r < 7) : ([SV.i 0, .i 2, .i 4, .i 5, .i 7, .i 9, .i 11] : List SV)[6 - r]? = some (.i (semi (6 - r))) := by
  have : r = 0 ∨ r = 1 ∨ r = 2 ∨ r = 3 ∨ r = 4 ∨ r = 5 ∨ r = 6 := by omega
  rcases this with rfl | rfl | rfl | rfl | rfl | rfl | rfl <;> rfl
theorem loopI {rs : List ResultVar} {F : List Fr} {P : SV × List Blk → Prop} (n a oc rest : Int) (ha : -2 ≤ a ∧ a ≤ 2) (hoc : -9 ≤ oc ∧ oc ≤ 20) : ∀ (r : Nat) (H : List Blk) (es : List (List PV)) (out : SV), r ≤ 7 → es.length + r ≤ 1000 → Pm.Acc 46 3 H es out →
    (∀ H' out', Pm.Acc 46 3 H' (es ++ rowI a oc rest r) out' → X Y T54 rs F (.exit 2) ⟨mk 52 .J [(0, .i n), (4, out'), (5, .i a)], H'⟩ P) →
    X Y T54 rs F (.loop (loopN Tryz.f70 1)) ⟨mk 52 .J [(0, .i n), (4, out), (5, .i a), (6, .i oc), (7, .i rest), (28, semis), (29, .i (7 - r))], H⟩ P := by
  intro r
  induction r with
  | zero =>
    intro H es out h1 h2 hA hx
    apply X_loop_of
    · simp only [loopN, Tryz.f70, loopsOf, List.nil_append, List.append_nil, List.cons_append, List.getD_cons_succ, List.getD_cons_zero]; rfl
    simp
    refine X_keep (hx H out (by simpa [rowI] using hA)) ?_
    simp
  | succ r ih =>
    intro H es out h1 h2 hA hx
    have q1 : (7 : Int) - ((r + 1 : Nat) : Int) = 6 - r := by omega
    have q2 : (6 : Int) - r < 7 := by omega
    have q2' : (0 : Int) ≤ 6 - r := by omega
    have q2'' : (r : Int) ≤ 6 := by omega
    have q3 : IntKind.i64.wrap (6 - r + 1) = 7 - r := by rw [show (6 : Int) - r + 1 = 7 - r by omega]; exact wrap64 (by omega) (by omega)
    have q4 : IntKind.i64.wrap (oc - 1) = oc - 1 := wrap64 (by omega) (by omega)
    have q5 := semi_atR (r := r) (by omega)
    rw [q1]
    apply X_loop_of
    · simp only [loopN, Tryz.f70, loopsOf, List.nil_append, List.append_nil, List.cons_append, List.getD_cons_succ, List.getD_cons_zero]; rfl
    obtain ⟨out1, H1, a1, a2⟩ := app23 (V3 (6 - r) a (oc - 1)) (by omega) (hA.more [.box [.i (6 - r), .i a, .i (oc - 1)]])
    simp [-aAppend, T54_eq, F66, q2, q2', q2'', q3, q4, q5, a1, hA.live, a2.live]
    refine ⟨fun he => ⟨fun hv => ?_, fun hv => ?_⟩, fun he => ?_⟩
    · refine X_keep (ih H1 _ out1 (by omega) (by simp; omega) a2 (fun H' out' hA' => hx H' out' (by simpa [rowI, he, hv] using hA'))) ?_
      simp
    · refine X_keep (ih _ _ out (by omega) (by omega) (hA.more _) (fun H' out' hA' => hx H' out' (by simpa [rowI, he, hv] using hA'))) ?_
      simp
    · refine X_keep (ih _ _ out (by omega) (by omega) (hA.more _) (fun H' out' hA' => hx H' out' (by simpa [rowI, he] using hA'))) ?_
      simp
def rowO (n : Int) : Nat → List (List PV)
  | 0 => []
  | r + 1 => rowI (r - 2) ((n - (r - 2)) / 12) ((n - (r - 2)) % 12) 7 ++ rowO n r
theorem loopO {rs : List ResultVar} {F : List Fr} {P : SV × List Blk → Prop} (n : Int) (hn : 0 ≤ n ∧ n ≤ 127) : ∀ (r : Nat) (H : List Blk) (es : List (List PV)) (out : SV), r ≤ 5 → es.length + 7 * r ≤ 100 → Pm.Acc 46 3 H es out →
    (∀ H' out', Pm.Acc 46 3 H' (es ++ rowO n r) out' → X Y T54 rs F (.exit 0) ⟨mk 52 .J [(4, out')], H'⟩ P) →
    X Y T54 rs F (.loop (loopN Tryz.f70 0)) ⟨mk 52 .J [(0, .i n), (4, out), (5, .i (r - 3))], H⟩ P := by
  intro r
  induction r with
  | zero =>
    intro H es out h1 h2 hA hx
    apply X_loop_of
    · simp only [loopN, Tryz.f70, loopsOf, List.nil_append, List.append_nil, List.cons_append, List.getD_cons_succ, List.getD_cons_zero]; rfl
    simp
    refine X_keep (hx H out (by simpa [rowO] using hA)) ?_
    simp
  | succ r ih =>
    intro H es out h1 h2 hA hx
    have q1 : ((r + 1 : Nat) : Int) - 3 = r - 2 := by omega
    have q2 : -2 ≤ (r : Int) - 2 := by omega
    have q3 : IntKind.i64.wrap ((r : Int) - 2 - 1) = r - 3 := by rw [show (r : Int) - 2 - 1 = r - 3 by omega]; exact wrap64 (by omega) (by omega)
    have q4 : IntKind.i64.wrap (n - ((r : Int) - 2)) = n - (r - 2) := wrap64 (by omega) (by omega)
    have q5 : -2 ≤ n - ((r : Int) - 2) ∧ n - ((r : Int) - 2) ≤ 200 := by omega
    have hl := rowI_len (r - 2) ((n - (r - 2)) / 12) ((n - (r - 2)) % 12) 7
    rw [q1]
    apply X_loop_of
    · simp only [loopN, Tryz.f70, loopsOf, List.nil_append, List.append_nil, List.cons_append, List.getD_cons_succ, List.getD_cons_zero]; rfl
    simp [T54_eq, F64, F65, q2, q3, q4, q5]
    refine X_keep (loopI n (r - 2) ((n - (r - 2)) / 12) ((n - (r - 2)) % 12) (by omega) (by omega) 7 H es out (by omega) (by omega) hA ?_) ?_
    · intro H' out' hA'
      simp [q3, hA'.live]
      refine X_keep (ih H' _ out' (by omega) (by simp; omega) hA' (fun H' out' hA' => hx H' out' (by simpa [rowO] using hA'))) ?_
      simp
    · simp
/-- What Enharmonics answers. -/
def enhL (n : Int) : List (List PV) := rowO n 5
theorem enh_some : (List.range 128).all (fun n => !(rowO (n : Int) 5).isEmpty) = true := by kernel_rfl
theorem enh_ne {n : Int} (h : 0 ≤ n ∧ n ≤ 127) : enhL n ≠ [] := by
  have h1 := List.all_eq_true.1 enh_some n.toNat (by simp; omega)
  rw [show ((n.toNat : Nat) : Int) = n by omega] at h1
  intro e
  unfold enhL at e
  rw [e] at h1
  simp at h1
def enhR (n : Int) : SV := if 0 ≤ n ∧ n ≤ 127 then .tuple [.fresh 46 3 (enhL n), .i 0] else .tuple [.pv .nilSlice, .i 2]
theorem x54 (n : Int) : XFn Y T54 Tryz.f70 [.i n] [] (Is (enhR n)) := by
  unfold XFn Tryz.f70
  rw [enter_1 _ (by decide)]
  simp [-outR, -Int.not_lt]
  refine ⟨fun h => ?_, fun h => ⟨fun h' => ?_, fun h' => ?_⟩⟩
  · rw [enhR, if_neg (by omega)]; simp
  · rw [enhR, if_neg (by omega)]; simp
  · have hn : 0 ≤ n ∧ n ≤ 127 := by omega
    refine X_keep (loopO n hn 5 [] [] _ (by omega) (by simp) Acc.nil ?_) ?_
    · intro H' out' hA
      have e2 := enh_ne hn
      simp only [List.nil_append] at hA
      simp [-outR, hA.live]
      rw [enhR, if_pos hn]
      rcases hA with ⟨h0, _⟩ | ⟨_, k, v, rfl, hk⟩
      · exact absurd h0 e2
      · simp [hk, enhL]
    · simp
def F54 : List SV → Option SV
  | [.pv (.int .i64 n)] => some (enhR n)
  | _ => none
theorem meets54 (W0 : World) : OkAt W0 70 F54 := meets_fn env (tok54 W0) mixed Tryz.func70 (by kernel_rfl) (by kernel_rfl) fun args r h => by
  unfold F54 at h
  split at h
  · cases h; exact x54 _
  · cases h
end Go.Proofs.YtmmpjnjdddaldaaGreatDoor
