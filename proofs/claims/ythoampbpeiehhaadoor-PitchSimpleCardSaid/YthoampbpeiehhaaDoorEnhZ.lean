/- The law of enharmonic pitches, by the machine. -/
import Derived.Test.YthoampbpeiehhaaDoorEnhY
set_option linter.unusedSimpArgs false
set_option linter.unusedVariables false
set_option maxRecDepth 1000000
set_option maxHeartbeats 4000000
namespace Go.Proofs.YthoampbpeiehhaaDoor
open Go.Pm Go.RowKit
noncomputable def T3 : FuncId → Option Pm.Spec := tab [(12, .pure true F12), (13, .pure false F13), (14, .pure true F14)]
theorem T3_eq (g : Nat) : T3 g = tab [(12, .pure true F12), (13, .pure false F13), (14, .pure true F14)] g := rfl
theorem tok3 {W0 : World} (L : Laid W0) : TOk Tryd.prog W0 T3 := tok_cons (meets12 W0) (tok_cons (meets13 L) (tok_cons (meets14 W0) tok_nil))
theorem refE_p (n : Int) : Pitches (refE n) := fun x hx => allL_p x ((List.mem_filter.1 hx).1)
theorem refE_len (n : Int) : (refE n).length ≤ 385 := Nat.le_trans (List.length_filter_le _ _) allL_len
theorem loop3 {rs : List ResultVar} {F : List Fr} {P : SV × List Blk → Prop} (k k' : Nat) (L : List (List PV)) (hL : Pitches L) (hN : L.length ≤ 385) (H : List Blk) : ∀ (r m : Nat), m + r = L.length →
    (X Y T3 rs F (.exit 0) ⟨mk 53 .J [], H⟩ P) →
    X Y T3 rs F (.loop (loopN Tryd.f3 0)) ⟨mk 53 .J [(3, .own k 0 3 L), (5, .own k' 0 3 L), (6, .i (m : Nat))], H⟩ P := by
  intro r
  induction r with
  | zero =>
    intro m h1 hx
    have e1 : m = L.length := by omega
    subst e1
    apply X_loop_of
    · simp only [loopN, Tryd.f3, loopsOf, List.nil_append, List.append_nil, List.cons_append, List.getD_cons_succ, List.getD_cons_zero]; rfl
    simp
    refine X_keep hx ?_
    simp
  | succ r ih =>
    intro m h1 hx
    have hm : m < L.length := by omega
    have hg : L[m]? = some L[m] := List.getElem?_eq_getElem hm
    obtain ⟨qs, qa, qo, e, hv⟩ := hL L[m] (List.getElem_mem hm)
    rw [e] at hg
    have q2 : ((m : Int) < (L.length : Int)) := by omega
    have q3 : IntKind.i64.wrap ((m : Int) + 1) = ((m + 1 : Nat) : Int) := by rw [show ((m : Int) + 1) = ((m + 1 : Nat) : Int) by omega]; exact w64_id (by omega) (by omega)
    apply X_loop_of
    · simp only [loopN, Tryd.f3, loopsOf, List.nil_append, List.append_nil, List.cons_append, List.getD_cons_succ, List.getD_cons_zero]; rfl
    simp [-Int.natCast_add, q2, q3, hg]
    refine X_keep (ih (m + 1) (by omega) hx) ?_
    simp
theorem x3 (n : Int) : XFn Y T3 Tryd.f3 [.i n] [] (Is (.bool true)) := by
  unfold XFn Tryd.f3
  rw [enter_1 _ (by decide)]
  by_cases hn : 0 ≤ n ∧ n ≤ 127
  · have h1 : ¬ n < 0 := by omega
    have h2 : ¬ 127 < n := by omega
    have h3 := (enh_row hn).2
    simp [T3_eq, F12, F13, F14, enhR, hn, h1, h2, h3, -Int.not_lt]
    refine X_keep (loop3 0 1 (refE n) (refE_p n) (refE_len n) _ (refE n).length 0 (by omega) ?_) ?_
    · simp
    · simp
  · by_cases h1 : n < 0
    · simp [T3_eq, F12, F13, F14, enhR, hn, h1, -Int.not_lt]
    · have h2 : 127 < n := by omega
      simp [T3_eq, F12, F13, F14, enhR, hn, h1, h2, -Int.not_lt]

theorem run3 (n : Int) (_h : -9223372036854775808 ≤ n ∧ n ≤ 9223372036854775807) : XFn Y T3 Tryd.f3 [.i n] [] (Is (.bool true)) := x3 n
end Go.Proofs.YthoampbpeiehhaaDoor
