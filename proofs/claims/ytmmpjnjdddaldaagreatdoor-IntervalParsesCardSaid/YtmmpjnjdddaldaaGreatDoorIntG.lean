/- slices.MinFunc over a closure that looks into its captures, by the machine. -/
import Derived.Test.YtmmpjnjdddaldaaGreatDoorIntF
set_option linter.unusedSimpArgs false
set_option linter.unusedVariables false
set_option maxRecDepth 1000000
set_option maxHeartbeats 400000
namespace Go.Proofs.YtmmpjnjdddaldaaGreatDoor
open Go Go.Pm Go.RowKit
noncomputable def T39 : FuncId → Option Pm.Spec := tab [(2, .read F0), (47, .read F40)]
theorem T39_eq (g : Nat) : T39 g = tab [(2, .read F0), (47, .read F40)] g := rfl
abbrev posP (p : P) : Int := posZ p.1 p.2.2
/-- The first of the least. -/
def minZ (g : Int) : P → List P → P
  | m, [] => m
  | m, q :: r => minZ g (if cmpZ (posP q) (posP m) g < 0 then q else m) r
theorem loop39 {F : List Fr} {Q : SV × List Blk → Prop} {rs : List ResultVar} {H : List Blk} (l : List P) (hl : l.length ≤ 12) (ho : okP l = true) (g : Int) (hg : -1000 ≤ g ∧ g ≤ 1000) (k j : Nat) (hk : H[k]? = some (.box [.clo 44 [.ptr j 0]])) (hj : H[j]? = some (.box [.i g])) : ∀ (r i : Nat) (m : P), i + r = l.length → inR m.1 m.2.1 m.2.2 →
    X Y T39 rs F (.exit 0) ⟨mk 33 .J [(4, .ptr H.length 0), (5, .ptr (H.length + 1) 0)], H ++ [.box [.i 0, .i 0, .i 0], .box [.i (minZ g m (l.drop i)).1, .i (minZ g m (l.drop i)).2.1, .i (minZ g m (l.drop i)).2.2]]⟩ Q →
    X Y T39 rs F (.loop (loopN Tryz.f46 0)) ⟨mk 33 .J [(0, .pv (.slice 3 (rowP l))), (1, .clo 47 [.ptr k 0]), (4, .ptr H.length 0), (5, .ptr (H.length + 1) 0), (6, .i (i : Nat))], H ++ [.box [.i 0, .i 0, .i 0], .box [.i m.1, .i m.2.1, .i m.2.2]]⟩ Q := by
  have g1 : ∀ (b0 b1 : Blk), (H ++ [b0, b1])[H.length + 1]? = some b1 := fun b0 b1 => by rw [List.getElem?_append_right (by omega)]; simp
  have g2 : ∀ (b0 b1 b : Blk), (H ++ [b0, b1]).set (H.length + 1) b = H ++ [b0, b] := fun b0 b1 b => by rw [List.set_append_right _ _ (by omega)]; simp
  have hk' : ∀ b, (H ++ b)[k]? = some (.box [.clo 44 [.ptr j 0]]) := fun b => by
    rw [List.getElem?_append_left (List.getElem?_eq_some_iff.1 hk).1]; exact hk
  have hj' : ∀ b, (H ++ b)[j]? = some (.box [.i g]) := fun b => by
    rw [List.getElem?_append_left (List.getElem?_eq_some_iff.1 hj).1]; exact hj
  intro r
  induction r with
  | zero =>
    intro i m e hm hx
    have q2 : ¬ (i : Int) < (l.length : Int) := by omega
    rw [List.drop_eq_nil_of_le (by omega)] at hx
    apply X_loop_of
    · simp only [loopN, Tryz.f46, loopsOf, List.nil_append, List.append_nil, List.cons_append, List.getD_cons_succ, List.getD_cons_zero]; rfl
    simp [-Int.not_lt, -Int.not_le, rowP_len, q2]
    refine X_keep hx ?_
    simp
  | succ r ih =>
    intro i m e hm hx
    have hil : i < l.length := by omega
    have q2 : (i : Int) < (l.length : Int) := by omega
    have q3 := next_i (m := i) (by omega)
    have r1 := rowP_at hil
    have o1 : inR (l.getD i (0, 0, 0)).1 (l.getD i (0, 0, 0)).2.1 (l.getD i (0, 0, 0)).2.2 := by
      have := List.all_eq_true.1 ho (l.getD i (0, 0, 0)) (by simp [hil])
      simpa using this
    have e1 : l.drop i = l.getD i (0, 0, 0) :: l.drop (i + 1) := by rw [List.drop_eq_getElem_cons hil]; simp [hil]
    rw [e1, minZ] at hx
    generalize l.getD i (0, 0, 0) = p at *
    obtain ⟨s, a, o⟩ := p
    obtain ⟨s', a', o'⟩ := m
    simp only [posP] at o1 hm hx r1
    have hF : F40 [.agg [.i s, .i a, .i o], .agg [.i s', .i a', .i o'], .tuple [.clo 44 [.tuple [.i g]]]] = some (.int .i64 (cmpZ (posZ s o) (posZ s' o') g)) := by
      simp only [F40]; rw [if_pos ⟨trivial, o1, hm, hg⟩]
    have gz : ∀ {α : Type} (b : α) (l : List α), (b :: l)[0]? = some b := fun _ _ => rfl
    generalize cmpZ (posZ s o) (posZ s' o') g = d at *
    apply X_loop_of
    · simp only [loopN, Tryz.f46, loopsOf, List.nil_append, List.append_nil, List.cons_append, List.getD_cons_succ, List.getD_cons_zero]; rfl
    by_cases hd : d < 0
    · rw [if_pos hd] at hx
      simp [-Int.natCast_add, -Int.not_lt, -Int.not_le, -getElem?_pos, q2, q3, r1, rowP_len, T39_eq, g1, g2, hk', hj', hF, hd, gz]
      refine X_keep (ih (i + 1) (s, a, o) (by omega) o1 hx) ?_
      simp [-Int.natCast_add]
    · rw [if_neg hd] at hx
      simp [-Int.natCast_add, -Int.not_lt, -Int.not_le, -getElem?_pos, q2, q3, r1, rowP_len, T39_eq, g1, g2, hk', hj', hF, hd, gz]
      refine X_keep (ih (i + 1) (s', a', o') (by omega) hm hx) ?_
      simp [-Int.natCast_add]
end Go.Proofs.YtmmpjnjdddaldaaGreatDoor
