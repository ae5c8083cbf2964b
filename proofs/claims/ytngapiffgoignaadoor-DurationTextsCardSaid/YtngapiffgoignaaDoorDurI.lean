/- Decompose: the sizes and the table of the fewest, by the machine. -/
import Derived.Test.YtngapiffgoignaaDoorDurH
set_option linter.unusedSimpArgs false
set_option linter.unusedVariables false
set_option maxRecDepth 1000000
set_option maxHeartbeats 400000
namespace Go.Proofs.YtngapiffgoignaaDoor
open Go Go.Pm Go.RowKit
def F13 : List SV → Option SV
  | [] => some (.pv (.slice 2 rowsA))
  | _ => none
noncomputable def T19 : FuncId → Option Pm.Spec := tab [(13, .pure false F13), (38, .pure false F38), (39, .heap (arunAll Y T39 Tryd.f39))]
theorem T19_eq (g : Nat) : T19 g = tab [(13, .pure false F13), (38, .pure false F38), (39, .heap (arunAll Y T39 Tryd.f39))] g := rfl
theorem acc_cells {e : TypeId} {s : Nat} {H : List Blk} {es : List (List PV)} {out : SV} (h : Acc e s H es out) : cellsOf out = some [out] := by
  rcases h with ⟨_, rfl⟩ | ⟨_, k, v, rfl, _⟩ <;> rfl
theorem app58 {H : List Blk} {l : List Int} {out : SV} (x : Int) (hl : l.length ≤ 100000) (h : Pm.Acc 3 1 H (rowI l) out) :
    ∃ out' H', aAppend Y H 58 58 out (.tight 1 [[.int .i64 x]]) = some (out', H') ∧ Pm.Acc 3 1 H' (rowI (l ++ [x])) out' ∧ (∀ {t0 : Option TypeId} (k : Nat) (cs : List SV), H[k]? = some (.box t0 cs) → H'[k]? = some (.box t0 cs)) := by
  obtain ⟨out', H', a, b, -, c⟩ := Acc.app (Y := Y) (t := 58) (e := 3) (x := [PV.int .i64 x]) rfl Y_3 (by decide) (by decide) (by decide) (by rw [rowI_len]; simp [maxRow]; omega) h
  exact ⟨out', H', a, by simpa [rowI] using b, c⟩
theorem sz_quo {i : Nat} (h : i < 40) : Int.tdiv (tkZ (AV i)) 945 = (sz i : Int) := by
  rw [tk_sz i h, Int.mul_tdiv_cancel_left _ (by decide)]
theorem szL_take {m : Nat} (h : m < 40) : szL.take (m + 1) = szL.take m ++ [(sz m : Int)] := by
  rw [List.take_add_one, szL_at h]; rfl
theorem wrap_sz (i : Nat) : IntKind.i64.wrap ((sz i : Nat) : Int) = (sz i : Nat) := by have := sz_le i; exact wrap64 (by omega) (by omega)
theorem loop19a {F : List Fr} {P : SV × List Blk → Prop} {rs : List ResultVar} (n : Int) : ∀ (r i : Nat) (H : List Blk) (out : SV), i + r = 40 → H[0]? = some (.box (some 3) [.i n]) → Acc 3 1 H (rowI (szL.take i)) out →
    (∀ H' out', H'[0]? = some (.box (some 3) [.i n]) → Acc 3 1 H' (rowI szL) out' → X Y T19 rs F (.exit 1) ⟨mk 117 .J [(1, .ptr 0 0), (4, .pv (.slice 2 rowsA)), (5, out')], H'⟩ P) →
    X Y T19 rs F (.loop (loopN Tryd.f19 0)) ⟨mk 117 .J [(1, .ptr 0 0), (4, .pv (.slice 2 rowsA)), (5, out), (29, .pv (.slice 2 rowsA)), (30, .i 40), (31, .i (i : Nat))], H⟩ P := by
  have hl : rowsA.length = 40 := rfl
  intro r
  induction r with
  | zero =>
    intro i H out e hb hA hx
    have e1 : i = 40 := by omega
    subst e1
    apply X_loop_of
    · simp only [loopN, Tryd.f19, loopsOf, List.nil_append, List.append_nil, List.cons_append, List.getD_cons_succ, List.getD_cons_zero]; rfl
    simp
    refine X_keep (hx H out hb hA) ?_
    simp
  | succ r ih =>
    intro i H out e hb hA hx
    have hi : i < 40 := by omega
    have q3 := next_i (m := i) (by omega)
    have hat : rowsA[i]? = some [.int .i64 (AV i).1, .int .i64 (AV i).2] := rowsA_at hi
    have f1 := F38_ok (AV_ok hi)
    have s1 := sz_quo hi
    have s2 := wrap_sz i
    have c3 : ((i : Nat) : Int).toNat = i := by omega
    have c4 : ((i : Nat) : Int) < 40 := by omega
    obtain ⟨out', H2, a1, a2, a3⟩ := app58 (sz i : Int) (by rw [List.length_take]; simp [szL]; omega) (hA.more [.box (some 23) [.i (AV i).1, .i (AV i).2]])
    rw [← szL_take hi] at a2
    have hb' : (H ++ [.box (some 23) [.i (AV i).1, .i (AV i).2]])[0]? = some (.box (some 3) [.i n]) := by rw [List.getElem?_append_left (List.getElem?_eq_some_iff.1 hb).1]; exact hb
    apply X_loop_of
    · simp only [loopN, Tryd.f19, loopsOf, List.nil_append, List.append_nil, List.cons_append, List.getD_cons_succ, List.getD_cons_zero]; rfl
    simp [-Int.natCast_add, -Int.not_lt, -Int.not_le, -aAppend, -getElem?_pos, List.getElem?_cons_zero, List.getElem?_cons_succ, T19_eq, q3, hat, f1, s1, s2, c3, c4, hi, set_last, get_last, hA.live, a1, a2.live]
    refine X_keep (ih (i + 1) H2 out' (by omega) (a3 _ _ hb') a2 hx) ?_
    simp
end Go.Proofs.YtngapiffgoignaaDoor
