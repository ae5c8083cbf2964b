/- The reference's list of all note values, whole. -/
import Derived.Test.YtngapiffgoignaaDoorDurB
set_option linter.unusedSimpArgs false
set_option linter.unusedVariables false
set_option maxRecDepth 1000000
set_option maxHeartbeats 400000
namespace Go.Proofs.YtngapiffgoignaaDoor
open Go Go.Pm Go.RowKit
theorem loop16b {F : List Fr} {P : SV × List Blk → Prop} {rs : List ResultVar} (m : Nat) (hm : m < 40) (kb : Nat) (out : SV) : ∀ (r k : Nat) (H : List Blk), k + r = 10 →
    H[kb]? = some (.box (some 23) [.i (bst m (4 * k)).1, .i (bst m (4 * k)).2]) → Acc 23 2 H (rowsA.take m) out →
    (∀ H', H'[kb]? = some (.box (some 23) [.i (bst m 40).1, .i (bst m 40).2]) → Acc 23 2 H' (rowsA.take m) out →
      X Y T16 rs F (.exit 2) ⟨mk 54 .J [(1, out), (2, .i (m + 1 : Nat)), (3, .ptr kb 0)], H'⟩ P) →
    X Y T16 rs F (.loop (loopN Tryd.f16 1)) ⟨mk 54 .J [(1, out), (2, .i (m + 1 : Nat)), (3, .ptr kb 0), (4, .i ((k : Int) - 1))], H⟩ P := by
  intro r
  induction r with
  | zero =>
    intro k H e hb hA hx
    have e1 : k = 10 := by omega
    subst e1
    apply X_loop_of
    · simp only [loopN, Tryd.f16, loopsOf, List.nil_append, List.append_nil, List.cons_append, List.getD_cons_succ, List.getD_cons_zero]; rfl
    simp
    refine X_keep (hx H hb hA) ?_
    simp
  | succ r ih =>
    intro k H e hb hA hx
    have q2 : (k : Int) - 1 ≤ 8 := by omega
    have q3 : IntKind.i64.wrap ((k : Int) - 1 + 1) = ((k + 1 : Nat) : Int) - 1 := by rw [show (k : Int) - 1 + 1 = ((k + 1 : Nat) : Int) - 1 by omega]; exact wrap64 (by omega) (by omega)
    apply X_loop_of
    · simp only [loopN, Tryd.f16, loopsOf, List.nil_append, List.append_nil, List.cons_append, List.getD_cons_succ, List.getD_cons_zero]; rfl
    simp [-Int.natCast_add, -Int.not_lt, -Int.not_le, q2]
    refine X_keep (loop16c m hm k (by omega) kb out 4 0 H (by omega) hb hA fun H' h1 h2 => ?_) ?_
    · simp [-Int.natCast_add, -Int.not_lt, -Int.not_le, q3]
      refine X_keep (ih (k + 1) H' (by omega) h1 h2 hx) ?_
      simp; exact wrap64 (by omega) (by omega)
    · simp
theorem app24 {H : List Blk} {es : List (List PV)} {out : SV} (x : Int × Int) (hl : es.length ≤ 100000) (h : Pm.Acc 23 2 H es out) :
    ∃ out' H', aAppend Y H 24 24 out (.tight 2 [[.int .i64 x.1, .int .i64 x.2]]) = some (out', H') ∧ Pm.Acc 23 2 H' (es ++ [cV x]) out' ∧ (∀ {t0 : Option TypeId} (k : Nat) (cs : List SV), H[k]? = some (.box t0 cs) → H'[k]? = some (.box t0 cs)) := by
  obtain ⟨out', H', a, b, -, c⟩ := Acc.app (Y := Y) (t := 24) (e := 23) (x := cV x) rfl Y_23 (by decide) (by decide) (by decide) (by simp [maxRow]; omega) h
  exact ⟨out', H', a, b, c⟩
theorem loop16a {F : List Fr} {P : SV × List Blk → Prop} {rs : List ResultVar} : ∀ (r m : Nat) (H : List Blk) (out : SV), m + r = 40 → Acc 23 2 H (rowsA.take m) out →
    (∀ H' out', Acc 23 2 H' rowsA out' → X Y T16 rs F (.exit 0) ⟨mk 54 .J [(1, out')], H'⟩ P) →
    X Y T16 rs F (.loop (loopN Tryd.f16 0)) ⟨mk 54 .J [(1, out), (2, .i (m + 1 : Nat))], H⟩ P := by
  intro r
  induction r with
  | zero =>
    intro m H out e hA hx
    have e1 : m = 40 := by omega
    subst e1
    have hA' : Acc 23 2 H rowsA out := hA
    apply X_loop_of
    · simp only [loopN, Tryd.f16, loopsOf, List.nil_append, List.append_nil, List.cons_append, List.getD_cons_succ, List.getD_cons_zero]; rfl
    simp
    refine X_keep (hx H out hA') ?_
    simp
  | succ r ih =>
    intro m H out e hA hx
    have hm : m < 40 := by omega
    have q2 : ((m + 1 : Nat) : Int) ≤ 40 := by omega
    have q3 := next_i (m := m + 1) (by omega)
    apply X_loop_of
    · simp only [loopN, Tryd.f16, loopsOf, List.nil_append, List.append_nil, List.cons_append, List.getD_cons_succ, List.getD_cons_zero]; rfl
    simp [-Int.natCast_add, -Int.not_lt, -Int.not_le, q2, set_last]
    refine X_keep (loop16b m hm H.length out 10 0 (H ++ [.box (some 23) [.i 99, .i 0]]) (by omega) (by simp [bst]) (hA.more _) fun H' h1 h2 => ?_) ?_
    · obtain ⟨out', H2, a1, a2, a3⟩ := app24 (bst m 40) (by rw [List.length_take]; omega) h2
      rw [bst_all m hm, ← rowsA_take hm] at a2
      have h3 := ih (m + 1) H2 out' (by omega) a2 hx
      simp [-Int.natCast_add, -Int.not_lt, -Int.not_le, -aAppend, q3, h1, h2.live, a1, a2.live]
      refine X_keep h3 ?_
      simp
    · simp
theorem x16 : XFn Y T16 Tryd.f16 [] [] (Is (.fresh 23 2 rowsA)) := by
  unfold XFn Tryd.f16
  rw [enter_mk0]
  simp [-outR]
  refine X_keep (loop16a 40 0 [] (.pv .nilSlice) (by omega) (.inl ⟨rfl, rfl⟩) fun H' out' h => ?_) ?_
  · have hne : rowsA ≠ [] := by intro h; have := congrArg List.length h; simp [rowsA_len] at this
    have ho := h.outR
    rw [if_neg hne] at ho
    simp [-outR, h.live, ho]
  · simp
def F16 : List SV → Option SV
  | [] => some (.fresh 23 2 rowsA)
  | _ => none
theorem meets16 (W0 : World) : OkAt W0 16 F16 := meets_fn env (tok_cons (meets17 W0) tok_nil) mixed Tryd.func16 (by kernel_rfl) (by kernel_rfl) fun args r h => by
  unfold F16 at h
  split at h
  · cases h; exact x16
  · cases h
/-- The walks' order and the machine's. -/
theorem V_Vn (i : Fin 40) : V i = Vn i.val := rfl
theorem mem_take_idx {i : Nat} {y : Fin 40} (h : y ∈ idx.take i) : y.val < i := by
  obtain ⟨j, hj⟩ := List.getElem?_of_mem h
  rw [List.getElem?_take] at hj
  split at hj
  · rename_i hlt
    have hj' := (List.getElem?_eq_some_iff.1 hj)
    obtain ⟨h1, h2⟩ := hj'
    simp [idx] at h2
    have : y.val = j := by rw [← h2]
    omega
  · cases hj
theorem tk_sz : ∀ i < 40, tkZ (AV i) = 945 * (sz i : Int) := by decide +kernel
theorem Vn_AV : ∀ i < 40, Vn (i / 4 * 4 + (3 - i % 4)) = AV i := by decide +kernel
theorem tk_inj {i j : Nat} (hi : i < 40) (hj : j < 40) (h : tkZ (AV i) = tkZ (AV j)) : i = j := by
  rw [tk_sz i hi, tk_sz j hj] at h
  exact sz_inj hi hj (by omega)
/-- A valid value's place in the list. -/
def ixV (l d : Int) : Nat := (l + 1).toNat * 4 + (3 - d).toNat
theorem ix_lt {l d : Int} (h : okV l d) : ixV l d < 40 := by unfold ixV; unfold okV at h; omega
theorem AV_ix {l d : Int} (h : okV l d) : AV (ixV l d) = (l, d) := by
  unfold okV at h
  unfold AV ixV
  rw [show ((l + 1).toNat * 4 + (3 - d).toNat) / 4 = (l + 1).toNat by omega, show ((l + 1).toNat * 4 + (3 - d).toNat) % 4 = (3 - d).toNat by omega]
  ext <;> simp <;> omega
theorem V_AV (i : Fin 40) : V i = AV (i.val / 4 * 4 + (3 - i.val % 4)) := by
  have : ∀ i : Fin 40, V i = AV (i.val / 4 * 4 + (3 - i.val % 4)) := by decide +kernel
  exact this i
/-- The search, by the place in the list. -/
theorem find_at {i : Nat} (hi : i < 40) : findZ (tkZ (AV i)) = (AV i, 0) := by
  have : ∀ j < 40, findZ (tkZ (AV j)) = (AV j, 0) := by decide +kernel
  exact this i hi
theorem find_non {n : Int} (h : ∀ i < 40, tkZ (AV i) ≠ n) : findZ n = ((0, 0), 17) := find_no fun y _ => by
  rw [V_AV]; exact h _ (by have := y.isLt; omega)
end Go.Proofs.YtngapiffgoignaaDoor
