/- The reference's list of all note values, by the machine. -/
import Derived.Test.YtngapiffgoignaaDoorDurW
set_option linter.unusedSimpArgs false
set_option linter.unusedVariables false
set_option maxRecDepth 1000000
set_option maxHeartbeats 400000
namespace Go.Proofs.YtngapiffgoignaaDoor
open Go Go.Pm Go.RowKit
/-- The i-th note value in the program's order. -/
def Vn (i : Nat) : Int × Int := (((i / 4 : Nat) : Int) - 1, ((i % 4 : Nat) : Int))
theorem Vn_at (k d : Nat) (hd : d < 4) : Vn (4 * k + d) = ((k : Int) - 1, (d : Int)) := by
  unfold Vn
  have e1 : (4 * k + d) / 4 = k := by omega
  have e2 : (4 * k + d) % 4 = d := by omega
  rw [e1, e2]
theorem Vn_ok {i : Nat} (h : i < 40) : okV (Vn i).1 (Vn i).2 := by unfold Vn okV; simp only []; omega
theorem AV_ok {i : Nat} (h : i < 40) : okV (AV i).1 (AV i).2 := by unfold AV okV; simp only []; omega
/-- The rows of all note values, the longest first. -/
def cV (x : Int × Int) : List PV := [.int .i64 x.1, .int .i64 x.2]
def rowsA : List (List PV) := (List.range 40).map fun i => cV (AV i)
theorem rowsA_len : rowsA.length = 40 := rfl
theorem rowsA_at {i : Nat} (h : i < 40) : rowsA[i]? = some (cV (AV i)) := by simp [rowsA, h]
theorem rowsA_take {m : Nat} (h : m < 40) : rowsA.take (m + 1) = rowsA.take m ++ [cV (AV m)] := by
  rw [List.take_add_one, rowsA_at h]; rfl
/-- The reference's best value so far. -/
def bstep (m : Nat) (b : Int × Int) (i : Nat) : Int × Int :=
  if 0 < m ∧ tkZ (AV (m - 1)) ≤ tkZ (Vn i) then b else if b.1 = 99 ∨ tkZ b < tkZ (Vn i) then Vn i else b
def bst (m : Nat) : Nat → Int × Int
  | 0 => (99, 0)
  | i + 1 => bstep m (bst m i) i
theorem bst_ok (m : Nat) : ∀ i, i ≤ 40 → (bst m i).1 = 99 ∨ okV (bst m i).1 (bst m i).2
  | 0, _ => .inl rfl
  | i + 1, h => by
    unfold bst bstep
    split
    · exact bst_ok m i (by omega)
    · split
      · exact .inr (Vn_ok (by omega))
      · exact bst_ok m i (by omega)
theorem bst_all : ∀ m < 40, bst m 40 = AV m := by decide +kernel
end Go.Proofs.YtngapiffgoignaaDoor
set_option linter.unusedSimpArgs false
set_option linter.unusedVariables false
set_option maxRecDepth 1000000
set_option maxHeartbeats 400000
namespace Go.Proofs.YtngapiffgoignaaDoor
open Go Go.Pm Go.RowKit
noncomputable def T16 : FuncId → Option Pm.Spec := tab [(17, .pure false F38)]
theorem T16_eq (g : Nat) : T16 g = tab [(17, .pure false F38)] g := rfl
theorem F38_ok {l d : Int} (h : okV l d) : F38 [.agg [.pv (.int .i64 l), .pv (.int .i64 d)]] = some (.i (tkZ (l, d))) := by
  unfold F38; simp only []; rw [if_pos h]
theorem next_i {m : Nat} (h : m < 1000000) : IntKind.i64.wrap ((m : Int) + 1) = ((m + 1 : Nat) : Int) := by
  rw [show (m : Int) + 1 = ((m + 1 : Nat) : Int) by omega]; exact wrap64 (by omega) (by omega)
theorem loop16c {F : List Fr} {P : SV × List Blk → Prop} {rs : List ResultVar} (m : Nat) (hm : m < 40) (k : Nat) (hk : k < 10) (kb : Nat) (out : SV) : ∀ (r d : Nat) (H : List Blk), d + r = 4 →
    H[kb]? = some (.box (some 23) [.i (bst m (4 * k + d)).1, .i (bst m (4 * k + d)).2]) → Acc 23 2 H (rowsA.take m) out →
    (∀ H', H'[kb]? = some (.box (some 23) [.i (bst m (4 * (k + 1))).1, .i (bst m (4 * (k + 1))).2]) → Acc 23 2 H' (rowsA.take m) out →
      X Y T16 rs F (.exit 4) ⟨mk 54 .J [(1, out), (2, .i (m + 1 : Nat)), (3, .ptr kb 0), (4, .i ((k : Int) - 1))], H'⟩ P) →
    X Y T16 rs F (.loop (loopN Tryd.f16 2)) ⟨mk 54 .J [(1, out), (2, .i (m + 1 : Nat)), (3, .ptr kb 0), (4, .i ((k : Int) - 1)), (5, .i (d : Nat))], H⟩ P := by
  intro r
  induction r with
  | zero =>
    intro d H e hb hA hx
    have e1 : d = 4 := by omega
    subst e1
    apply X_loop_of
    · simp only [loopN, Tryd.f16, loopsOf, List.nil_append, List.append_nil, List.cons_append, List.getD_cons_succ, List.getD_cons_zero]; rfl
    simp
    refine X_keep (hx H hb hA) ?_
    simp
  | succ r ih =>
    intro d H e hb hA hx
    have hd : d < 4 := by omega
    have q2 : (d : Int) ≤ 3 := by omega
    have q3 := next_i (m := d) (by omega)
    have hv := Vn_at k d hd
    have hok : okV ((k : Int) - 1) (d : Int) := by have := Vn_ok (i := 4 * k + d) (by omega); rw [hv] at this; exact this
    have f1 := F38_ok hok
    have hlt := (List.getElem?_eq_some_iff.1 hb).1
    have g1 : ∀ b, (H ++ [b])[kb]? = some (.box (some 23) [.i (bst m (4 * k + d)).1, .i (bst m (4 * k + d)).2]) := fun b => by rw [List.getElem?_append_left hlt]; exact hb
    apply X_loop_of
    · simp only [loopN, Tryd.f16, loopsOf, List.nil_append, List.append_nil, List.cons_append, List.getD_cons_succ, List.getD_cons_zero]; rfl
    have hnext := fun H' (h1 : H'[kb]? = some (.box (some 23) [.i (bst m (4 * k + (d + 1))).1, .i (bst m (4 * k + (d + 1))).2])) (h2 : Acc 23 2 H' (rowsA.take m) out) => ih (d + 1) H' (by omega) h1 h2 hx
    have hstep : bst m (4 * k + (d + 1)) = bstep m (bst m (4 * k + d)) (4 * k + d) := rfl
    rw [hstep] at hnext
    have hbo := bst_ok m (4 * k + d) (by omega)
    unfold bstep at hnext
    rw [hv] at hnext
    generalize bst m (4 * k + d) = b at *
    obtain ⟨bl, bd⟩ := b
    simp only [] at hb g1 hbo hnext
    have gs : ∀ b b', (H ++ [b]).set kb b' = H.set kb b' ++ [b] := fun b b' => List.set_append_left _ _ hlt
    have gs2 : ∀ b b', (H.set kb b' ++ [b])[kb]? = some b' := fun b b' => by rw [List.getElem?_append_left (by simpa using hlt)]; simp [hlt]
    have hA2 : ∀ v, Acc 23 2 (H ++ [v]) (rowsA.take m) out := fun v => hA.more _
    have hA3 : ∀ v c, Acc 23 2 (H.set kb (.box (some 23) c) ++ [v]) (rowsA.take m) out := fun v c => (hA.box hb).more _
    rcases hA with ⟨hA1, rfl⟩ | ⟨hA1, kt, v, rfl, hkt⟩
    · have hm0 : m = 0 := by
        have := congrArg List.length hA1
        simp [rowsA_len] at this; omega
      subst hm0
      rcases hbo with rfl | hob
      · rw [if_neg (by simp), if_pos (.inl rfl)] at hnext
        simp [-Int.natCast_add, -Int.not_lt, -Int.not_le, q2, q3, T16_eq, f1, set_last, get_last, g1, gs]
        refine X_keep (hnext _ (gs2 _ _) (hA3 _ _)) ?_
        simp
      · have f2 := F38_ok hob
        have n99 : ¬ bl = 99 := by omega
        rw [if_neg (by simp)] at hnext
        simp [-Int.natCast_add, -Int.not_lt, -Int.not_le, q2, q3, T16_eq, f1, f2, n99, set_last, get_last, g1, gs]
        refine ⟨fun h => ?_, fun h => ?_⟩
        · rw [if_pos (.inr h)] at hnext
          refine X_keep (hnext _ (gs2 _ _) (hA3 _ _)) ?_
          simp
        · rw [if_neg (by intro h'; rcases h' with h' | h'; exact n99 h'; exact h h')] at hnext
          refine X_keep (hnext _ (g1 _) (hA2 _)) ?_
          simp
    · have hm1 : 0 < m := by
        rcases Nat.eq_zero_or_pos m with h | h
        · subst h; simp at hA1
        · exact h
      have hlenA : (rowsA.take m).length = m := by rw [List.length_take, rowsA_len]; omega
      have hat : (rowsA.take m)[m - 1]? = some (cV (AV (m - 1))) := by rw [List.getElem?_take, if_pos (by omega)]; exact rowsA_at (by omega)
      have fA := F38_ok (AV_ok (i := m - 1) (by omega))
      have c1 : (0 : Int) < (m : Int) := by omega
      have c2 : IntKind.i64.wrap ((m : Int) - 1) = ((m - 1 : Nat) : Int) := by rw [wrap64 (by omega) (by omega)]; omega
      have c3 : ((m - 1 : Nat) : Int).toNat = m - 1 := by omega
      have hat' : (rowsA.take m)[m - 1]? = some [.int .i64 (AV (m - 1)).1, .int .i64 (AV (m - 1)).2] := hat
      rcases hbo with rfl | hob
      · simp [-Int.natCast_add, -Int.not_lt, -Int.not_le, -getElem?_pos, List.getElem?_cons_zero, List.getElem?_cons_succ, q2, q3, T16_eq, f1, set_last, get_last, g1, gs, hlenA, hat', fA, hm1, c2, c3]
        refine ⟨fun h => ?_, fun h => ?_⟩
        · rw [if_pos ⟨hm1, h⟩] at hnext
          refine X_keep (hnext _ (g1 _) (hA2 _)) ?_
          simp
        · rw [if_neg (fun h' => h h'.2), if_pos (.inl rfl)] at hnext
          refine X_keep (hnext _ (gs2 _ _) (hA3 _ _)) ?_
          simp
      · have f2 := F38_ok hob
        have n99 : ¬ bl = 99 := by omega
        simp [-Int.natCast_add, -Int.not_lt, -Int.not_le, -getElem?_pos, List.getElem?_cons_zero, List.getElem?_cons_succ, q2, q3, T16_eq, f1, f2, n99, set_last, get_last, g1, gs, hlenA, hat', fA, hm1, c2, c3]
        refine ⟨fun h => ?_, fun h => ⟨fun h' => ?_, fun h' => ?_⟩⟩
        · rw [if_pos ⟨hm1, h⟩] at hnext
          refine X_keep (hnext _ (g1 _) (hA2 _)) ?_
          simp
        · rw [if_neg (fun h' => h h'.2), if_pos (.inr h')] at hnext
          refine X_keep (hnext _ (gs2 _ _) (hA3 _ _)) ?_
          simp
        · rw [if_neg (fun h' => h h'.2), if_neg (by intro h2; rcases h2 with h2 | h2; exact n99 h2; exact h' h2)] at hnext
          refine X_keep (hnext _ (g1 _) (hA2 _)) ?_
          simp
end Go.Proofs.YtngapiffgoignaaDoor
