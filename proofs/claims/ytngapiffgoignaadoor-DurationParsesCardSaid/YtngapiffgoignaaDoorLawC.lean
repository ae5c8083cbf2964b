/- The reference's Decompose by the machine, and the law of Decompose. -/
import Derived.Test.YtngapiffgoignaaDoorLawA
set_option linter.unusedSimpArgs false
set_option linter.unusedVariables false
set_option maxRecDepth 1000000
set_option maxHeartbeats 1000000
namespace Go.Proofs.YtngapiffgoignaaDoor
open Go Go.Pm Go.RowKit
/-- The table under way: k sums are done, the next one stands at b. -/
def tbC (N k : Nat) : List SV := (fwt k).map SV.i ++ List.replicate (N - k) (.i 0)
def tbB (N k : Nat) (b : Int) : List SV := (fwt k).map SV.i ++ .i b :: List.replicate (N - k - 1) (.i 0)
theorem tbC_len {N k : Nat} (h : k ≤ N) : (tbC N k).length = N + 1 := by simp [tbC, fwt_len]; omega
theorem tbB_len {N k : Nat} (h : k < N) (b : Int) : (tbB N k b).length = N + 1 := by simp [tbB, fwt_len]; omega
theorem tbC_set {N k : Nat} (h : k < N) (b : Int) : (tbC N k).set (k + 1) (.i b) = tbB N k b := by
  unfold tbC tbB
  rw [List.set_append_right _ _ (by simp [fwt_len])]
  simp only [List.length_map, fwt_len, Nat.sub_self]
  obtain ⟨m, hm⟩ : ∃ m, N - k = m + 1 := ⟨N - k - 1, by omega⟩
  rw [hm, List.replicate_succ, List.set_cons_zero]
  rfl
theorem tbB_set {N k : Nat} (b c : Int) : (tbB N k b).set (k + 1) (.i c) = tbB N k c := by
  unfold tbB
  rw [List.set_append_right _ _ (by simp [fwt_len])]
  simp [fwt_len]
theorem tbB_at {N k : Nat} (b : Int) : (tbB N k b)[k + 1]? = some (.i b) := by
  unfold tbB
  rw [List.getElem?_append_right (by simp [fwt_len])]
  simp [fwt_len]
theorem tbB_old {N k j : Nat} (b : Int) (h : j ≤ k) : (tbB N k b)[j]? = some (.i (fw j)) := by
  unfold tbB
  rw [List.getElem?_append_left (by simp [fwt_len]; omega), List.getElem?_map, fwt_get h]; rfl
theorem tbC_old {N k j : Nat} (h : j ≤ k) : (tbC N k)[j]? = some (.i (fw j)) := by
  unfold tbC
  rw [List.getElem?_append_left (by simp [fwt_len]; omega), List.getElem?_map, fwt_get h]; rfl
theorem tbB_done {N k : Nat} : tbB N k (bestB fw (k + 1) 40) = tbC N (k + 1) := by
  have ht : fwt (k + 1) = fwt k ++ [bestB fw (k + 1) 40] := by
    simp only [fwt]
    rw [bestB_congr (f := fun j => (fwt k).getD j (-1)) (g := fw) (fun j hj => fwt_getD (by omega)) 40]
  unfold tbB tbC
  rw [ht, List.map_append, List.append_assoc, show N - k - 1 = N - (k + 1) by omega]; rfl
noncomputable def T27 : FuncId → Option Pm.Spec := tab [(16, .pure false F16), (17, .pure false F38)]
theorem T27_eq (g : Nat) : T27 g = tab [(16, .pure false F16), (17, .pure false F38)] g := rfl
theorem loop27c {F : List Fr} {P : SV × List Blk → Prop} {rs : List ResultVar} {N kk : Nat} (hkk : kk < N) (hN : N ≤ 8192)
    (hx : X Y T27 rs F (.exit 2) ⟨mk 133 .J [(2, .pv .nilSlice), (4, .pv (.slice 2 rowsA)), (5, .i N), (6, .bsl 0 0 (N + 1) 1), (7, .i (kk + 1 : Nat))], [.box none (tbC N (kk + 1))]⟩ P) : ∀ (r m : Nat), m + r = 40 →
    X Y T27 rs F (.loop (loopN Tryd.f27 1)) ⟨mk 133 .J [(2, .pv .nilSlice), (4, .pv (.slice 2 rowsA)), (5, .i N), (6, .bsl 0 0 (N + 1) 1), (7, .i (kk + 1 : Nat)), (8, .i (m : Nat))], [.box none (tbB N kk (bestB fw (kk + 1) m))]⟩ P := by
  have hl : rowsA.length = 40 := rfl
  intro r
  induction r with
  | zero =>
    intro m e
    have e1 : m = 40 := by omega
    subst e1
    rw [tbB_done]
    apply X_loop_of
    · simp only [loopN, Tryd.f27, loopsOf, List.nil_append, List.append_nil, List.cons_append, List.getD_cons_succ, List.getD_cons_zero]; rfl
    simp [hl]
    refine X_keep hx ?_
    simp
  | succ r ih =>
    intro m e
    have hm : m < 40 := by omega
    have c4 : ((m : Nat) : Int) < 40 := by omega
    have c3 : ((m : Nat) : Int).toNat = m := by omega
    have q3 := next_i (m := m) (by omega)
    have h1 := sz_pos m
    have hs : bestB fw (kk + 1) (m + 1) = stepB fw (kk + 1) (bestB fw (kk + 1) m) m := rfl
    have hih := ih (m + 1) (by omega)
    rw [hs] at hih
    unfold stepB at hih
    have bu := bestB_up (k := kk + 1) m
    have bg := bestB_ge (f := fw) (k := kk + 1) m
    generalize bestB fw (kk + 1) m = best at *
    have hat : rowsA[m]? = some [.int .i64 (AV m).1, .int .i64 (AV m).2] := rowsA_at hm
    have f1 := F38_ok (AV_ok hm)
    have s1 := sz_quo hm
    have s2 := wrap_sz m
    have t1 := tbB_at (N := N) (k := kk) best
    have t2 := fun c => tbB_set (N := N) (k := kk) best c
    have hlen := tbB_len hkk best
    have k1 : ((kk + 1 : Nat) : Int).toNat = kk + 1 := by omega
    have k2 : kk + 1 < N + 1 := by omega
    have k3 : ((kk + 1 : Nat) : Int) < ((N + 1 : Nat) : Int) := by omega
    have k4 : (0 : Int) ≤ ((kk + 1 : Nat) : Int) := by omega
    have k5 : kk + 1 ≤ N := by omega
    apply X_loop_of
    · simp only [loopN, Tryd.f27, loopsOf, List.nil_append, List.append_nil, List.cons_append, List.getD_cons_succ, List.getD_cons_zero]; rfl
    by_cases hle : sz m ≤ kk + 1
    · have f2 := tbB_old (N := N) best (show kk + 1 - sz m ≤ kk by omega)
      have c1 : ((sz m : Nat) : Int) ≤ (kk + 1 : Nat) := by omega
      have w1 : IntKind.i64.wrap (((kk + 1 : Nat) : Int) - (sz m : Nat)) = ((kk + 1 - sz m : Nat) : Int) := by rw [wrap64 (by omega) (by omega)]; omega
      have c2 : ((kk + 1 - sz m : Nat) : Int).toNat = kk + 1 - sz m := by omega
      have c5 : kk + 1 - sz m < N + 1 := by omega
      have g1 := fw_ge (kk + 1 - sz m)
      have g2 := fw_up (kk + 1 - sz m)
      have w2 : IntKind.i64.wrap (fw (kk + 1 - sz m) + 1) = fw (kk + 1 - sz m) + 1 := wrap64 (by omega) (by omega)
      generalize fw (kk + 1 - sz m) = fq at *
      simp [-Int.natCast_add, -Int.not_lt, -Int.not_le, -getElem?_pos, List.getElem?_cons_zero, List.getElem?_cons_succ, T27_eq, hl, hat, f1, s1, s2, q3, c4, hm, c3, hle, c1, w1, c2, c5, f2, w2, t1, t2, hlen, k1, k2, k3, k4, k5]
      refine ⟨fun h1 => ⟨fun h2 => ?_, fun h2 => ⟨fun h3 => ?_, fun h3 => ?_⟩⟩, fun h1 => ?_⟩
      · rw [if_pos ⟨hle, h1, .inl h2⟩] at hih
        refine X_keep hih ?_
        simp
      · rw [if_pos ⟨hle, h1, .inr h3⟩] at hih
        refine X_keep hih ?_
        simp
      · rw [if_neg (by intro h; rcases h.2.2 with h | h; exact h2 h; exact h3 h)] at hih
        refine X_keep hih ?_
        simp
      · rw [if_neg (fun h => h1 h.2.1)] at hih
        refine X_keep hih ?_
        simp
    · have c1 : ¬ ((sz m : Nat) : Int) ≤ (kk + 1 : Nat) := by omega
      rw [if_neg (fun h => hle h.1)] at hih
      simp [-Int.natCast_add, -Int.not_lt, -Int.not_le, -getElem?_pos, List.getElem?_cons_zero, List.getElem?_cons_succ, T27_eq, hl, hat, f1, s1, s2, q3, c4, hm, c3, hle, c1, t1, t2, hlen, k1, k2, k3, k4, k5]
      refine X_keep hih ?_
      simp
theorem loop27b {F : List Fr} {P : SV × List Blk → Prop} {rs : List ResultVar} {N : Nat} (hN : N ≤ 8192)
    (hx : X Y T27 rs F (.exit 0) ⟨mk 133 .J [(2, .pv .nilSlice), (4, .pv (.slice 2 rowsA)), (5, .i N), (6, .bsl 0 0 (N + 1) 1)], [.box none (tbC N N)]⟩ P) : ∀ (r kk : Nat), kk + r = N →
    X Y T27 rs F (.loop (loopN Tryd.f27 0)) ⟨mk 133 .J [(2, .pv .nilSlice), (4, .pv (.slice 2 rowsA)), (5, .i N), (6, .bsl 0 0 (N + 1) 1), (7, .i (kk + 1 : Nat))], [.box none (tbC N kk)]⟩ P := by
  intro r
  induction r with
  | zero =>
    intro kk e
    have e1 : kk = N := by omega
    subst e1
    have c1 : ¬ ((kk + 1 : Nat) : Int) ≤ (kk : Nat) := by omega
    apply X_loop_of
    · simp only [loopN, Tryd.f27, loopsOf, List.nil_append, List.append_nil, List.cons_append, List.getD_cons_succ, List.getD_cons_zero]; rfl
    simp [-Int.natCast_add, -Int.not_lt, -Int.not_le, -getElem?_pos, List.getElem?_cons_zero, List.getElem?_cons_succ, c1]
    refine X_keep hx ?_
    simp
  | succ r ih =>
    intro kk e
    have q3 := next_i (m := kk + 1) (by omega)
    have c1 : ((kk + 1 : Nat) : Int) ≤ (N : Nat) := by omega
    have k1 : ((kk + 1 : Nat) : Int).toNat = kk + 1 := by omega
    have k2 : kk + 1 < N + 1 := by omega
    have k3 : ((kk + 1 : Nat) : Int) < ((N + 1 : Nat) : Int) := by omega
    have k4 : (0 : Int) ≤ ((kk + 1 : Nat) : Int) := by omega
    have k5 : kk + 1 ≤ N := by omega
    have t1 := tbC_set (show kk < N by omega) (-1)
    have hlen := tbC_len (show kk ≤ N by omega)
    have b0 : bestB fw (kk + 1) 0 = -1 := rfl
    have L := fun F P rs hx => loop27c (F := F) (P := P) (rs := rs) (show kk < N by omega) hN hx 40 0 rfl
    rw [b0] at L
    apply X_loop_of
    · simp only [loopN, Tryd.f27, loopsOf, List.nil_append, List.append_nil, List.cons_append, List.getD_cons_succ, List.getD_cons_zero]; rfl
    simp [-Int.natCast_add, -Int.not_lt, -Int.not_le, -getElem?_pos, List.getElem?_cons_zero, List.getElem?_cons_succ, c1, k1, k2, k3, k4, k5, t1, hlen]
    refine X_keep (L _ _ _ ?_) ?_
    · simp [-Int.natCast_add, -Int.not_lt, -Int.not_le, -getElem?_pos, q3]
      refine X_keep (ih (kk + 1) (by omega)) ?_
      simp
    · simp
theorem loop27d {F : List Fr} {P : SV × List Blk → Prop} {rs : List ResultVar} {N : Nat} (hN : N ≤ 8192) : ∀ (f n i : Nat) (H : List Blk) (pre : List (Int × Int)) (out : SV), (fw n).toNat + (40 - i) = f → n ≤ N → i ≤ 40 → 0 ≤ fw n → (∀ j < i, fits n j = false) → pre.length + (fw n).toNat ≤ 8192 →
    H[0]? = some (.box none (tbC N N)) → Acc 23 2 H (rowsV pre) out →
    (∀ (H' : List Blk) (out' : SV), Acc 23 2 H' (rowsV (pre ++ (canon n).map AV)) out' → X Y T27 rs F (.exit 4) ⟨mk 133 .J [(2, out')], H'⟩ P) →
    X Y T27 rs F (.loop (loopN Tryd.f27 2)) ⟨mk 133 .J [(2, out), (4, .pv (.slice 2 rowsA)), (5, .i (n : Nat)), (6, .bsl 0 0 (N + 1) 1), (10, .i (i : Nat))], H⟩ P := by
  have hl : rowsA.length = 40 := rfl
  intro f
  induction f with
  | zero =>
    intro n i H pre out e hnN hi hw hno hpl h0 hacc hx
    have hn : n = 0 := fw_zero_iff.1 (by omega)
    subst hn
    have hx := hx H out (by simpa [canon_zero] using hacc)
    apply X_loop_of
    · simp only [loopN, Tryd.f27, loopsOf, List.nil_append, List.append_nil, List.cons_append, List.getD_cons_succ, List.getD_cons_zero]; rfl
    simp [-Int.not_lt, -Int.not_le, -getElem?_pos, List.getElem?_cons_zero, List.getElem?_cons_succ]
    refine X_keep hx ?_
    simp
  | succ f ih =>
    intro n i H pre out e hnN hi hw hno hpl h0 hacc hx
    by_cases hn : n = 0
    · subst hn
      have hx := hx H out (by simpa [canon_zero] using hacc)
      apply X_loop_of
      · simp only [loopN, Tryd.f27, loopsOf, List.nil_append, List.append_nil, List.cons_append, List.getD_cons_succ, List.getD_cons_zero]; rfl
      simp [-Int.not_lt, -Int.not_le, -getElem?_pos, List.getElem?_cons_zero, List.getElem?_cons_succ]
      refine X_keep hx ?_
      simp
    have hnp : 0 < n := by omega
    have c1 : (0 : Int) < (n : Nat) := by omega
    obtain ⟨f1, f2, f3⟩ := first_spec hnp hw
    have hif : i ≤ first n := by
      rcases Nat.lt_or_ge (first n) i with q | q
      · rw [hno _ q] at f2; cases f2
      · exact q
    have hi4 : i < 40 := by omega
    have c4 : ((i : Nat) : Int) < 40 := by omega
    have c3 : ((i : Nat) : Int).toNat = i := by omega
    have q3 := next_i (m := i) (by omega)
    have hat : rowsA[i]? = some [.int .i64 (AV i).1, .int .i64 (AV i).2] := rowsA_at hi4
    have g1 := F38_ok (AV_ok hi4)
    have s1 := sz_quo hi4
    have s2 := wrap_sz i
    have hp := sz_pos i
    have t1 := tbC_old (N := N) (k := N) (j := n) hnN
    have hlen := tbC_len (Nat.le_refl N)
    have k1 : ((n : Nat) : Int).toNat = n := by omega
    have k2 : n < N + 1 := by omega
    have k3 : ((n : Nat) : Int) < ((N + 1 : Nat) : Int) := by omega
    have gn := fw_ge n
    have gu := fw_up n
    have w2 : IntKind.i64.wrap (fw n - 1) = fw n - 1 := wrap64 (by omega) (by omega)
    have hne : fw n ≠ 0 := fun e => hn (fw_zero_iff.1 e)
    apply X_loop_of
    · simp only [loopN, Tryd.f27, loopsOf, List.nil_append, List.append_nil, List.cons_append, List.getD_cons_succ, List.getD_cons_zero]; rfl
    by_cases hle : sz i ≤ n
    · have d1 : ((sz i : Nat) : Int) ≤ (n : Nat) := by omega
      have w1 : IntKind.i64.wrap (((n : Nat) : Int) - (sz i : Nat)) = ((n - sz i : Nat) : Int) := by rw [wrap64 (by omega) (by omega)]; omega
      have d2 : ((n - sz i : Nat) : Int).toNat = n - sz i := by omega
      have d3 : n - sz i < N + 1 := by omega
      have t2 := tbC_old (N := N) (k := N) (j := n - sz i) (by omega)
      by_cases hf : fw (n - sz i) = fw n - 1
      · have hfi : fits n i = true := fits_iff.2 ⟨hle, hf⟩
        have he : i = first n := by
          rcases Nat.lt_or_ge i (first n) with q | q
          · rw [f3 i q] at hfi; cases hfi
          · omega
        have hcan : canon n = i :: canon (n - sz i) := by rw [canon_step hnp hw, ← he]
        obtain ⟨out', H2, a1, a2, a3⟩ := app24 (AV i) (by rw [rowsV_len]; omega) hacc
        have hrow : rowsV pre ++ [cV (AV i)] = rowsV (pre ++ [AV i]) := by simp [rowsV]
        rw [hrow] at a2
        have h2 := a3 _ _ h0
        simp [-Int.natCast_add, -Int.not_lt, -Int.not_le, -aAppend, -getElem?_pos, List.getElem?_cons_zero, List.getElem?_cons_succ, T27_eq, h0, hl, hat, g1, s1, s2, c1, hnp, c4, hi4, c3, d1, hle, w1, d2, d3, t1, t2, hlen, k1, k2, k3, w2, hf, beqZ, hacc.live, a1, a2.live]
        refine X_keep (ih (n - sz i) i H2 (pre ++ [AV i]) out' (by omega) (by omega) hi (by omega) (fun j hj => first_mono hnp hw (by omega) (hno j hj) hfi hi4) (by simp; omega) h2 a2 (fun H' out' h => hx H' out' (by rw [hcan]; simpa using h))) ?_
        simp
      · have hfi : fits n i = false := by
          cases hh : fits n i with
          | false => rfl
          | true => exact absurd (fits_iff.1 hh).2 hf
        simp [-Int.natCast_add, -Int.not_lt, -Int.not_le, -aAppend, -getElem?_pos, List.getElem?_cons_zero, List.getElem?_cons_succ, T27_eq, h0, hl, hat, g1, s1, s2, c1, hnp, c4, hi4, c3, d1, hle, w1, d2, d3, t1, t2, hlen, k1, k2, k3, w2, hf, beqZ, q3]
        refine X_keep (ih n (i + 1) H pre out (by omega) hnN (by omega) hw (fun j hj => ?_) hpl h0 hacc hx) ?_
        · rcases Nat.lt_or_ge j i with q | q
          · exact hno j q
          · rw [show j = i by omega]; exact hfi
        · simp
    · have d1 : ¬ ((sz i : Nat) : Int) ≤ (n : Nat) := by omega
      have hfi : fits n i = false := by
        cases hh : fits n i with
        | false => rfl
        | true => exact absurd (fits_iff.1 hh).1 hle
      simp [-Int.natCast_add, -Int.not_lt, -Int.not_le, -aAppend, -getElem?_pos, List.getElem?_cons_zero, List.getElem?_cons_succ, T27_eq, h0, hl, hat, g1, s1, s2, c1, hnp, c4, hi4, c3, d1, hle, q3]
      refine X_keep (ih n (i + 1) H pre out (by omega) hnN (by omega) hw (fun j hj => ?_) hpl h0 hacc hx) ?_
      · rcases Nat.lt_or_ge j i with q | q
        · exact hno j q
        · rw [show j = i by omega]; exact hfi
      · simp
end Go.Proofs.YtngapiffgoignaaDoor
