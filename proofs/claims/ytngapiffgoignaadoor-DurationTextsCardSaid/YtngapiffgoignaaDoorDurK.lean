/- Decompose, whole, by the machine. -/
import Derived.Test.YtngapiffgoignaaDoorDurJ
set_option linter.unusedSimpArgs false
set_option linter.unusedVariables false
set_option maxRecDepth 1000000
set_option maxHeartbeats 1000000
namespace Go.Proofs.YtngapiffgoignaaDoor
open Go Go.Pm Go.RowKit
theorem loop19d {F : List Fr} {P : SV × List Blk → Prop} {rs : List ResultVar} {N b : Nat} {fv : SV} (hN : N ≤ 8192) (hA : ∃ k v, fv = .own k v 1 (rowI (fwt N)) ∨ (fv = .tight 1 (rowI (fwt N)))) (ks vs : Nat) : ∀ (f n : Nat) (H : List Blk) (pre : List (Int × Int)) (out : SV), (fw n).toNat = f → n ≤ N → 0 ≤ fw n → pre.length + f ≤ 8192 →
    H[0]? = some (.box (some 3) [.i (n : Nat)]) → H[b]? = some (.box (some 58) [fv]) → Acc 23 2 H (rowsV pre) out →
    (∀ (H' : List Blk) (out' : SV), Acc 23 2 H' (rowsV (pre ++ (canon n).map AV)) out' → X Y T19 rs F (.exit 7) ⟨mk 117 .J [(13, out')], H'⟩ P) →
    X Y T19 rs F (.loop (loopN Tryd.f19 3)) ⟨mk 117 .J [(1, .ptr 0 0), (4, .pv (.slice 2 rowsA)), (5, .own ks vs 1 (rowI szL)), (8, .ptr b 0), (13, out)], H⟩ P := by
  have hl : (rowI szL).length = 40 := rfl
  intro f
  induction f with
  | zero =>
    intro n H pre out e hnN hw hpl h0 hb hacc hx
    have hn : n = 0 := fw_zero_iff.1 (by omega)
    subst hn
    have hx := hx H out (by simpa [canon_zero] using hacc)
    apply X_loop_of
    · simp only [loopN, Tryd.f19, loopsOf, List.nil_append, List.append_nil, List.cons_append, List.getD_cons_succ, List.getD_cons_zero]; rfl
    simp [-Int.not_lt, -Int.not_le, -getElem?_pos, List.getElem?_cons_zero, List.getElem?_cons_succ, h0]
    refine X_keep hx ?_
    simp
  | succ f ih =>
    intro n H pre out e hnN hw hpl h0 hb hacc hx
    have hn : 0 < n := by
      rcases Nat.eq_zero_or_pos n with h | h
      · subst h; rw [fw_zero] at e; simp at e
      · exact h
    have c1 : (0 : Int) < (n : Nat) := by omega
    have hall := all39 hnN hN h0 hb hA ks vs hn hw
    obtain ⟨f1, f2, f3⟩ := first_spec hn hw
    obtain ⟨q1, q2⟩ := fits_iff.1 f2
    have hx' := hx
    rw [canon_step hn hw] at hx'
    generalize first n = i at *
    have hp := sz_pos i
    obtain ⟨out', H2, a1, a2, a3⟩ := app24 (AV i) (by rw [rowsV_len]; omega) hacc
    have hrow : rowsV pre ++ [cV (AV i)] = rowsV (pre ++ [AV i]) := by simp [rowsV]
    rw [hrow] at a2
    have h2 := a3 _ _ h0
    have hb2 := a3 _ _ hb
    have hne : b ≠ 0 := by intro e; subst e; rw [h0] at hb; simp at hb
    have hlt := (List.getElem?_eq_some_iff.1 h2).1
    have hat : rowsA[i]? = some [.int .i64 (AV i).1, .int .i64 (AV i).2] := rowsA_at f1
    have hsz : (rowI szL)[i]? = some [PV.int .i64 (sz i : Nat)] := rowI_at (szL_at f1)
    have c3 : ((i : Nat) : Int).toNat = i := by omega
    have w1 : IntKind.i64.wrap (((n : Nat) : Int) - (sz i : Nat)) = ((n - sz i : Nat) : Int) := by rw [wrap64 (by omega) (by omega)]; omega
    apply X_loop_of
    · simp only [loopN, Tryd.f19, loopsOf, List.nil_append, List.append_nil, List.cons_append, List.getD_cons_succ, List.getD_cons_zero]; rfl
    simp [-Int.natCast_add, -Int.not_lt, -Int.not_le, -aAppend, -getElem?_pos, List.getElem?_cons_zero, List.getElem?_cons_succ, T19_eq, h0, hn, c1, hall, hat, hsz, c3, hacc.live, a1, a2.live, h2, hb2, w1, hlt]
    refine X_keep (ih (n - sz i) (H2.set 0 (.box (some 3) [.i (n - sz i : Nat)])) (pre ++ [AV i]) out' (by omega) (by omega) (by omega) (by simp; omega) ?_ ?_ (a2.box h2) (fun H' out' h => hx' H' out' (by simpa using h))) ?_
    · rw [List.getElem?_set_self hlt]
    · rw [List.getElem?_set_ne (Ne.symm hne)]; exact hb2
    · simp
theorem cells_tight (s : Nat) (es : List (List PV)) : cellsOf (.tight s es) = some [.tight s es] := rfl
/-- The list of the fewest note values, as a value. -/
def listV (l : List (Int × Int)) : SV := if l = [] then .pv .nilSlice else .fresh 23 2 (rowsV l)
def decZ (n : Int) : SV × Int :=
  if n < 0 ∨ 7741440 < n then (.pv .nilSlice, 2) else if n % 945 ≠ 0 ∨ fw (n / 945).toNat < 0 then (.pv .nilSlice, 17) else (listV ((canon (n / 945).toNat).map AV), 0)
theorem rowsV_nil {l : List (Int × Int)} : rowsV l = [] ↔ l = [] := by simp [rowsV]
theorem fin19 {n : Int} {H : List Blk} {l : List (Int × Int)} {out : SV} (hd : decZ n = (listV l, 0)) (h : Acc 23 2 H (rowsV l) out) : outR H (.tuple [out, .i 0]) = some (.tuple [(decZ n).1, .i (decZ n).2]) := by
  rw [hd]
  have h1 := h.out
  have h2 : outL H [out, .i 0] = some [listV l, .i 0] := by
    have h4 : outP H (.i 0) = some (.i 0) := rfl
    have h5 : (if rowsV l = [] then SV.pv PV.nilSlice else SV.fresh 23 2 (rowsV l)) = listV l := by
      unfold listV
      by_cases hl : l = []
      · subst hl; rfl
      · rw [if_neg (fun e => hl (rowsV_nil.1 e)), if_neg hl]
    rw [h5] at h1
    simp only [outL, h1, h4]
  have h3 : (([out, .i 0] : List SV).filter isOwn).length ≤ 1 := by
    rcases h with ⟨_, rfl⟩ | ⟨_, k, v, rfl, _⟩ <;> simp [isOwn]
  simp only [outR]
  rw [if_pos h3, h2]; rfl
theorem x19 (n : Int) : XFn Y T19 Tryd.f19 [.i n] [] (Is (.tuple [(decZ n).1, .i (decZ n).2])) := by
  unfold XFn Tryd.f19
  rw [enter_1 _ (by decide)]
  by_cases h1 : n < 0
  · have hd : decZ n = (.pv .nilSlice, 2) := by unfold decZ; rw [if_pos (.inl h1)]
    simp [-Int.not_lt, -Int.not_le, h1, hd]
  by_cases h2 : 7741440 < n
  · have hd : decZ n = (.pv .nilSlice, 2) := by unfold decZ; rw [if_pos (.inr h2)]
    simp [-Int.not_lt, -Int.not_le, h1, h2, hd]
  have t1 : Int.tmod n 945 = n % 945 := Int.tmod_eq_emod_of_nonneg (by omega)
  have t2 : Int.tdiv n 945 = n / 945 := Int.tdiv_eq_ediv_of_nonneg (by omega)
  by_cases h3 : n % 945 = 0
  · obtain ⟨N, hN⟩ : ∃ N : Nat, n / 945 = N := ⟨(n / 945).toNat, by omega⟩
    have hN2 : N ≤ 8192 := by omega
    have wN : IntKind.i64.wrap (N : Int) = (N : Nat) := wrap64 (by omega) (by omega)
    have w0 : IntKind.i64.wrap 0 = 0 := rfl
    simp [-Int.not_lt, -Int.not_le, -outR, h1, h2, t1, t2, h3, beqZ, bneZ, T19_eq, F13, hN, wN, w0]
    have eN : (n / 945).toNat = N := by omega
    have hd : decZ n = if fw N < 0 then (.pv .nilSlice, 17) else (listV ((canon N).map AV), 0) := by
      unfold decZ
      rw [if_neg (by omega), eN]
      by_cases hf : fw N < 0
      · rw [if_pos (.inr hf), if_pos hf]
      · rw [if_neg (by omega), if_neg hf]
    refine X_keep (loop19a N 40 0 _ (.pv .nilSlice) (by omega) rfl (.inl ⟨rfl, rfl⟩) fun H' out' h1 h2 => ?_) ?_
    · obtain ⟨ks, vs, rfl⟩ := acc_own h2 (by intro h; have := congrArg List.length h; rw [rowI_len] at this; exact absurd this (by decide))
      have hlt := (List.getElem?_eq_some_iff.1 h1).1
      simp [-Int.natCast_add, -outR, -cellsOf, cells_pv, cells_tight, set_last]
      refine X_keep (loop19b (b := H'.length) hN2 ks vs (fun H fv g0 gb gA => ?_) N 0 (H' ++ [.box (some 58) [.tight 1 (rowI (fwt 0))]]) _ (by omega) (by rw [List.getElem?_append_left hlt]; exact h1) (get_last _ _) (.inl ⟨rfl, rfl⟩)) ?_
      · have f0 : (rowI (fwt N))[N]? = some [PV.int .i64 (fw N)] := rowI_at (fwt_get (Nat.le_refl _))
        have c0 : ((N : Nat) : Int).toNat = N := by omega
        by_cases hf : fw N < 0
        · rw [if_pos hf] at hd
          obtain ⟨k, v, rfl | rfl⟩ := gA.read
          · simp [-Int.not_lt, -Int.not_le, -getElem?_pos, List.getElem?_cons_zero, List.getElem?_cons_succ, g0, gb, c0, f0, hf, hd]
          · simp [-Int.not_lt, -Int.not_le, -getElem?_pos, List.getElem?_cons_zero, List.getElem?_cons_succ, g0, gb, c0, f0, hf, hd]
        · rw [if_neg hf] at hd
          have hup := fw_up N
          have L := fun F P rs => loop19d (F := F) (P := P) (rs := rs) (b := H'.length) hN2 gA.read ks vs (fw N).toNat N H [] (.pv .nilSlice) rfl (Nat.le_refl _) (by omega) (by simp; omega) g0 gb (.inl ⟨rfl, rfl⟩)
          obtain ⟨k, v, rfl | rfl⟩ := gA.read
          · simp [-Int.not_lt, -Int.not_le, -getElem?_pos, -outR, List.getElem?_cons_zero, List.getElem?_cons_succ, g0, gb, c0, f0, hf]
            refine X_keep (L _ _ _ fun H2 out' hacc => ?_) (by simp)
            simp [-outR, hacc.live]
            exact fin19 hd (by simpa using hacc)
          · simp [-Int.not_lt, -Int.not_le, -getElem?_pos, -outR, List.getElem?_cons_zero, List.getElem?_cons_succ, g0, gb, c0, f0, hf]
            refine X_keep (L _ _ _ fun H2 out' hacc => ?_) (by simp)
            simp [-outR, hacc.live]
            exact fin19 hd (by simpa using hacc)
      · simp
    · simp
      rfl
  · have hd : decZ n = (.pv .nilSlice, 17) := by unfold decZ; rw [if_neg (by omega), if_pos (.inl h3)]
    have w1 : IntKind.i64.wrap (n % 945) = n % 945 := wrap64 (by omega) (by omega)
    simp [-Int.not_lt, -Int.not_le, h1, h2, t1, t2, h3, beqZ, bneZ, w1, hd]
end Go.Proofs.YtngapiffgoignaaDoor
