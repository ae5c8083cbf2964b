/- Decompose: the table of the fewest, by the machine. -/
import Derived.Test.YtngapiffgoignaaDoorDurI
set_option linter.unusedSimpArgs false
set_option linter.unusedVariables false
set_option maxRecDepth 1000000
set_option maxHeartbeats 1000000
namespace Go.Proofs.YtngapiffgoignaaDoor
open Go Go.Pm Go.RowKit
theorem bestB_up {k : Nat} (m : Nat) : bestB fw k m ≤ k + 1 := by
  rcases bestB_ex (f := fw) (k := k) m with h | ⟨i, _, h1, h2, h3⟩
  · omega
  · have := fw_up (k - sz i); omega
theorem loop19c {F : List Fr} {P : SV × List Blk → Prop} {rs : List ResultVar} {H : List Blk} {b kk : Nat} {fv : SV} (hkk : kk < 8192) (hb : H[b]? = some (.box (some 58) [fv])) (hA : ∃ k v, fv = .own k v 1 (rowI (fwt kk)) ∨ (fv = .tight 1 (rowI (fwt kk)))) (ks vs : Nat)
    (hx : X Y T19 rs F (.exit 5) ⟨mk 117 .J [(1, .ptr 0 0), (4, .pv (.slice 2 rowsA)), (5, .own ks vs 1 (rowI szL)), (8, .ptr b 0), (9, .i (kk + 1 : Nat)), (10, .i (bestB fw (kk + 1) 40))], H⟩ P) : ∀ (r m : Nat), m + r = 40 →
    X Y T19 rs F (.loop (loopN Tryd.f19 2)) ⟨mk 117 .J [(1, .ptr 0 0), (4, .pv (.slice 2 rowsA)), (5, .own ks vs 1 (rowI szL)), (8, .ptr b 0), (9, .i (kk + 1 : Nat)), (10, .i (bestB fw (kk + 1) m)), (48, .own ks vs 1 (rowI szL)), (49, .i 40), (50, .i (m : Nat))], H⟩ P := by
  have hl : (rowI szL).length = 40 := rfl
  intro r
  induction r with
  | zero =>
    intro m e
    have e1 : m = 40 := by omega
    subst e1
    apply X_loop_of
    · simp only [loopN, Tryd.f19, loopsOf, List.nil_append, List.append_nil, List.cons_append, List.getD_cons_succ, List.getD_cons_zero]; rfl
    simp
    refine X_keep hx ?_
    simp
  | succ r ih =>
    intro m e
    have hm : m < 40 := by omega
    have c4 : ((m : Nat) : Int) < 40 := by omega
    have c3 : ((m : Nat) : Int).toNat = m := by omega
    have q3 := next_i (m := m) (by omega)
    have f1 := rowI_at (szL_at hm)
    have h1 := sz_pos m
    have hs : bestB fw (kk + 1) (m + 1) = stepB fw (kk + 1) (bestB fw (kk + 1) m) m := rfl
    have hih := ih (m + 1) (by omega)
    rw [hs] at hih
    unfold stepB at hih
    have bu := bestB_up (k := kk + 1) m
    have bg := bestB_ge (f := fw) (k := kk + 1) m
    generalize bestB fw (kk + 1) m = best at *
    apply X_loop_of
    · simp only [loopN, Tryd.f19, loopsOf, List.nil_append, List.append_nil, List.cons_append, List.getD_cons_succ, List.getD_cons_zero]; rfl
    by_cases hle : sz m ≤ kk + 1
    · have f2 : (rowI (fwt kk))[kk + 1 - sz m]? = some [PV.int .i64 (fw (kk + 1 - sz m))] := rowI_at (fwt_get (by omega))
      have c1 : ((sz m : Nat) : Int) ≤ (kk + 1 : Nat) := by omega
      have w1 : IntKind.i64.wrap (((kk + 1 : Nat) : Int) - (sz m : Nat)) = ((kk + 1 - sz m : Nat) : Int) := by rw [wrap64 (by omega) (by omega)]; omega
      have c2 : ((kk + 1 - sz m : Nat) : Int).toNat = kk + 1 - sz m := by omega
      have g1 := fw_ge (kk + 1 - sz m)
      have g2 := fw_up (kk + 1 - sz m)
      have w2 : IntKind.i64.wrap (fw (kk + 1 - sz m) + 1) = fw (kk + 1 - sz m) + 1 := wrap64 (by omega) (by omega)
      generalize fw (kk + 1 - sz m) = fq at *
      obtain ⟨k, v, rfl | rfl⟩ := hA
      · simp [-Int.natCast_add, -Int.not_lt, -Int.not_le, -getElem?_pos, List.getElem?_cons_zero, List.getElem?_cons_succ, hb, q3, c4, hm, c3, f1, hle, c1, w1, c2, f2, w2]
        refine ⟨fun h1 => ⟨fun h2 => ?_, fun h2 => ⟨fun h3 => ?_, fun h3 => ?_⟩⟩, fun h1 => ?_⟩
        · rw [if_pos ⟨hle, h1, .inl h2⟩] at hih
          refine X_keep hih ?_
          simp
        · rw [if_pos ⟨hle, h1, .inr h3⟩] at hih
          refine X_keep hih ?_
          simp
        · rw [if_neg (by intro h; rcases h.2.2 with h | h; exact h2 h; exact h3 h)] at hih
          refine X_keep hih ?_
          simp
        · rw [if_neg (fun h => h1 h.2.1)] at hih
          refine X_keep hih ?_
          simp
      · simp [-Int.natCast_add, -Int.not_lt, -Int.not_le, -getElem?_pos, List.getElem?_cons_zero, List.getElem?_cons_succ, hb, q3, c4, hm, c3, f1, hle, c1, w1, c2, f2, w2]
        refine ⟨fun h1 => ⟨fun h2 => ?_, fun h2 => ⟨fun h3 => ?_, fun h3 => ?_⟩⟩, fun h1 => ?_⟩
        · rw [if_pos ⟨hle, h1, .inl h2⟩] at hih
          refine X_keep hih ?_
          simp
        · rw [if_pos ⟨hle, h1, .inr h3⟩] at hih
          refine X_keep hih ?_
          simp
        · rw [if_neg (by intro h; rcases h.2.2 with h | h; exact h2 h; exact h3 h)] at hih
          refine X_keep hih ?_
          simp
        · rw [if_neg (fun h => h1 h.2.1)] at hih
          refine X_keep hih ?_
          simp
    · have c1 : ¬ ((sz m : Nat) : Int) ≤ (kk + 1 : Nat) := by omega
      rw [if_neg (fun h => hle h.1)] at hih
      obtain ⟨k, v, rfl | rfl⟩ := hA
      · simp [-Int.natCast_add, -Int.not_lt, -Int.not_le, -getElem?_pos, List.getElem?_cons_zero, List.getElem?_cons_succ, hb, q3, c4, hm, c3, f1, hle, c1]
        refine X_keep hih ?_
        simp
      · simp [-Int.natCast_add, -Int.not_lt, -Int.not_le, -getElem?_pos, List.getElem?_cons_zero, List.getElem?_cons_succ, hb, q3, c4, hm, c3, f1, hle, c1]
        refine X_keep hih ?_
        simp
theorem cells_pv (p : PV) : cellsOf (.pv p) = some [.pv p] := rfl
/-- What the table of the fewest holds: the literal, or what has been appended. -/
def Few (H : List Blk) (n : Nat) (fv : SV) : Prop := (n = 0 ∧ fv = .tight 1 (rowI (fwt 0))) ∨ Acc 3 1 H (rowI (fwt n)) fv
theorem rowI_ne (n : Nat) : rowI (fwt n) ≠ [] := by intro h; have := congrArg List.length h; rw [rowI_len, fwt_len] at this; simp at this
theorem Few.read {H : List Blk} {n : Nat} {fv : SV} (h : Few H n fv) : ∃ k v, fv = .own k v 1 (rowI (fwt n)) ∨ (fv = .tight 1 (rowI (fwt n))) := by
  rcases h with ⟨rfl, rfl⟩ | h
  · exact ⟨0, 0, .inr rfl⟩
  · obtain ⟨k, v, h⟩ := acc_own h (rowI_ne n)
    exact ⟨k, v, .inl h⟩
theorem Few.more {H : List Blk} {n : Nat} {fv : SV} (h : Few H n fv) (H' : List Blk) : Few (H ++ H') n fv := by
  rcases h with h | h
  · exact .inl h
  · exact .inr (h.more _)
theorem Few.live {H : List Blk} {n : Nat} {fv : SV} (h : Few H n fv) : live fv = some fv := by
  obtain ⟨k, v, rfl | rfl⟩ := h.read <;> rfl
theorem Few.app {H : List Blk} {n : Nat} {fv : SV} (hn : n ≤ 8192) (h : Few H n fv) :
    ∃ out' H', aAppend Y H 58 58 fv (.tight 1 [[.int .i64 (bestB fw (n + 1) 40)]]) = some (out', H') ∧ Acc 3 1 H' (rowI (fwt (n + 1))) out' ∧ (∀ {t0 : Option TypeId} (k : Nat) (cs : List SV), H[k]? = some (.box t0 cs) → H'[k]? = some (.box t0 cs)) := by
  have ht : fwt (n + 1) = fwt n ++ [bestB fw (n + 1) 40] := by
    simp only [fwt]
    rw [bestB_congr (f := fun j => (fwt n).getD j (-1)) (g := fw) (fun j hj => fwt_getD (by omega)) 40]
  rw [ht]
  rcases h with ⟨rfl, rfl⟩ | h
  · refine ⟨.own H.length 0 1 (rowI (fwt 0 ++ [bestB fw (0 + 1) 40])), H ++ [.tok 0 3], ?_, .inr ⟨by simp [rowI], _, _, rfl, by simp⟩, fun k cs hc => ?_⟩
    · have e1 : kindOf Y 58 = some (.slice 3) := rfl
      simp [-kindOf, -maxRow, aAppend, e1, Y_3, sliceElems, strideOk, rowI, fwt]
      decide
    · rw [List.getElem?_append_left (List.getElem?_eq_some_iff.1 hc).1]; exact hc
  · exact app58 _ (by rw [fwt_len]; omega) h
theorem loop19b {F : List Fr} {P : SV × List Blk → Prop} {rs : List ResultVar} {N b : Nat} (hN : N ≤ 8192) (ks vs : Nat)
    (hx : ∀ (H : List Blk) (fv : SV), H[0]? = some (.box (some 3) [.i (N : Nat)]) → H[b]? = some (.box (some 58) [fv]) → Few H N fv →
      X Y T19 rs F (.exit 3) ⟨mk 117 .J [(1, .ptr 0 0), (4, .pv (.slice 2 rowsA)), (5, .own ks vs 1 (rowI szL)), (8, .ptr b 0)], H⟩ P) : ∀ (r kk : Nat) (H : List Blk) (fv : SV), kk + r = N →
    H[0]? = some (.box (some 3) [.i (N : Nat)]) → H[b]? = some (.box (some 58) [fv]) → Few H kk fv →
    X Y T19 rs F (.loop (loopN Tryd.f19 1)) ⟨mk 117 .J [(1, .ptr 0 0), (4, .pv (.slice 2 rowsA)), (5, .own ks vs 1 (rowI szL)), (8, .ptr b 0), (9, .i (kk + 1 : Nat))], H⟩ P := by
  have hl : (rowI szL).length = 40 := rfl
  intro r
  induction r with
  | zero =>
    intro kk H fv e h0 hb hA
    have e1 : kk = N := by omega
    subst e1
    have c1 : ¬ ((kk + 1 : Nat) : Int) ≤ (kk : Nat) := by omega
    apply X_loop_of
    · simp only [loopN, Tryd.f19, loopsOf, List.nil_append, List.append_nil, List.cons_append, List.getD_cons_succ, List.getD_cons_zero]; rfl
    simp [-Int.natCast_add, -Int.not_lt, -Int.not_le, -getElem?_pos, List.getElem?_cons_zero, List.getElem?_cons_succ, h0, c1]
    refine X_keep (hx H fv h0 hb hA) ?_
    simp
  | succ r ih =>
    intro kk H fv e h0 hb hA
    have q3 := next_i (m := kk + 1) (by omega)
    have c1 : ((kk + 1 : Nat) : Int) ≤ (N : Nat) := by omega
    have c2 : kk + 1 ≤ N := by omega
    obtain ⟨out', H2, a1, a2, a3⟩ := hA.app (by omega)
    have h2 := a3 _ _ h0
    have hb2 := a3 _ _ hb
    have hne : b ≠ 0 := by intro e; subst e; rw [h0] at hb; simp at hb
    have hlt := (List.getElem?_eq_some_iff.1 hb2).1
    apply X_loop_of
    · simp only [loopN, Tryd.f19, loopsOf, List.nil_append, List.append_nil, List.cons_append, List.getD_cons_succ, List.getD_cons_zero]; rfl
    simp [-Int.natCast_add, -Int.not_lt, -Int.not_le, -getElem?_pos, List.getElem?_cons_zero, List.getElem?_cons_succ, h0, c1, c2, hl]
    refine X_keep (loop19c (by omega) hb hA.read ks vs ?_ 40 0 (by omega)) ?_
    · simp [-Int.natCast_add, -Int.not_lt, -Int.not_le, -aAppend, -cellsOf, -getElem?_pos, List.getElem?_cons_zero, List.getElem?_cons_succ, hb, hb2, hA.live, a1, a2.live, acc_cells a2, cells_pv, q3]
      refine X_keep (ih (kk + 1) (H2.set b (.box (some 58) [out'])) out' (by omega) ?_ ?_ (.inr (a2.box hb2))) ?_
      · rw [List.getElem?_set_ne hne]; exact h2
      · rw [List.getElem?_set_self hlt]
      · simp
    · simp [bestB]
end Go.Proofs.YtngapiffgoignaaDoor
