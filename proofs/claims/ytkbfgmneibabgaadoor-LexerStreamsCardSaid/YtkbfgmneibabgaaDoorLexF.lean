/- The scanner's small parts, by the machine: run, skip, fail. -/
import Derived.Test.YtkbfgmneibabgaaDoorLexE
set_option linter.unusedSimpArgs false
set_option linter.unusedVariables false
set_option maxRecDepth 1000000
set_option maxHeartbeats 1000000
namespace Go.Proofs.YtkbfgmneibabgaaDoor
open Go Go.Pm Go.RowKit
open LexP hiding place Sep Run
theorem set_same {α : Type} {l : List α} {k : Nat} {b : α} (h : l[k]? = some b) : l.set k b = l := by
  apply List.ext_getElem?
  intro i
  rw [List.getElem?_set]
  split
  · rename_i e; subst e
    rw [if_pos (List.getElem?_eq_some_iff.1 h).1, h]
  · rfl
/-- The scanner's box. -/
def scB (s : Bs) (n : Int) (ln l : SV) (e w : Int) : Blk := .box (some 75) [.str s, .i n, ln, l, .i e, .i w]
/-- How far a sort of bytes runs. -/
noncomputable def T85 : FuncId → Option Pm.Spec := tab [(68, .pure false (bF inwZ)), (84, .pure false (bF digZ)), (89, .pure false (bF lfZ))]
theorem T85_eq (g : Nat) : T85 g = tab [(68, .pure false (bF inwZ)), (84, .pure false (bF digZ)), (89, .pure false (bF lfZ))] g := rfl
theorem tok85 (W0 : World) : TOk Tryd.prog W0 T85 := tok_cons (meets68 W0) (tok_cons (meets84 W0) (tok_cons (meets89 W0) tok_nil))
theorem meets85 (W0 : World) : Enterable Tryd.prog 85 ∧ Meets Tryd.prog W0 85 (specFn (.heap (arunAll Y T85 Tryd.f85))) := meets_heap env (tok85 W0) mixed Tryd.func85 (by kernel_rfl) (by kernel_rfl)
theorem bF_at (p : Int → Bool) (c : UInt8) : bF p [u8 (c.toNat : Int)] = some (.bool (p (z c))) := by have := z_range c; unfold z at this; simp [bF, this, z]
theorem loop85 {F : List Fr} {P : SV × List Blk → Prop} {rs : List ResultVar} {H : List Blk} {k : Nat} {n : Int} {ln l : SV} {e w : Int} {g : Nat} {p : Int → Bool} (hg : T85 g = some (.pure false (bF p))) : ∀ (r pre : Bs), (pre ++ r).length ≤ 10000000 → H[k]? = some (scB (pre ++ r) n ln l e w) →
    X Y T85 rs F (.exit 0) ⟨mk 27 .J [(1, .i (pre.length + (r.takeWhile fun c => p (z c)).length : Nat))], H⟩ P →
    X Y T85 rs F (.loop (loopN Tryd.f85 0)) ⟨mk 27 .J [(0, .ptr k 0), (1, .i pre.length), (2, .pv (.fn g))], H⟩ P
  | [], pre, hl, hk, hx => by
    unfold scB at hk
    apply X_loop_of
    · simp only [loopN, Tryd.f85, loopsOf, List.nil_append, List.append_nil, List.cons_append, List.getD_cons_succ, List.getD_cons_zero]; rfl
    simp at hx hk
    simp [hk]
    refine X_keep hx ?_
    simp
  | c :: r, pre, hl, hk, hx => by
    have hk' := hk
    unfold scB at hk
    apply X_loop_of
    · simp only [loopN, Tryd.f85, loopsOf, List.nil_append, List.append_nil, List.cons_append, List.getD_cons_succ, List.getD_cons_zero]; rfl
    have hb := bF_at p c
    have h2 : T85 2 = none := rfl
    have hi : (pre ++ c :: r)[pre.length]? = some c := by simp
    have h1 : (pre.length : Int) < (pre.length : Int) + ((r.length : Int) + 1) := by omega
    have h0 : (0 : Int) ≤ (pre.length : Int) := by omega
    simp at hl
    have w1 : IntKind.i64.wrap ((pre.length : Int) + 1) = (pre.length : Int) + 1 := wrap64 (by omega) (by omega)
    by_cases hc : p (z c) = true
    · simp [hk, hi, h1, hb, hc, hg, w1, h2]
      have hx' : X Y T85 rs F (.exit 0) ⟨mk 27 .J [(1, .i ((pre ++ [c]).length + (r.takeWhile fun c => p (z c)).length : Nat))], H⟩ P := by
        simp [hc] at hx ⊢
        rw [show (pre.length : Int) + 1 + ((r.takeWhile fun c => p (z c)).length : Int) = (pre.length : Int) + (((r.takeWhile fun c => p (z c)).length : Int) + 1) by omega]
        exact hx
      refine X_keep (loop85 hg r (pre ++ [c]) (by simp; omega) (by simpa using hk') hx') ?_
      simp
    · simp at hc
      simp [hc] at hx
      simp [hk, hi, h1, hb, hc, hg, h2]
      refine X_keep hx ?_
      simp
theorem all85 {H : List Blk} {k : Nat} {n : Int} {ln l : SV} {e w : Int} {g : Nat} {p : Int → Bool} (hg : T85 g = some (.pure false (bF p))) (r pre : Bs) (hl : (pre ++ r).length ≤ 10000000) (hk : H[k]? = some (scB (pre ++ r) n ln l e w)) :
    arunAll Y T85 Tryd.f85 [.ptr k 0, .i pre.length, .pv (.fn g)] H = some (.i (pre.length + (r.takeWhile fun c => p (z c)).length : Nat), H) := by
  have hx : XFn Y T85 Tryd.f85 [.ptr k 0, .i pre.length, .pv (.fn g)] H (fun x => x = (.i (pre.length + (r.takeWhile fun c => p (z c)).length : Nat), H)) := by
    unfold XFn Tryd.f85
    rw [enter_3 _ (by decide)]
    simp [-Int.natCast_add]
    refine X_keep (loop85 hg r pre hl hk ?_) ?_
    · simp
    · simp
  obtain ⟨r, H', h1, h2⟩ := all_of_XFn (by rfl) hx
  rw [h1, h2]
/-- Blanks and comments. -/
theorem skp_run : ∀ (r : Bs), skp true r = (r.takeWhile fun c => lfZ (z c)).length + skp false (r.drop (r.takeWhile fun c => lfZ (z c)).length)
  | [] => by simp [skp]
  | c :: r => by
    by_cases h : z c = 10
    · simp [skp, lfZ, h, blkZ]
    · have := skp_run r
      simp [lfZ] at this
      simp [skp, lfZ, h]
      omega
noncomputable def T73 : FuncId → Option Pm.Spec := tab [(85, .heap (arunAll Y T85 Tryd.f85)), (90, .pure false (bF blkZ))]
theorem T73_eq (g : Nat) : T73 g = tab [(85, .heap (arunAll Y T85 Tryd.f85)), (90, .pure false (bF blkZ))] g := rfl
theorem tok73 (W0 : World) : TOk Tryd.prog W0 T73 := tok_cons (meets85 W0) (tok_cons (meets90 W0) tok_nil)
theorem meets73 (W0 : World) : Enterable Tryd.prog 73 ∧ Meets Tryd.prog W0 73 (specFn (.heap (arunAll Y T73 Tryd.f73))) := meets_heap env (tok73 W0) mixed Tryd.func73 (by kernel_rfl) (by kernel_rfl)
theorem loop73 {F : List Fr} {P : SV × List Blk → Prop} {rs : List ResultVar} {k : Nat} {ln l : SV} {e w : Int} {fr : Int} : ∀ (m : Nat) (rest pre : Bs) (H : List Blk), rest.length ≤ m → (pre ++ rest).length ≤ 10000000 → H[k]? = some (scB (pre ++ rest) pre.length ln l e w) →
    X Y T73 rs F (.exit 0) ⟨mk 56 .J [(0, .ptr k 0), (3, .i fr)], H.set k (scB (pre ++ rest) (pre.length + skp false rest : Nat) ln l e w)⟩ P →
    X Y T73 rs F (.loop (loopN Tryd.f73 0)) ⟨mk 56 .J [(0, .ptr k 0), (3, .i fr)], H⟩ P
  | m, [], pre, H, hm, hl, hk, hx => by
    have hsame : H.set k (scB (pre ++ []) (pre.length + skp false [] : Nat) ln l e w) = H := set_same (by rw [hk]; simp [skp])
    rw [hsame] at hx
    unfold scB at hk
    apply X_loop_of
    · simp only [loopN, Tryd.f73, loopsOf, List.nil_append, List.append_nil, List.cons_append, List.getD_cons_succ, List.getD_cons_zero]; rfl
    simp at hk
    simp [hk]
    refine X_keep hx ?_
    simp
  | 0, c :: r, pre, H, hm, hl, hk, hx => by simp at hm
  | m + 1, c :: r, pre, H, hm, hl, hk, hx => by
    have hk' := hk
    have hlt := (List.getElem?_eq_some_iff.1 hk).1
    unfold scB at hk
    apply X_loop_of
    · simp only [loopN, Tryd.f73, loopsOf, List.nil_append, List.append_nil, List.cons_append, List.getD_cons_succ, List.getD_cons_zero]; rfl
    have step : ∀ j, 1 ≤ j → j ≤ (c :: r).length → skp false (c :: r) = j + skp false ((c :: r).drop j) →
        X Y T73 rs F (.loop (loopN Tryd.f73 0)) ⟨mk 56 .J [(0, .ptr k 0), (3, .i fr)], H.set k (scB (pre ++ c :: r) (pre.length + j : Nat) ln l e w)⟩ P := fun j j1 j2 hj => by
      have e1 : (pre ++ (c :: r).take j) ++ (c :: r).drop j = pre ++ c :: r := by rw [List.append_assoc, List.take_append_drop]
      have e2 : (pre ++ (c :: r).take j).length = pre.length + j := by rw [List.length_append, List.length_take, Nat.min_eq_left j2]
      refine loop73 (ln := ln) (l := l) (e := e) (w := w) m ((c :: r).drop j) (pre ++ (c :: r).take j) _ (by simp at hm ⊢; omega) (by rw [e1]; exact hl) ?_ ?_
      · rw [e1, e2, List.getElem?_set_self hlt]
      · rw [e1, e2, List.set_set, Nat.add_assoc, ← hj]
        exact hx
    have hb := bF_at blkZ c
    have hi : (pre ++ c :: r)[pre.length]? = some c := by simp
    have h1 : (pre.length : Int) < (pre.length : Int) + ((r.length : Int) + 1) := by omega
    have hl' := hl
    simp at hl hm
    have w1 : IntKind.i64.wrap ((pre.length : Int) + 1) = (pre.length : Int) + 1 := wrap64 (by omega) (by omega)
    by_cases hc : (c.toNat : Int) = 37
    · have ha := all85 (g := 89) (p := lfZ) rfl (c :: r) pre hl' hk'
      have hcz : z c = 37 := hc
      have hlf : lfZ (z c) = true := by rw [hcz]; rfl
      have htw : ((c :: r).takeWhile fun c => lfZ (z c)).length = (r.takeWhile fun c => lfZ (z c)).length + 1 := by simp [hlf]
      rw [htw] at ha
      have hcn : c.toNat = 37 := by omega
      simp [hk, hi, h1, hc, T73_eq, ha, hcn]
      refine X_keep (step ((r.takeWhile fun c => lfZ (z c)).length + 1) (by omega) ?_ ?_) ?_
      · have : (r.takeWhile fun c => lfZ (z c)).length ≤ r.length := (List.takeWhile_sublist _).length_le
        simp; omega
      · rw [skp, if_pos hcz, skp_run r, List.drop_succ_cons]; omega
      · simp
    · have hcz : ¬ z c = 37 := hc
      have hcn : ¬ c.toNat = 37 := by omega
      by_cases hbl : blkZ (z c) = true
      · simp [hk, hi, h1, hb, hc, hbl, T73_eq, w1, hcn]
        refine X_keep (step 1 (by omega) (by simp) ?_) ?_
        · rw [skp, if_neg hcz, if_pos hbl, List.drop_succ_cons, List.drop_zero]; omega
        · simp
      · simp at hbl
        have hs0 : skp false (c :: r) = 0 := by rw [skp, if_neg hcz, if_neg (by simp [hbl])]
        have hsame : H.set k (scB (pre ++ c :: r) (pre.length + skp false (c :: r) : Nat) ln l e w) = H := set_same (by rw [hk', hs0, Nat.add_zero])
        rw [hsame] at hx
        simp [hk, hi, h1, hb, hc, hbl, T73_eq, w1, hcn]
        refine X_keep hx ?_
        simp
theorem all73 {k : Nat} {ln l : SV} {e w : Int} (rest pre : Bs) (H : List Blk) (hl : (pre ++ rest).length ≤ 10000000) (hk : H[k]? = some (scB (pre ++ rest) pre.length ln l e w)) :
    arunAll Y T73 Tryd.f73 [.ptr k 0] H = some (.bool (decide (0 < skp false rest)), H.set k (scB (pre ++ rest) (pre.length + skp false rest : Nat) ln l e w)) := by
  have hlt := (List.getElem?_eq_some_iff.1 hk).1
  have hx : XFn Y T73 Tryd.f73 [.ptr k 0] H (fun x => x = (.bool (decide (0 < skp false rest)), H.set k (scB (pre ++ rest) (pre.length + skp false rest : Nat) ln l e w))) := by
    have hk' := hk
    unfold scB at hk'
    unfold XFn Tryd.f73
    rw [enter_1 _ (by decide)]
    simp [hk']
    refine X_keep (loop73 (ln := ln) (l := l) (e := e) (w := w) (fr := pre.length) rest.length rest pre H (Nat.le_refl _) hl hk ?_) ?_
    · have hs := skp_le rest false
      have h2 : (H.set k (scB (pre ++ rest) (pre.length + skp false rest : Nat) ln l e w))[k]? = some (.box (some 75) [.str (pre ++ rest), .i (pre.length + skp false rest : Nat), ln, l, .i e, .i w]) := by
        rw [List.getElem?_set_self hlt]; rfl
      generalize hH2 : H.set k (scB (pre ++ rest) (pre.length + skp false rest : Nat) ln l e w) = H2 at *
      have h3 : (decide ((pre.length : Int) < ((pre.length + skp false rest : Nat) : Int))) = decide (0 < skp false rest) := by congr 1; apply propext; omega
      simp [-Int.natCast_add, -decide_eq_decide, h2, h3]
      rw [← hH2]; simp
    · simp
  obtain ⟨r, H', h1, h2⟩ := all_of_XFn (by rfl) hx
  rw [h1, h2]
theorem meets75 (W0 : World) : Enterable Tryd.prog 75 ∧ Meets Tryd.prog W0 75 (specFn (.heap (arunAll Y T0 Tryd.f75))) := meets_heap env tok_nil mixed Tryd.func75 (by kernel_rfl) (by kernel_rfl)
theorem all75 {k : Nat} {s : Bs} {n : Int} {ln l : SV} {w : Int} {H : List Blk} (hk : H[k]? = some (scB s n ln l 0 w)) (m e : Int) :
    arunAll Y T0 Tryd.f75 [.ptr k 0, .i m, .i e] H = some (.undef, H.set k (scB s n ln l e m)) := by
  have hlt := (List.getElem?_eq_some_iff.1 hk).1
  unfold scB at hk
  have hx : XFn Y T0 Tryd.f75 [.ptr k 0, .i m, .i e] H (fun x => x = (.undef, H.set k (scB s n ln l e m))) := by
    unfold XFn Tryd.f75
    rw [enter_3 _ (by decide)]
    have hs : ∀ b, (H.set k b)[k]? = some b := fun b => List.getElem?_set_self hlt
    simp [hk, hs, scB]
  obtain ⟨r, H', h1, h2⟩ := all_of_XFn (by rfl) hx
  rw [h1, h2]
end Go.Proofs.YtkbfgmneibabgaaDoor
