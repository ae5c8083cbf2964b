/- The printer; the reader: the lines and the marks. -/
import Derived.Test.YtkckpmcpmngiiaaGreatDoorT1
import Derived.Test.YtkckpmcpmngiiaaGreatDoorT3
import Derived.Shelf.Strings.Trim
import Derived.Shelf.Small.Utf8
import Derived.Shelf.Small.Strs
import Derived.Shelf.Strings.Search1
import Derived.Shelf.Strings.Search2
import Derived.Shelf.Strings.Search3
import Derived.Shelf.Strings.Count
import Derived.Shelf.LaysM
import Derived.Shelf.Strings.Shaped
import Derived.Shelf.Strings.LastIndex
import Derived.Shelf.Strings.Runes
import Derived.Shelf.Strings.AsciiSet
import Derived.Shelf.Unicode.DecodeSlow
import Derived.Shelf.Strings.SlTrimAscii
import Derived.Test.YtkckpmcpmngiiaaGreatDoorRows
import Derived.Lib.CutLaws
/- The reference's Escape, by the machine. -/
set_option linter.unusedSimpArgs false
set_option linter.unusedVariables false
set_option maxRecDepth 1000000
set_option maxHeartbeats 1000000
namespace Go.Proofs.YtkckpmcpmngiiaaGreatDoor
open Go Go.Pm Go.RowKit
def esc1 (c : UInt8) : Bs := if c.toNat = 38 then [38, 97, 109, 112, 59] else if c.toNat = 60 then [38, 108, 116, 59] else if c.toNat = 62 then [38, 103, 116, 59] else if c.toNat = 34 then [38, 113, 117, 111, 116, 59] else if c.toNat = 9 then [38, 35, 57, 59] else if c.toNat = 10 then [38, 35, 49, 48, 59] else [c]
/-- A text as it is written in a value. -/
def esc (s : Bs) : Bs := s.flatMap esc1
theorem esc_snoc {s : Bs} {i : Nat} {c : UInt8} (h : s[i]? = some c) : esc (s.take (i + 1)) = esc (s.take i) ++ esc1 c := by
  unfold esc
  rw [List.take_add_one, h]; simp
theorem esc1_len (c : UInt8) : (esc1 c).length ≤ 6 := by
  unfold esc1
  repeat' split
  all_goals simp
theorem esc_len : ∀ s : Bs, (esc s).length ≤ 6 * s.length
  | [] => by simp [esc]
  | c :: r => by
    have h1 := esc_len r
    have h2 := esc1_len c
    unfold esc at *
    simp only [List.flatMap_cons, List.length_append, List.length_cons]; omega
theorem take_drop1 {s : Bs} {i : Nat} {c : UInt8} (h : s[i]? = some c) : (s.take (i + 1)).drop i = [c] := by
  have hi := (List.getElem?_eq_some_iff.1 h).1
  rw [List.take_add_one, h, List.drop_append_of_le_length (by simp; omega), List.drop_of_length_le (by rw [List.length_take]; omega)]; rfl
theorem loop19 {F : List Fr} {P : SV × List Blk → Prop} {H : List Blk} (s : Bs) (hs : s.length ≤ 100000000) : ∀ (r i : Nat), i + r = s.length →
    (X Y T0 [.tmp 2] F (.exit 0) ⟨mk 46 .J [(3, .str (esc s))], H⟩ P) →
    X Y T0 [.tmp 2] F (.loop (loopN Tryz.f19 0)) ⟨mk 46 .J [(0, .str s), (3, .str (esc (s.take i))), (4, .i (i : Nat))], H⟩ P := by
  intro r
  induction r with
  | zero =>
    intro i e hx
    have e1 : i = s.length := by omega
    subst e1
    rw [List.take_length]
    apply X_loop_of
    · simp only [loopN, Tryz.f19, loopsOf, List.nil_append, List.append_nil, List.cons_append, List.getD_cons_succ, List.getD_cons_zero]; rfl
    simp
    refine X_keep hx (by simp)
  | succ r ih =>
    intro i e hx
    have hi : i < s.length := by omega
    obtain ⟨c, hc⟩ : ∃ c, s[i]? = some c := ⟨_, List.getElem?_eq_getElem hi⟩
    have q3 := next_i (m := i) (by omega)
    have c4 : ((i : Nat) : Int) < (s.length : Nat) := by omega
    have hi1 : i + 1 ≤ s.length := by omega
    have ih := ih (i + 1) (by omega) hx
    rw [esc_snoc hc] at ih
    have hl := esc_len (s.take i)
    rw [List.length_take] at hl
    have td := take_drop1 hc
    generalize esc (s.take i) = acc at *
    have d1 : acc.length ≤ 4611686018427387903 := by omega
    have d4 : acc.length ≤ 4611686018427387900 := by omega
    have d5 : acc.length ≤ 4611686018427387899 := by omega
    have d6 : acc.length ≤ 4611686018427387898 := by omega
    have c5 : ((i : Nat) : Int) ≤ ((i + 1 : Nat) : Int) := by omega
    have c6 : ((i + 1 : Nat) : Int) ≤ (s.length : Nat) := by omega
    have c7 : (0 : Int) ≤ ((i + 1 : Nat) : Int) := by omega
    have c8 : ((i + 1 : Nat) : Int).toNat = i + 1 := Int.toNat_natCast _
    have c9 : i ≤ i + 1 := by omega
    apply X_loop_of
    · simp only [loopN, Tryz.f19, loopsOf, List.nil_append, List.append_nil, List.cons_append, List.getD_cons_succ, List.getD_cons_zero]; rfl
    unfold esc1 at ih
    by_cases h1 : c.toNat = 38
    · have z1 : ((c.toNat : Nat) : Int) = 38 := by omega
      simp only [h1, if_true] at ih
      simp [-Int.natCast_add, -Int.not_lt, -Int.not_le, -getElem?_pos, q3, c4, hi, hc, z1, beqZ, d5]
      refine X_keep ih (by simp)
    have z1 : ¬ ((c.toNat : Nat) : Int) = 38 := by omega
    by_cases h2 : c.toNat = 60
    · have z2 : ((c.toNat : Nat) : Int) = 60 := by omega
      simp [h2] at ih
      simp [-Int.natCast_add, -Int.not_lt, -Int.not_le, -getElem?_pos, q3, c4, hi, hc, z2, beqZ, d4]
      refine X_keep ih (by simp)
    have z2 : ¬ ((c.toNat : Nat) : Int) = 60 := by omega
    by_cases h3 : c.toNat = 62
    · have z3 : ((c.toNat : Nat) : Int) = 62 := by omega
      simp [h3] at ih
      simp [-Int.natCast_add, -Int.not_lt, -Int.not_le, -getElem?_pos, q3, c4, hi, hc, z3, beqZ, d4]
      refine X_keep ih (by simp)
    have z3 : ¬ ((c.toNat : Nat) : Int) = 62 := by omega
    by_cases h4 : c.toNat = 34
    · have z4 : ((c.toNat : Nat) : Int) = 34 := by omega
      simp [h4] at ih
      simp [-Int.natCast_add, -Int.not_lt, -Int.not_le, -getElem?_pos, q3, c4, hi, hc, z4, beqZ, d6]
      refine X_keep ih (by simp)
    have z4 : ¬ ((c.toNat : Nat) : Int) = 34 := by omega
    by_cases h5 : c.toNat = 9
    · have z5 : ((c.toNat : Nat) : Int) = 9 := by omega
      simp [h5] at ih
      simp [-Int.natCast_add, -Int.not_lt, -Int.not_le, -getElem?_pos, q3, c4, hi, hc, z5, beqZ, d4]
      refine X_keep ih (by simp)
    have z5 : ¬ ((c.toNat : Nat) : Int) = 9 := by omega
    by_cases h6 : c.toNat = 10
    · have z6 : ((c.toNat : Nat) : Int) = 10 := by omega
      simp [h6] at ih
      simp [-Int.natCast_add, -Int.not_lt, -Int.not_le, -getElem?_pos, q3, c4, hi, hc, z6, beqZ, d5]
      refine X_keep ih (by simp)
    have z6 : ¬ ((c.toNat : Nat) : Int) = 10 := by omega
    simp [h1, h2, h3, h4, h5, h6] at ih
    simp [-Int.natCast_add, -Int.not_lt, -Int.not_le, -getElem?_pos, q3, c4, c5, c6, c7, c8, c9, hi, hi1, hc, z1, z2, z3, z4, z5, z6, h1, h2, h3, h4, h5, h6, beqZ, td, d1]
    refine X_keep ih (by simp)
theorem x19 (s : Bs) (hs : s.length ≤ 100000000) : XFn Y T0 Tryz.f19 [.str s] [] (Is (.str (esc s))) := by
  unfold XFn Tryz.f19
  rw [enter_1 _ (by decide)]
  have L := fun F P H => loop19 (F := F) (P := P) (H := H) s hs s.length 0 (by omega)
  simp only [List.take_zero] at L
  simp [-outR]
  refine X_keep (L _ _ _ ?_) (by simp [esc])
  simp
def F19 : List SV → Option SV
  | [.pv (.str s)] => if s.length ≤ 100000000 then some (.str (esc s)) else none
  | _ => none
theorem meets19 (W0 : World) : OkAt W0 19 F19 := meets_fn env tok_nil mixed Tryz.func19 (by kernel_rfl) (by kernel_rfl) fun args r h => by
  unfold F19 at h
  split at h
  · split at h
    · rename_i hc; cases h; exact x19 _ hc
    · cases h
  · cases h
end Go.Proofs.YtkckpmcpmngiiaaGreatDoor
/- Attributes printed, by the machine. -/
set_option linter.unusedSimpArgs false
set_option linter.unusedVariables false
set_option maxRecDepth 1000000
set_option maxHeartbeats 1000000
namespace Go.Proofs.YtkckpmcpmngiiaaGreatDoor
open Go Go.Pm Go.RowKit
def prA (a : Bs × Bs) : Bs := (((([32] ++ a.1) ++ [61, 34]) ++ esc a.2) ++ [34])
def prAs (l : List (Bs × Bs)) : Bs := l.flatMap prA
theorem prAs_snoc {l : List (Bs × Bs)} {i : Nat} {x : Bs × Bs} (h : l[i]? = some x) : prAs (l.take (i + 1)) = prAs (l.take i) ++ prA x := by
  unfold prAs; rw [take_snoc' h]; simp
noncomputable def T33 (A : List SV → List Blk → Option (SV × List Blk)) : FuncId → Option Pm.Spec := tab [(55, .heap (arunAll Y T97 Tryz.f55)), (18, .pure false F19), (33, .heap A)]
theorem T33_eq (A : List SV → List Blk → Option (SV × List Blk)) (g : Nat) : T33 A g = tab [(55, .heap (arunAll Y T97 Tryz.f55)), (18, .pure false F19), (33, .heap A)] g := rfl
theorem loop33a {A : List SV → List Blk → Option (SV × List Blk)} {F : List Fr} {P : SV × List Blk → Prop} {rs : List ResultVar} {n0 kc q : Nat} {ind bs : Bs} {a : PV} {l : List (Bs × Bs)} {cs : List SV} (ha : atP a = some l) (hl : l.length ≤ 1000) (hsm : ∀ x ∈ l, x.1.length ≤ 1000 ∧ x.2.length ≤ 8000) (hqk : q ≠ kc) : ∀ (r i : Nat) (H : List Blk), i + r = l.length → (bs ++ prAs (l.take i)).length + 60000 * r ≤ 150000000 → H[q]? = some (.box (some 33) cs) → BldN n0 kc (bs ++ prAs (l.take i)) H →
    (∀ H', Frm n0 kc H H' → H'[q]? = some (.box (some 33) cs) → BldN n0 kc (bs ++ prAs l) H' → X Y (T33 A) rs F (.exit 0) ⟨mk 81 .J [(1, .ptr kc 0), (2, .str ind), (3, .ptr q 0)], H'⟩ P) →
    X Y (T33 A) rs F (.loop (loopN Tryz.f33 0)) ⟨mk 81 .J [(1, .ptr kc 0), (2, .str ind), (3, .ptr q 0), (18, .pv a), (19, .i (l.length : Nat)), (20, .i (i : Nat))], H⟩ P := by
  intro r
  induction r with
  | zero =>
    intro i H e hb hq hB hx
    have e1 : i = l.length := by omega
    subst e1
    rw [List.take_length] at hB
    apply X_loop_of
    · simp only [loopN, Tryz.f33, loopsOf, List.nil_append, List.append_nil, List.cons_append, List.getD_cons_succ, List.getD_cons_zero]; rfl
    simp
    refine X_keep (hx H (Frm.refl _ _ _) hq hB) (by simp)
  | succ r ih =>
    intro i H e hb hq hB hx
    have hi : i < l.length := by omega
    obtain ⟨x, hxi⟩ : ∃ x, l[i]? = some x := ⟨_, List.getElem?_eq_getElem hi⟩
    have hat := (at_at ha hxi).1
    obtain ⟨x1, x2⟩ := hsm x (List.mem_of_getElem? hxi)
    have q3 := next_i (m := i) (by omega)
    have c4 : ((i : Nat) : Int) < (l.length : Nat) := by omega
    have hel := esc_len x.2
    have hpl : (prA x).length ≤ 60000 := by unfold prA; simp; omega
    have hf := hB.more [.box (some 48) [.pv (.str x.1), .pv (.str x.2)]]
    obtain ⟨H2, f4, hB2, hF2⟩ := all55N hf (prA x) (by simp only [List.length_append] at hb ⊢; omega)
    rw [List.append_assoc, ← prAs_snoc hxi] at hB2
    have fe : F19 [.str x.2] = some (.str (esc x.2)) := by simp only [F19]; rw [if_pos (by omega)]
    have fr1 : Frm n0 kc H (H ++ [.box (some 48) [.pv (.str x.1), .pv (.str x.2)]]) := ⟨by simp, fun j hj => List.getElem?_append_left (by have := hB.le; omega), fun j t cs hj hh => by rw [List.getElem?_append_left (List.getElem?_eq_some_iff.1 hh).1]; exact hh⟩
    have hq2 := hF2.box q _ _ hqk (app_at (c := .box (some 48) [.pv (.str x.1), .pv (.str x.2)]) hq)
    have d0 : x.1.length ≤ 4611686018427387901 := by omega
    have d1 : 1 + x.1.length ≤ 4611686018427387904 := by omega
    have d2 : x.1.length + 2 + 1 + (esc x.2).length ≤ 4611686018427387904 := by omega
    have d3 : x.1.length + ((esc x.2).length + 1 + 1) ≤ 4611686018427387902 := by omega
    have hps : prA x = 32 :: (x.1 ++ 61 :: 34 :: (esc x.2 ++ [34])) := by simp [prA]
    rw [hps] at f4
    apply X_loop_of
    · simp only [loopN, Tryz.f33, loopsOf, List.nil_append, List.append_nil, List.cons_append, List.getD_cons_succ, List.getD_cons_zero]; rfl
    simp [-Int.natCast_add, -Int.not_lt, -Int.not_le, -aIndexAddr, -getElem?_pos, List.getElem?_cons_zero, List.getElem?_cons_succ, T33_eq, q3, c4, hi, hat, get_last, set_last, fe, d0, d1, d2, d3, f4]
    refine X_keep (ih (i + 1) H2 (by omega) (by rw [prAs_snoc hxi]; simp only [List.length_append] at hb ⊢; omega) hq2 hB2 (fun H' h1 h2 h3 => hx H' ((fr1.trans hF2).trans h1) h2 h3)) ?_
    simp
end Go.Proofs.YtkckpmcpmngiiaaGreatDoor
/- Children printed, by the machine. -/
set_option linter.unusedSimpArgs false
set_option linter.unusedVariables false
set_option maxRecDepth 1000000
set_option maxHeartbeats 1000000
namespace Go.Proofs.YtkckpmcpmngiiaaGreatDoor
open Go Go.Pm Go.RowKit
theorem drop_flat {l : List Nd} {i : Nat} {n : Nd} (f : Nd → Bs) (h : l[i]? = some n) : (l.take (i + 1)).flatMap f = (l.take i).flatMap f ++ f n := by
  rw [take_snoc' h]; simp
theorem loop33b {A : List SV → List Blk → Option (SV × List Blk)} {F : List Fr} {P : SV × List Blk → Prop} {rs : List ResultVar} {n0 kc q : Nat} {ind bs : Bs} {k : PV} {ks : List Nd} {cs : List SV} (pr : Nd → Bs) (hk : kidP k = some ks) (hl : ks.length ≤ 1000000) (hqk : q ≠ kc) (hin : ind.length ≤ 100000) (tot : Nat)
    (hA : ∀ c ∈ ks, ∀ (v : SV) (H : List Blk) (b : Bs), argN v = some c → BldN n0 kc b H → b.length + (pr c).length ≤ tot → ∃ H', A [v, .ptr kc 0, .str (ind ++ [32, 32])] H = some (.tuple [], H') ∧ BldN n0 kc (b ++ pr c) H' ∧ Frm n0 kc H H')
    (htot : (bs ++ ks.flatMap pr).length ≤ tot) : ∀ (r i : Nat) (H : List Blk), i + r = ks.length → H[q]? = some (.box (some 33) cs) → BldN n0 kc (bs ++ (ks.take i).flatMap pr) H →
    (∀ H', Frm n0 kc H H' → H'[q]? = some (.box (some 33) cs) → BldN n0 kc (bs ++ ks.flatMap pr) H' → X Y (T33 A) rs F (.exit 3) ⟨mk 81 .J [(1, .ptr kc 0), (2, .str ind), (3, .ptr q 0)], H'⟩ P) →
    X Y (T33 A) rs F (.loop (loopN Tryz.f33 1)) ⟨mk 81 .J [(1, .ptr kc 0), (2, .str ind), (3, .ptr q 0), (55, .pv k), (56, .i (ks.length : Nat)), (57, .i (i : Nat))], H⟩ P := by
  intro r
  induction r with
  | zero =>
    intro i H e hq hB hx
    have e1 : i = ks.length := by omega
    subst e1
    rw [List.take_length] at hB
    apply X_loop_of
    · simp only [loopN, Tryz.f33, loopsOf, List.nil_append, List.append_nil, List.cons_append, List.getD_cons_succ, List.getD_cons_zero]; rfl
    simp
    refine X_keep (hx H (Frm.refl _ _ _) hq hB) (by simp)
  | succ r ih =>
    intro i H e hq hB hx
    have hi : i < ks.length := by omega
    obtain ⟨n, hn⟩ : ∃ n, ks[i]? = some n := ⟨_, List.getElem?_eq_getElem hi⟩
    have hmem := List.mem_of_getElem? hn
    obtain ⟨nm, a', tx, k', hat, -, hv⟩ := kid_at hk hn
    have q3 := next_i (m := i) (by omega)
    have c4 : ((i : Nat) : Int) < (ks.length : Nat) := by omega
    have hsub : (bs ++ (ks.take i).flatMap pr).length + (pr n).length ≤ tot := by
      have h1 : ks.flatMap pr = (ks.take (i + 1)).flatMap pr ++ (ks.drop (i + 1)).flatMap pr := by rw [← List.flatMap_append, List.take_append_drop]
      rw [h1, drop_flat pr hn] at htot
      simp only [List.length_append] at htot ⊢
      omega
    obtain ⟨H2, f4, hB2, hF2⟩ := hA n hmem _ _ _ hv (hB.more [.box (some 33) [.pv (.str nm), .pv a', .pv (.str tx), .pv k']]) hsub
    rw [List.append_assoc, ← drop_flat pr hn] at hB2
    have fr1 : Frm n0 kc H (H ++ [.box (some 33) [.pv (.str nm), .pv a', .pv (.str tx), .pv k']]) := ⟨by simp, fun j hj => List.getElem?_append_left (by have := hB.le; omega), fun j t cs hj hh => by rw [List.getElem?_append_left (List.getElem?_eq_some_iff.1 hh).1]; exact hh⟩
    have hq2 := hF2.box q _ _ hqk (app_at (c := .box (some 33) [.pv (.str nm), .pv a', .pv (.str tx), .pv k']) hq)
    have d0 : ind.length ≤ 4611686018427387902 := by omega
    apply X_loop_of
    · simp only [loopN, Tryz.f33, loopsOf, List.nil_append, List.append_nil, List.cons_append, List.getD_cons_succ, List.getD_cons_zero]; rfl
    simp [-Int.natCast_add, -Int.not_lt, -Int.not_le, -aIndexAddr, -getElem?_pos, List.getElem?_cons_zero, List.getElem?_cons_succ, T33_eq, q3, c4, hi, hat, get_last, set_last, d0, f4]
    refine X_keep (ih (i + 1) H2 (by omega) hq2 hB2 (fun H' h1 h2 h3 => hx H' ((fr1.trans hF2).trans h1) h2 h3)) ?_
    simp
end Go.Proofs.YtkckpmcpmngiiaaGreatDoor
/- An element printed, by the machine. -/
set_option linter.unusedSimpArgs false
set_option linter.unusedVariables false
set_option maxRecDepth 1000000
set_option maxHeartbeats 1000000
namespace Go.Proofs.YtkckpmcpmngiiaaGreatDoor
open Go Go.Pm Go.RowKit
def prN : Nat → Bs → Nd → Bs
  | 0, _, _ => []
  | m + 1, ind, n => (((ind ++ [60]) ++ n.name) ++ prAs n.attrs) ++ id (if n.kids ≠ [] then ([62, 10] ++ n.kids.flatMap (prN m (ind ++ [32, 32]))) ++ (((ind ++ [60, 47]) ++ n.name) ++ [62, 10]) else if n.text = [] then [47, 62, 10] else (((([62] ++ esc n.text) ++ [60, 47]) ++ n.name) ++ [62, 10]))
def smN : Nat → Nd → Prop
  | 0, _ => False
  | m + 1, n => (n.name.length ≤ 1000 ∧ n.attrs.length ≤ 40 ∧ (∀ x ∈ n.attrs, x.1.length ≤ 1000 ∧ x.2.length ≤ 8000) ∧ n.text.length ≤ 8000 ∧ n.kids.length ≤ 1000000) ∧ ∀ c ∈ n.kids, smN m c
noncomputable def A33 : Nat → List SV → List Blk → Option (SV × List Blk)
  | 0 => fun _ _ => none
  | m + 1 => arunAll Y (T33 (A33 m)) Tryz.f33
theorem x33 {m : Nat} {n0 kc : Nat} {H : List Blk} {ind bs : Bs} {a k : PV} {n : Nd} (ha : atP a = some n.attrs) (hk : kidP k = some n.kids) (hsm : smN (m + 1) n) (hin : ind.length ≤ 90000) (hB : BldN n0 kc bs H) (htot : (bs ++ prN (m + 1) ind n).length ≤ 90000000)
    (hA : ∀ c ∈ n.kids, ∀ (v : SV) (H : List Blk) (b : Bs), argN v = some c → BldN n0 kc b H → b.length + (prN m (ind ++ [32, 32]) c).length ≤ 90000000 → ∃ H', A33 m [v, .ptr kc 0, .str (ind ++ [32, 32])] H = some (.tuple [], H') ∧ BldN n0 kc (b ++ prN m (ind ++ [32, 32]) c) H' ∧ Frm n0 kc H H') :
    XFn Y (T33 (A33 m)) Tryz.f33 [nodeS n.name a n.text k, .ptr kc 0, .str ind] H (fun x => x.1 = .tuple [] ∧ BldN n0 kc (bs ++ prN (m + 1) ind n) x.2 ∧ Frm n0 kc H x.2) := by
  unfold XFn Tryz.f33
  rw [enter_3 _ (by decide)]
  obtain ⟨⟨s1, s2, s3, s4, s5⟩, -⟩ := hsm
  have hal := (at_len ha).1
  have hkl := (kid_len hk).1
  have hlt := hB.lt
  have hne : H.length ≠ kc := by omega
  have hpr : prN (m + 1) ind n = (((ind ++ [60]) ++ n.name) ++ prAs n.attrs) ++ (if n.kids ≠ [] then ([62, 10] ++ n.kids.flatMap (prN m (ind ++ [32, 32]))) ++ (((ind ++ [60, 47]) ++ n.name) ++ [62, 10]) else if n.text = [] then [47, 62, 10] else (((([62] ++ esc n.text) ++ [60, 47]) ++ n.name) ++ [62, 10])) := rfl
  obtain ⟨T, hT⟩ : ∃ T : Bs, T = (if n.kids ≠ [] then ([62, 10] ++ n.kids.flatMap (prN m (ind ++ [32, 32]))) ++ (((ind ++ [60, 47]) ++ n.name) ++ [62, 10]) else if n.text = [] then [47, 62, 10] else (((([62] ++ esc n.text) ++ [60, 47]) ++ n.name) ++ [62, 10])) := ⟨_, rfl⟩
  rw [← hT] at hpr
  rw [hpr] at htot ⊢
  simp only [List.length_append] at htot
  have hf := hB.more [.box (some 33) [.pv (.str n.name), .pv a, .pv (.str n.text), .pv k]]
  have fr0 : Frm n0 kc H (H ++ [.box (some 33) [.pv (.str n.name), .pv a, .pv (.str n.text), .pv k]]) := ⟨by simp, fun j hj => List.getElem?_append_left (by have := hB.le; omega), fun j t cs hj hh => by rw [List.getElem?_append_left (List.getElem?_eq_some_iff.1 hh).1]; exact hh⟩
  obtain ⟨H1, f1, hB1, hF1⟩ := all55N hf ((ind ++ [60]) ++ n.name) (by simp only [List.length_append]; omega)
  have g1 := hF1.box H.length _ _ hne (get_last H _)
  have d0 : ind.length ≤ 4611686018427387903 := by omega
  have d1 : ind.length + 1 + n.name.length ≤ 4611686018427387904 := by omega
  have d2 : ind.length + (n.name.length + 1) ≤ 4611686018427387904 := by omega
  rw [show (ind ++ [60]) ++ n.name = ind ++ 60 :: n.name by simp] at f1
  simp [-outR, -aLen, -getElem?_pos, List.getElem?_cons_zero, List.getElem?_cons_succ, T33_eq, get_last, d0, d1, d2, f1, g1, hal]
  refine X_keep (loop33a (A := A33 m) (n0 := n0) (kc := kc) (q := H.length) (ind := ind) (bs := bs ++ (ind ++ 60 :: n.name)) (cs := [.pv (.str n.name), .pv a, .pv (.str n.text), .pv k]) ha (by omega) s3 hne n.attrs.length 0 H1 (by omega) (by simp [prAs]; simp at htot; omega) g1 (by simpa [prAs] using hB1) (fun H2 hF2 g2 hB2 => ?_)) ?_
  rotate_left
  · simp
  have p2 : bs ++ (ind ++ 60 :: n.name) ++ prAs n.attrs = bs ++ (((ind ++ [60]) ++ n.name) ++ prAs n.attrs) := by simp
  rw [p2] at hB2
  have frA := (fr0.trans hF1).trans hF2
  by_cases hkk : n.kids = []
  · have hl0 : aLen Y 31 (.pv k) = some 0 := by rw [hkl, hkk]; rfl
    rw [if_neg (by simp [hkk])] at hT
    by_cases ht : n.text = []
    · rw [if_pos ht] at hT
      subst hT
      obtain ⟨H3, f3, hB3, hF3⟩ := all55N hB2 [47, 62, 10] (by simp only [List.length_append]; simp at htot ⊢; omega)
      rw [List.append_assoc] at hB3
      simp [-outR, -aLen, -getElem?_pos, List.getElem?_cons_zero, List.getElem?_cons_succ, T33_eq, g2, hl0, ht, f3]
      exact ⟨by simpa using hB3, frA.trans hF3⟩
    · rw [if_neg ht] at hT
      subst hT
      have hel := esc_len n.text
      have fe : F19 [.str n.text] = some (.str (esc n.text)) := by simp only [F19]; rw [if_pos (by omega)]
      obtain ⟨H3, f3, hB3, hF3⟩ := all55N hB2 (((([62] ++ esc n.text) ++ [60, 47]) ++ n.name) ++ [62, 10]) (by simp only [List.length_append]; simp at htot ⊢; omega)
      rw [List.append_assoc] at hB3
      rw [show ((([62] ++ esc n.text) ++ [60, 47]) ++ n.name) ++ [62, 10] = 62 :: (esc n.text ++ 60 :: 47 :: (n.name ++ [62, 10])) by simp] at f3
      simp [-outR, -aLen, -getElem?_pos, List.getElem?_cons_zero, List.getElem?_cons_succ, T33_eq, g2, hl0, ht, fe, f3]
      refine ⟨fun _ => ⟨fun _ => ⟨fun _ => ⟨fun _ => ⟨by simpa using hB3, frA.trans hF3⟩, by omega⟩, by omega⟩, by omega⟩, by omega⟩
  · rw [if_pos hkk] at hT
    subst hT
    have hpos : 0 < n.kids.length := by
      have : n.kids.length ≠ 0 := fun h => hkk (List.length_eq_zero_iff.1 h)
      omega
    have c1 : (0 : Int) < (n.kids.length : Nat) := by omega
    simp only [List.length_append, List.length_cons, List.length_nil] at htot
    obtain ⟨H3, f3, hB3, hF3⟩ := all55N hB2 [62, 10] (by simp only [List.length_append, List.length_cons, List.length_nil]; omega)
    have g3 := hF3.box H.length _ _ hne g2
    simp [-outR, -Int.not_lt, -aLen, -getElem?_pos, List.getElem?_cons_zero, List.getElem?_cons_succ, T33_eq, g2, g3, hkl, c1, hpos, f3]
    refine X_keep (loop33b (A := A33 m) (n0 := n0) (kc := kc) (q := H.length) (ind := ind) (bs := bs ++ (((ind ++ [60]) ++ n.name) ++ prAs n.attrs) ++ [62, 10]) (cs := [.pv (.str n.name), .pv a, .pv (.str n.text), .pv k]) (prN m (ind ++ [32, 32])) hk s5 hne (by omega) 90000000 hA (by simp only [List.length_append, List.length_cons, List.length_nil]; omega) n.kids.length 0 H3 (by omega) g3 (by simpa using hB3) (fun H4 hF4 g4 hB4 => ?_)) ?_
    rotate_left
    · simp
    obtain ⟨H5, f5, hB5, hF5⟩ := all55N hB4 (((ind ++ [60, 47]) ++ n.name) ++ [62, 10]) (by simp only [List.length_append, List.length_cons, List.length_nil]; omega)
    rw [show ((ind ++ [60, 47]) ++ n.name) ++ [62, 10] = ind ++ 60 :: 47 :: (n.name ++ [62, 10]) by simp] at f5
    have b0 : ind.length ≤ 4611686018427387902 := by omega
    have b1 : ind.length + 2 + n.name.length ≤ 4611686018427387904 := by omega
    have b2 : ind.length + (n.name.length + 1 + 1) ≤ 4611686018427387904 := by omega
    have b3 : ind.length + (n.name.length + 1 + 1) ≤ 4611686018427387902 := by omega
    have b4 : ind.length + (n.name.length + 1 + 1) ≤ 4611686018427387903 := by omega
    simp [-outR, -Int.not_lt, -aLen, -getElem?_pos, List.getElem?_cons_zero, List.getElem?_cons_succ, T33_eq, g4, b0, b1, b2, b3, b4, f5]
    exact ⟨by simpa using hB5, ((frA.trans hF3).trans hF4).trans hF5⟩
theorem all33 {n0 kc : Nat} : ∀ (m : Nat) (n : Nd) (v : SV) (ind bs : Bs) (H : List Blk), smN m n → argN v = some n → ind.length + 2 * m ≤ 90000 → BldN n0 kc bs H → (bs ++ prN m ind n).length ≤ 90000000 →
    ∃ H', A33 m [v, .ptr kc 0, .str ind] H = some (.tuple [], H') ∧ BldN n0 kc (bs ++ prN m ind n) H' ∧ Frm n0 kc H H'
  | 0, n, v, ind, bs, H, hsm, _, _, _, _ => hsm.elim
  | m + 1, n, v, ind, bs, H, hsm, hv, hin, hB, htot => by
    obtain ⟨a, k, rfl, ha, hk⟩ := argN_or hv
    obtain ⟨r, H', h1, h2, h3, h4⟩ := all_of_XFn (by rfl) (x33 (m := m) ha hk hsm (by omega) hB htot (fun c hc v H b hv hb ht => all33 m c v (ind ++ [32, 32]) b H (hsm.2 c hc) hv (by simp only [List.length_append, List.length_cons, List.length_nil]; omega) hb (by rw [List.length_append]; exact ht)))
    simp only at h2 h3 h4
    subst h2
    exact ⟨H', h1, h3, h4⟩
theorem meets33 {W0 : World} (h18 : OkAt W0 18 F19) : ∀ m, Enterable Tryz.prog 33 ∧ Meets Tryz.prog W0 33 (specFn (.heap (A33 m)))
  | 0 => ⟨enterable_of Tryz.func33 (by kernel_rfl), fun C args vs r H' h => by cases h⟩
  | m + 1 => meets_heap env (tok_cons (meets55 W0) (tok_cons h18 (tok_cons (meets33 h18 m) tok_nil))) mixed Tryz.func33 (by kernel_rfl) (by kernel_rfl)
end Go.Proofs.YtkckpmcpmngiiaaGreatDoor
/- Print, by the machine. -/
set_option linter.unusedSimpArgs false
set_option linter.unusedVariables false
set_option maxRecDepth 1000000
set_option maxHeartbeats 1000000
namespace Go.Proofs.YtkckpmcpmngiiaaGreatDoor
open Go Go.Pm Go.RowKit
noncomputable def T12 (m : Nat) : FuncId → Option Pm.Spec := tab [(22, .pure false F22), (33, .heap (A33 m)), (34, .heap (arunAll Y T0 Tryz.f34)), (35, .heap (stringF 5))]
theorem T12_eq (m g : Nat) : T12 m g = tab [(22, .pure false F22), (33, .heap (A33 m)), (34, .heap (arunAll Y T0 Tryz.f34)), (35, .heap (stringF 5))] g := rfl
/-- Print. -/
def prtE (m : Nat) (n : Nd) : SV := if chkE n ≠ 0 then .tuple [.str [], .i (chkE n)] else if 4194304 < (prN m [] n).length then .tuple [.str [], .i 5] else .tuple [.str (prN m [] n), .i 0]
theorem x12 {m : Nat} {a k : PV} {n : Nd} (ha : atP a = some n.attrs) (hk : kidP k = some n.kids) (hc : n.count ≤ 1000000) (hsm : smN m n) (hm : 2 * m ≤ 90000) (hp : (prN m [] n).length ≤ 90000000) :
    XFn Y (T12 m) Tryz.f12 [nodeS n.name a n.text k] [] (Is (prtE m n)) := by
  unfold XFn Tryz.f12
  rw [enter_1 _ (by decide)]
  have hv : argN (nodeS n.name a n.text k) = some n := by have := argN_mk (nm := n.name) (tx := n.text) ha hk; cases n; exact this
  have f1 := F22_ok hv hc
  unfold prtE
  by_cases he : chkE n = 0
  · have hB : BldN 1 1 [] [.box (some 33) [.pv (.str n.name), .pv a, .pv (.str n.text), .pv k], .box (some 61) [.pv .nilPtr, .pv .nilSlice]] :=
      ⟨⟨.pv .nilPtr, .pv .nilSlice, rfl, .inl rfl, .inl ⟨rfl, rfl⟩, fun _ _ _ _ h => by cases h⟩, by omega, by simp⟩
    obtain ⟨H2, f2, hB2, hF2⟩ := all33 m n _ [] [] _ hsm hv (by simpa using hm) hB (by simpa using hp)
    rw [List.nil_append] at hB2
    have f3 := all34 hB2.bld
    have f4 := str_at hB2.bld
    rw [if_neg (by simp [he])]
    by_cases hl : 4194304 < (prN m [] n).length
    · have c1 : (4194304 : Int) < ((prN m [] n).length : Nat) := by omega
      rw [if_pos hl]
      simp [-Int.not_lt, -getElem?_pos, List.getElem?_cons_zero, List.getElem?_cons_succ, T12_eq, f1, he, f2, f3, c1, hl, beqZ, bneZ]
    · have c1 : ¬ (4194304 : Int) < ((prN m [] n).length : Nat) := by omega
      rw [if_neg hl]
      simp [-Int.not_lt, -getElem?_pos, List.getElem?_cons_zero, List.getElem?_cons_succ, T12_eq, f1, he, f2, f3, f4, c1, hl, beqZ, bneZ]
  · rw [if_pos he]
    simp [-getElem?_pos, List.getElem?_cons_zero, List.getElem?_cons_succ, T12_eq, f1, he, beqZ, bneZ]
open Classical in
noncomputable def F12 (m : Nat) : List SV → Option SV
  | [v] => match argN v with
    | some n => if n.count ≤ 1000000 ∧ smN m n ∧ (prN m [] n).length ≤ 90000000 then some (prtE m n) else none
    | none => none
  | _ => none
theorem meets12 {W0 : World} (h18 : OkAt W0 18 F19) {m : Nat} (hm : 2 * m ≤ 90000) : OkAt W0 12 (F12 m) := meets_fn env (tok_cons (meets22 W0) (tok_cons (meets33 h18 m) (tok_cons (meets34 W0) (tok_cons (meets35 W0) tok_nil)))) mixed Tryz.func12 (by kernel_rfl) (by kernel_rfl) fun args r h => by
  unfold F12 at h
  split at h
  · split at h
    · rename_i n hn
      split at h
      · rename_i hc
        cases h
        obtain ⟨a, k, rfl, ha, hk⟩ := argN_or hn
        exact x12 ha hk hc.1 hc.2.1 hm hc.2.2
      · cases h
    · cases h
  · cases h
end Go.Proofs.YtkckpmcpmngiiaaGreatDoor
/- The library's contracts that this seat leans on, at this dump: the layings alone, written by the shelf's own tools. -/
namespace Go.Proofs
open Go.Shelf
def Tryz.lays143_ren : Go.Shelf.Ren := ⟨fun | 143 => 58 | 219 => 75 | 217 => 86 | 225 => 87 | 224 => 88 | 267 => 89 | 266 => 104 | 314 => 105 | n => n, fun | 9 => 9 | 3 => 3 | 4 => 4 | 5 => 5 | 46 => 123 | 146 => 152 | 51 => 97 | n => n, fun | 1 => 0 | n => n⟩
theorem Tryz.lays143 : Go.Proofs.Lays.n143 Tryz.prog Tryz.lays143_ren := {
  mixed := by kernel_rfl
  f143 := Tryz.func58.trans (congrArg some (by kernel_rfl))
  f217 := Tryz.func86.trans (congrArg some (by kernel_rfl))
  f219 := Tryz.func75.trans (congrArg some (by kernel_rfl))
  f224 := Tryz.func88.trans (congrArg some (by kernel_rfl))
  f225 := Tryz.func87.trans (congrArg some (by kernel_rfl))
  f266 := Tryz.func104.trans (congrArg some (by kernel_rfl))
  f267 := Tryz.func89.trans (congrArg some (by kernel_rfl))
  f314 := Tryz.func105.trans (congrArg some (by kernel_rfl))
  t3 := Tryz.underlying3
  a3 := Tryz.isAgg3
  z3 := Tryz.sizeOf3
  v3 := Tryz.zeroValue3
  t4 := Tryz.underlying4
  a4 := Tryz.isAgg4
  z4 := Tryz.sizeOf4
  v4 := Tryz.zeroValue4
  t5 := Tryz.underlying5
  a5 := Tryz.isAgg5
  z5 := Tryz.sizeOf5
  v5 := Tryz.zeroValue5
  t9 := Tryz.underlying9
  a9 := Tryz.isAgg9
  z9 := Tryz.sizeOf9
  v9 := Tryz.zeroValue9
  t46 := Tryz.underlying123
  a46 := Tryz.isAgg123
  z46 := Tryz.sizeOf123
  v46 := Tryz.zeroValue123
  t51 := Tryz.underlying97
  a51 := Tryz.isAgg97
  z51 := Tryz.sizeOf97
  v51 := Tryz.zeroValue97
  t146 := Tryz.underlying152
  a146 := Tryz.isAgg152
  z146 := Tryz.sizeOf152
  v146 := Tryz.zeroValue152
  g1 := by kernel_rfl }
def Tryz.lays138_ren : Go.Shelf.Ren := ⟨fun | 138 => 40 | 195 => 63 | 218 => 64 | 143 => 58 | 219 => 75 | 217 => 86 | 225 => 87 | 224 => 88 | 267 => 89 | 266 => 104 | 314 => 105 | n => n, fun | 9 => 9 | 3 => 3 | 4 => 4 | 5 => 5 | 0 => 0 | 46 => 123 | 146 => 152 | 51 => 97 | n => n, fun | 1 => 0 | n => n⟩
theorem Tryz.lays138 : Go.Proofs.Lays.n138 Tryz.prog Tryz.lays138_ren := {
  mixed := by kernel_rfl
  f138 := Tryz.func40.trans (congrArg some (by kernel_rfl))
  f143 := Tryz.func58.trans (congrArg some (by kernel_rfl))
  f195 := Tryz.func63.trans (congrArg some (by kernel_rfl))
  f217 := Tryz.func86.trans (congrArg some (by kernel_rfl))
  f218 := Tryz.func64.trans (congrArg some (by kernel_rfl))
  f219 := Tryz.func75.trans (congrArg some (by kernel_rfl))
  f224 := Tryz.func88.trans (congrArg some (by kernel_rfl))
  f225 := Tryz.func87.trans (congrArg some (by kernel_rfl))
  f266 := Tryz.func104.trans (congrArg some (by kernel_rfl))
  f267 := Tryz.func89.trans (congrArg some (by kernel_rfl))
  f314 := Tryz.func105.trans (congrArg some (by kernel_rfl))
  t0 := Tryz.underlying0
  a0 := Tryz.isAgg0
  z0 := Tryz.sizeOf0
  v0 := Tryz.zeroValue0
  t3 := Tryz.underlying3
  a3 := Tryz.isAgg3
  z3 := Tryz.sizeOf3
  v3 := Tryz.zeroValue3
  t4 := Tryz.underlying4
  a4 := Tryz.isAgg4
  z4 := Tryz.sizeOf4
  v4 := Tryz.zeroValue4
  t5 := Tryz.underlying5
  a5 := Tryz.isAgg5
  z5 := Tryz.sizeOf5
  v5 := Tryz.zeroValue5
  t9 := Tryz.underlying9
  a9 := Tryz.isAgg9
  z9 := Tryz.sizeOf9
  v9 := Tryz.zeroValue9
  t46 := Tryz.underlying123
  a46 := Tryz.isAgg123
  z46 := Tryz.sizeOf123
  v46 := Tryz.zeroValue123
  t51 := Tryz.underlying97
  a51 := Tryz.isAgg97
  z51 := Tryz.sizeOf97
  v51 := Tryz.zeroValue97
  t146 := Tryz.underlying152
  a146 := Tryz.isAgg152
  z146 := Tryz.sizeOf152
  v146 := Tryz.zeroValue152
  g1 := by kernel_rfl }
def Tryz.lays149_ren : Go.Shelf.Ren := ⟨fun | 149 => 41 | 222 => 65 | n => n, fun | 9 => 9 | 5 => 5 | 3 => 3 | 4 => 4 | n => n, fun | n => n⟩
theorem Tryz.lays149 : Go.Proofs.Lays.n149 Tryz.prog Tryz.lays149_ren := {
  mixed := by kernel_rfl
  f149 := Tryz.func41.trans (congrArg some (by kernel_rfl))
  f222 := Tryz.func65.trans (congrArg some (by kernel_rfl))
  t3 := Tryz.underlying3
  a3 := Tryz.isAgg3
  z3 := Tryz.sizeOf3
  v3 := Tryz.zeroValue3
  t4 := Tryz.underlying4
  a4 := Tryz.isAgg4
  z4 := Tryz.sizeOf4
  v4 := Tryz.zeroValue4
  t5 := Tryz.underlying5
  a5 := Tryz.isAgg5
  z5 := Tryz.sizeOf5
  v5 := Tryz.zeroValue5
  t9 := Tryz.underlying9
  a9 := Tryz.isAgg9
  z9 := Tryz.sizeOf9
  v9 := Tryz.zeroValue9 }
def Tryz.lays161_ren : Go.Shelf.Ren := ⟨fun | 161 => 76 | 231 => 90 | 227 => 91 | 233 => 92 | 235 => 93 | 228 => 106 | 197 => 107 | 151 => 108 | 260 => 115 | 152 => 116 | 137 => 126 | 119 => 127 | 224 => 88 | 225 => 87 | 217 => 86 | 266 => 104 | n => n, fun | 9 => 9 | 4 => 4 | 3 => 3 | 5 => 5 | 117 => 127 | 116 => 126 | 0 => 0 | 124 => 130 | 105 => 154 | 21 => 21 | 119 => 145 | 46 => 123 | 139 => 184 | 138 => 183 | n => n, fun | 3 => 1 | 4 => 2 | n => n⟩
theorem Tryz.lays161 : Go.Proofs.Lays.n161 Tryz.prog Tryz.lays161_ren := {
  mixed := by kernel_rfl
  f119 := Tryz.func127.trans (congrArg some (by kernel_rfl))
  f137 := Tryz.func126.trans (congrArg some (by kernel_rfl))
  f151 := Tryz.func108.trans (congrArg some (by kernel_rfl))
  f152 := Tryz.func116.trans (congrArg some (by kernel_rfl))
  f161 := Tryz.func76.trans (congrArg some (by kernel_rfl))
  f197 := Tryz.func107.trans (congrArg some (by kernel_rfl))
  f217 := Tryz.func86.trans (congrArg some (by kernel_rfl))
  f224 := Tryz.func88.trans (congrArg some (by kernel_rfl))
  f225 := Tryz.func87.trans (congrArg some (by kernel_rfl))
  f227 := Tryz.func91.trans (congrArg some (by kernel_rfl))
  f228 := Tryz.func106.trans (congrArg some (by kernel_rfl))
  f231 := Tryz.func90.trans (congrArg some (by kernel_rfl))
  f233 := Tryz.func92.trans (congrArg some (by kernel_rfl))
  f235 := Tryz.func93.trans (congrArg some (by kernel_rfl))
  f260 := Tryz.func115.trans (congrArg some (by kernel_rfl))
  f266 := Tryz.func104.trans (congrArg some (by kernel_rfl))
  t0 := Tryz.underlying0
  a0 := Tryz.isAgg0
  z0 := Tryz.sizeOf0
  v0 := Tryz.zeroValue0
  t3 := Tryz.underlying3
  a3 := Tryz.isAgg3
  z3 := Tryz.sizeOf3
  v3 := Tryz.zeroValue3
  t4 := Tryz.underlying4
  a4 := Tryz.isAgg4
  z4 := Tryz.sizeOf4
  v4 := Tryz.zeroValue4
  t5 := Tryz.underlying5
  a5 := Tryz.isAgg5
  z5 := Tryz.sizeOf5
  v5 := Tryz.zeroValue5
  t9 := Tryz.underlying9
  a9 := Tryz.isAgg9
  z9 := Tryz.sizeOf9
  v9 := Tryz.zeroValue9
  t21 := Tryz.underlying21
  a21 := Tryz.isAgg21
  z21 := Tryz.sizeOf21
  v21 := Tryz.zeroValue21
  t46 := Tryz.underlying123
  a46 := Tryz.isAgg123
  z46 := Tryz.sizeOf123
  v46 := Tryz.zeroValue123
  t105 := Tryz.underlying154
  a105 := Tryz.isAgg154
  z105 := Tryz.sizeOf154
  v105 := Tryz.zeroValue154
  t116 := Tryz.underlying126
  a116 := Tryz.isAgg126
  z116 := Tryz.sizeOf126
  t117 := Tryz.underlying127
  a117 := Tryz.isAgg127
  z117 := Tryz.sizeOf127
  v117 := Tryz.zeroValue127
  t119 := Tryz.underlying145
  a119 := Tryz.isAgg145
  z119 := Tryz.sizeOf145
  t124 := Tryz.underlying130
  a124 := Tryz.isAgg130
  z124 := Tryz.sizeOf130
  v124 := Tryz.zeroValue130
  t138 := Tryz.underlying183
  a138 := Tryz.isAgg183
  z138 := Tryz.sizeOf183
  v138 := Tryz.zeroValue183
  t139 := Tryz.underlying184
  a139 := Tryz.isAgg184
  z139 := Tryz.sizeOf184
  v139 := Tryz.zeroValue184
  g3 := by kernel_rfl
  g4 := by kernel_rfl }
end Go.Proofs
/- The library's searches, as contracts: Index, TrimLeft at blanks, Count and LastIndexByte at one byte. -/
set_option linter.unusedSimpArgs false
set_option linter.unusedVariables false
set_option maxRecDepth 1000000
set_option maxHeartbeats 400000
namespace Go.Proofs.YtkckpmcpmngiiaaGreatDoor
open Go Go.Pm Go.RowKit
/-- What the library's variable MaxLen holds: some number. -/
def Laid (W : World) : Prop := ∃ m, W.cell? ⟨0, 0, none⟩ = some (.int .i64 m)
theorem lt_cell {w : World} {b : Nat} {o : Nat} {v : Value} (h : w.cell? ⟨b, o, none⟩ = some v) : b < w.heap.size := by
  rcases Nat.lt_or_ge b w.heap.size with h1 | h1
  · exact h1
  · simp [World.cell?, Array.getElem?_eq_none h1] at h
theorem cell_at {W0 : World} {C : Cf} (J : J0 W0 C) {b : Nat} {v : Value} (h : W0.cell? ⟨b, 0, none⟩ = some v) : C.w.cell? ⟨b, 0, none⟩ = some v := by
  have := J.heap b (lt_cell h)
  rw [← h]; simp only [World.cell?, this]
theorem rel_strN (D : Cf) (l : Bs) : RelS D (.str l) (.string ⟨l.toArray⟩) := .pv _ _ (.str l)
theorem rel2 {C : Cf} {a b : SV} {vs : List Value} (h : RelL C [a, b] vs) : ∃ u v, vs = [u, v] ∧ RelS C a u ∧ RelS C b v := by
  obtain ⟨u, us, rfl, h1, h2⟩ := h.uncons
  obtain ⟨u2, us2, rfl, h3, h4⟩ := h2.uncons
  have : us2 = [] := by simpa using h4.1
  subst this
  exact ⟨u, u2, rfl, h1, h3⟩
theorem str_of {C : Cf} {l : Bs} {v : Value} (h : RelS C (.pv (.str l)) v) : v = .string ⟨l.toArray⟩ := by
  cases h with | pv _ _ h => cases h; rfl
def F58 : List SV → Option SV
  | [.pv (.str s), .pv (.str p)] => if s.length ≤ 100000000 then some (.i (Lib.index s p)) else none
  | _ => none
theorem meets58 {W0 : World} (L : Laid W0) : OkAt W0 58 F58 := by
  refine ⟨enterable_of Tryz.func58 (by kernel_rfl), meets_lib fun C args vs r hF J hr => ?_⟩
  unfold F58 at hF
  split at hF
  · rename_i s p
    split at hF
    · rename_i hl
      cases hF
      obtain ⟨u, v, rfl, h1, h2⟩ := rel2 hr
      cases str_of h1
      cases str_of h2
      obtain ⟨m, hm⟩ := L
      refine ⟨by simp [PlainR], (Any.strings_Index Tryz.lays143 ⟨s.toArray⟩ ⟨p.toArray⟩ m C.w (by simp [ByteArray.size]; omega) (cell_at J hm)).mono ?_⟩
      rintro e w' ⟨rfl, rfl⟩
      exact ⟨_, rfl, Below.refl _ _, fun D => rel_int D _⟩
    · cases hF
  · cases hF
/-- A blank. -/
def blanks3 : Bs := [32, 9, 10]
def F76 : List SV → Option SV
  | [.pv (.str s), .pv (.str p)] => if p = blanks3 then some (.str (s.dropWhile (blanks3.contains ·))) else none
  | _ => none
theorem meets76 (W0 : World) : OkAt W0 76 F76 := by
  refine ⟨enterable_of Tryz.func76 (by kernel_rfl), meets_lib fun C args vs r hF J hr => ?_⟩
  unfold F76 at hF
  split at hF
  · rename_i s p
    split at hF
    · rename_i hl
      cases hF
      subst hl
      obtain ⟨u, v, rfl, h1, h2⟩ := rel2 hr
      cases str_of h1
      cases str_of h2
      refine ⟨by simp [PlainR], (Any.strings_TrimLeft_laid Tryz.lays161 (by kernel_rfl) ⟨s.toArray⟩ ⟨blanks3.toArray⟩ C.w (by decide) (fun j b hb => ?_)).mono ?_⟩
      · have : b ∈ blanks3 := by simpa using List.mem_of_getElem? hb
        have hall : ∀ b ∈ blanks3, b.toNat < 128 := by decide
        exact hall b this
      · rintro e w' ⟨rfl, hb⟩
        refine ⟨_, rfl, hb, fun D => rel_strN D _⟩
    · cases hF
  · cases hF
def F40 : List SV → Option SV
  | [.pv (.str s), .pv (.str [c])] => some (.i (Lib.countByte s c : Nat))
  | _ => none
theorem meets40 (W0 : World) : OkAt W0 40 F40 := by
  refine ⟨enterable_of Tryz.func40 (by kernel_rfl), meets_lib fun C args vs r hF J hr => ?_⟩
  unfold F40 at hF
  split at hF
  · rename_i s c
    cases hF
    obtain ⟨u, v, rfl, h1, h2⟩ := rel2 hr
    cases str_of h1
    cases str_of h2
    refine ⟨by simp [PlainR], (Any.strings_Count_one Tryz.lays138 ⟨s.toArray⟩ c C.w).mono ?_⟩
    rintro e w' ⟨rfl, rfl⟩
    exact ⟨_, rfl, Below.refl _ _, fun D => rel_int D _⟩
  · cases hF
def F41 : List SV → Option SV
  | [.pv (.str s), .pv (.int .u8 c)] => if s.length ≤ 100000000 then some (.i (Lib.lastIndexByte ⟨s.toArray⟩ c)) else none
  | _ => none
theorem meets41 (W0 : World) : OkAt W0 41 F41 := by
  refine ⟨enterable_of Tryz.func41 (by kernel_rfl), meets_lib fun C args vs r hF J hr => ?_⟩
  unfold F41 at hF
  split at hF
  · rename_i s c
    split at hF
    · rename_i hl
      cases hF
      obtain ⟨u, v, rfl, h1, h2⟩ := rel2 hr
      cases str_of h1
      cases h2 with | pv _ _ h2 =>
      cases h2
      refine ⟨by simp [PlainR], (Any.strings_LastIndexByte Tryz.lays149 ⟨s.toArray⟩ c (by simp [ByteArray.size]; omega) C.w).mono ?_⟩
      rintro e w' ⟨rfl, rfl⟩
      exact ⟨_, rfl, Below.refl _ _, fun D => rel_int D _⟩
    · cases hF
  · cases hF
end Go.Proofs.YtkckpmcpmngiiaaGreatDoor
/- The reader between elements, comments and all, by the machine. -/
set_option linter.unusedSimpArgs false
set_option linter.unusedVariables false
set_option maxRecDepth 1000000
set_option maxHeartbeats 1000000
namespace Go.Proofs.YtkckpmcpmngiiaaGreatDoor
open Go Go.Pm Go.RowKit
def cm2 : Bs := [45, 45]
/-- Behind the end of a comment, but for its last byte. -/
def Rd.to (s : Bs) (g : Rd) (a : Nat) : Rd := if a < s.length ∧ s[a]? ≠ some 62 then Rd.fail ⟨a, g.n, g.e⟩ (a - 1) 13 else ⟨a, g.n, g.e⟩
/-- Comments and blanks, the first blanks skipped. -/
def Rd.miscL (s : Bs) : Nat → Rd → Option Rd
  | 0, _ => none
  | f + 1, g => if g.sees s com = true then
      (match Lib.index (s.drop (g.at' + 4)) cm2 with
      | .negSucc _ => some (g.fail s.length 35)
      | .ofNat n => Rd.miscL s f (((g.to s (g.at' + (4 + n + 2))).expect s 62).blanks s))
    else some g
def Rd.misc (s : Bs) (g : Rd) : Option Rd := (g.blanks s).miscL s (s.length + 2)
theorem index_fit {s : Bs} {n : Nat} (h : Lib.index s cm2 = (n : Nat)) : n + 2 ≤ s.length := by
  have hr := Lib.index_room s cm2 (by omega)
  simp only [cm2, List.length_cons, List.length_nil] at hr h
  omega
theorem ok_to {s : Bs} {g : Rd} {a : Nat} (h : a ≤ s.length) : (g.to s a).ok' s := by
  unfold Rd.to
  split
  · exact ok_fail (fun _ => h) _ _ (by decide)
  · exact fun _ => h
noncomputable def T38g : FuncId → Option Pm.Spec := tab [(56, .heap A56), (57, .heap A57), (58, .pure false F58), (37, .heap A37), (59, .heap A59)]
theorem T38g_eq (g : Nat) : T38g g = tab [(56, .heap A56), (57, .heap A57), (58, .pure false F58), (37, .heap A37), (59, .heap A59)] g := rfl
theorem sees_e {s p : Bs} {g : Rd} (h : g.sees s p = true) : g.e = 0 := by
  unfold Rd.sees at h
  simp only [Bool.and_eq_true, decide_eq_true_eq] at h
  exact h.1
theorem loop38 {F : List Fr} {P : SV × List Blk → Prop} {k : Nat} {s : Bs} {H : List Blk} (hk : k < H.length) (hs : s.length ≤ 8000000) : ∀ (f : Nat) (g g2 : Rd), g.ok' s → Rd.miscL s f g = some g2 →
    P (.tuple [], H.set k (rb s g2)) → X Y T38g [] F (.exit 0) ⟨mk 70 .J [], H.set k (rb s g2)⟩ P →
    X Y T38g [] F (.loop (loopN Tryz.f38 0)) ⟨mk 70 .J [(0, .ptr k 0)], H.set k (rb s g)⟩ P := by
  intro f
  induction f with
  | zero => intro g g2 _ h; cases h
  | succ f ih =>
    intro g g2 hok hm hp hx
    have f0 := all57 (get_setk hk (rb s g)) hok com
    have f0 : A57 [.ptr k 0, .str [60, 33, 45, 45]] (H.set k (rb s g)) = _ := f0
    apply X_loop_of
    · simp only [loopN, Tryz.f38, loopsOf, List.nil_append, List.append_nil, List.cons_append, List.getD_cons_succ, List.getD_cons_zero]; rfl
    simp only [Rd.miscL] at hm
    by_cases hse : g.sees s com = true
    · rw [if_pos hse] at hm
      have he := sees_e hse
      have hlen := sees_len hse
      simp only [com, List.length_cons, List.length_nil] at hlen
      obtain ⟨a, n, e⟩ := g
      simp only at he hlen
      subst he
      rw [hse] at f0
      have c1 : ((a : Nat) : Int) + 4 = ((a + 4 : Nat) : Int) := by omega
      have c2 : a + 4 ≤ s.length := by omega
      have c3 : ((a + 4 : Nat) : Int) ≤ (s.length : Nat) := by omega
      have w1 : IntKind.i64.wrap ((a + 4 : Nat) : Int) = ((a + 4 : Nat) : Int) := wrap64 (by omega) (by omega)
      have c5 : (0 : Int) ≤ ((a + 4 : Nat) : Int) := by omega
      have fi : F58 [.str (s.drop (a + 4)), .str [45, 45]] = some (.i (Lib.index (s.drop (a + 4)) cm2)) := by
        simp only [F58]; rw [if_pos (by rw [List.length_drop]; omega)]; rfl
      have ht : (s.take s.length) = s := List.take_length
      cases hi : Lib.index (s.drop (a + 4)) cm2 with
      | negSucc q =>
        simp only [hi] at hm
        cases hm
        rw [hi] at fi
        have c4 : (Int.negSucc q) < 0 := by omega
        have f1 := all37 (get_setk hk (rb s ⟨a, n, 0⟩)) s.length 35
        rw [List.set_set] at f1
        have f1 : A37 [.ptr k 0, .i (s.length : Nat), .i 35] (H.set k (rbx s a n 0)) = _ := f1
        have f0 : A57 [.ptr k 0, .str [60, 33, 45, 45]] (H.set k (rbx s a n 0)) = _ := f0
        simp [-Int.natCast_add, -Int.not_lt, -Int.not_le, -getElem?_pos, List.getElem?_cons_zero, List.getElem?_cons_succ, T38g_eq, get_setk hk, f0, w1, c1, c5, c2, c3, ht, fi, c4, f1, beqZ, bneZ]
        exact hp
      | ofNat q =>
        simp only [hi] at hm
        rw [hi] at fi
        have hfit := index_fit (s := s.drop (a + 4)) (n := q) hi
        rw [List.length_drop] at hfit
        have c4 : ¬ (Int.ofNat q) < 0 := by simp
        have c4' : ¬ ((q : Nat) : Int) < 0 := by omega
        have fi : F58 [.str (s.drop (a + 4)), .str [45, 45]] = some (.i (q : Nat)) := fi
        have f0 : A57 [.ptr k 0, .str [60, 33, 45, 45]] (H.set k (rbx s a n 0)) = _ := f0
        have w2 : IntKind.i64.wrap (4 + ((q : Nat) : Int)) = ((4 + q : Nat) : Int) := by rw [wrap64 (by omega) (by omega)]; omega
        have w3 : IntKind.i64.wrap (((4 + q : Nat) : Int) + 2) = ((4 + q + 2 : Nat) : Int) := by rw [wrap64 (by omega) (by omega)]; omega
        have w4 : IntKind.i64.wrap (((a : Nat) : Int) + ((4 + q + 2 : Nat) : Int)) = ((a + (4 + q + 2) : Nat) : Int) := by rw [wrap64 (by omega) (by omega)]; omega
        have hb : a + (4 + q + 2) ≤ s.length := by omega
        generalize hA : a + (4 + q + 2) = A at *
        have okt := ok_to (g := ⟨a, n, 0⟩) hb
        have hto : ∃ g3 : Rd, g3 = Rd.to s ⟨a, n, 0⟩ A := ⟨_, rfl⟩
        obtain ⟨g3, hg3⟩ := hto
        rw [← hg3] at hm okt
        have f2 : A59 [.ptr k 0, .pv (.int .u8 62)] (H.set k (rb s g3)) = some (.tuple [], H.set k (rb s (g3.expect s 62))) := by
          have := all59 (get_setk hk (rb s g3)) (by omega) okt 62 (by decide)
          rw [List.set_set] at this; exact this
        have ok4 := ok_expect okt 62
        have f3 := all56 (get_setk hk (rb s (g3.expect s 62))) (by omega) ok4
        rw [List.set_set] at f3
        have next := ih _ g2 (ok_blanks ok4) hm hp hx
        by_cases hA1 : A < s.length
        · have d1 : ((A : Nat) : Int) < (s.length : Nat) := by omega
          obtain ⟨b, hbb⟩ : ∃ b, s[A]? = some b := ⟨_, List.getElem?_eq_getElem hA1⟩
          have d0 : (0 : Int) ≤ (A : Nat) := by omega
          by_cases hb62 : b = 62
          · have e3 : g3 = ⟨A, n, 0⟩ := by rw [hg3]; unfold Rd.to; rw [if_neg (by rw [hbb, hb62]; simp)]
            have d2 : b.toNat = 62 := by rw [hb62]; rfl
            have d3 : ((b.toNat : Nat) : Int) = 62 := by omega
            have f2 : A59 [.ptr k 0, .pv (.int .u8 62)] (H.set k (.box (some 66) [.pv (.str s), .i (A : Nat), .i (n : Nat), .i 0])) = some (.tuple [], H.set k (rb s (g3.expect s 62))) := by rw [e3] at f2 ⊢; exact f2
            simp [-Int.natCast_add, -Int.not_lt, -Int.not_le, -getElem?_pos, List.getElem?_cons_zero, List.getElem?_cons_succ, T38g_eq, get_setk hk, hk, f0, w1, c1, c5, c2, c3, ht, fi, c4', w2, w3, w4, d1, hA1, hbb, d3, f2, f3, beqZ, bneZ]
            (refine X_keep next ?_; simp)
          · have e3 : g3 = ⟨A - 1, n, 13⟩ := by rw [hg3]; unfold Rd.to; rw [if_pos ⟨hA1, by rw [hbb]; simpa using hb62⟩]; rfl
            have d2 : ¬ b.toNat = 62 := fun h => hb62 (UInt8.toNat_inj.1 h)
            have d3 : ¬ ((b.toNat : Nat) : Int) = 62 := by omega
            have w5 : IntKind.i64.wrap (((A : Nat) : Int) - 1) = ((A - 1 : Nat) : Int) := by rw [wrap64 (by omega) (by omega)]; omega
            have f1 := all37 (get_setk hk (rb s ⟨A, n, 0⟩)) (A - 1) 13
            rw [List.set_set] at f1
            have f1 : A37 [.ptr k 0, .i ((A - 1 : Nat) : Int), .i 13] (H.set k (.box (some 66) [.pv (.str s), .i (A : Nat), .i (n : Nat), .i 0])) = some (.tuple [], H.set k (rb s g3)) := by rw [e3]; exact f1
            simp [-Int.natCast_add, -Int.not_lt, -Int.not_le, -getElem?_pos, List.getElem?_cons_zero, List.getElem?_cons_succ, T38g_eq, get_setk hk, hk, f0, w1, c1, c5, c2, c3, ht, fi, c4', w2, w3, w4, w5, d1, hA1, hbb, d3, f1, f2, f3, beqZ, bneZ]
            (refine X_keep next ?_; simp)
        · have d1 : ¬ ((A : Nat) : Int) < (s.length : Nat) := by omega
          have e3 : g3 = ⟨A, n, 0⟩ := by rw [hg3]; unfold Rd.to; rw [if_neg (fun h => hA1 h.1)]
          have f2 : A59 [.ptr k 0, .pv (.int .u8 62)] (H.set k (.box (some 66) [.pv (.str s), .i (A : Nat), .i (n : Nat), .i 0])) = some (.tuple [], H.set k (rb s (g3.expect s 62))) := by rw [e3] at f2 ⊢; exact f2
          simp [-Int.natCast_add, -Int.not_lt, -Int.not_le, -getElem?_pos, List.getElem?_cons_zero, List.getElem?_cons_succ, T38g_eq, get_setk hk, hk, f0, w1, c1, c5, c2, c3, ht, fi, c4', w2, w3, w4, d1, hA1, f2, f3, beqZ, bneZ]
          (refine X_keep next ?_; simp)
    · rw [if_neg hse] at hm
      cases hm
      rw [show g.sees s com = false by simpa using hse] at f0
      simp [-Int.natCast_add, -Int.not_lt, -Int.not_le, -getElem?_pos, List.getElem?_cons_zero, List.getElem?_cons_succ, T38g_eq, f0]
      refine X_keep hx (by simp)
theorem x38g {H : List Blk} {k : Nat} {s : Bs} {g g2 : Rd} (hk : H[k]? = some (rb s g)) (hs : s.length ≤ 8000000) (hg : g.ok' s) (hm : g.misc s = some g2) :
    XFn Y T38g Tryz.f38 [.ptr k 0] H (fun x => x = (.tuple [], H.set k (rb s g2))) := by
  unfold XFn Tryz.f38
  rw [enter_1 _ (by decide)]
  have hlt := (List.getElem?_eq_some_iff.1 hk).1
  have f1 := all56 hk (by omega) hg
  simp [-getElem?_pos, List.getElem?_cons_zero, List.getElem?_cons_succ, T38g_eq, f1]
  refine X_keep (loop38 hlt hs _ _ g2 (ok_blanks hg) hm rfl ?_) (by simp)
  simp
noncomputable def A38g : List SV → List Blk → Option (SV × List Blk) := arunAll Y T38g Tryz.f38
theorem meets38g {W0 : World} (L : Laid W0) : Enterable Tryz.prog 38 ∧ Meets Tryz.prog W0 38 (specFn (.heap A38g)) := meets_heap env (tok_cons (meets56 W0) (tok_cons (meets57 W0) (tok_cons (meets58 L) (tok_cons (meets37 W0) (tok_cons (meets59 W0) tok_nil))))) mixed Tryz.func38 (by kernel_rfl) (by kernel_rfl)
theorem all38g {H : List Blk} {k : Nat} {s : Bs} {g g2 : Rd} (hk : H[k]? = some (rb s g)) (hs : s.length ≤ 8000000) (hg : g.ok' s) (hm : g.misc s = some g2) : A38g [.ptr k 0] H = some (.tuple [], H.set k (rb s g2)) := by
  obtain ⟨r, H', h1, h2⟩ := all_of_XFn (by rfl) (x38g hk hs hg hm)
  cases h2; exact h1
end Go.Proofs.YtkckpmcpmngiiaaGreatDoor
