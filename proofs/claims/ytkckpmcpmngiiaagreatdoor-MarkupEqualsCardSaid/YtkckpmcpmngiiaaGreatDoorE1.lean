/- The byte replacer by the machine. -/
import Derived.Test.YtkckpmcpmngiiaaGreatDoorT4
/- The package's Escape: what the replacer's table holds; its loops, by the machine. -/
set_option linter.unusedSimpArgs false
set_option linter.unusedVariables false
set_option maxRecDepth 1000000
set_option maxHeartbeats 1000000
namespace Go.Proofs.YtkckpmcpmngiiaaGreatDoor
open Go Go.Pm Go.RowKit
/-- What a byte is replaced by. -/
def rpl (b : Nat) : Bs := if b = 38 then [38, 97, 109, 112, 59] else if b = 60 then [38, 108, 116, 59] else if b = 62 then [38, 103, 116, 59] else if b = 34 then [38, 113, 117, 111, 116, 59] else if b = 9 then [38, 35, 57, 59] else if b = 10 then [38, 35, 49, 48, 59] else []
def reps : Bs := [10, 9, 34, 62, 60, 38]
theorem esc1_rpl (c : UInt8) : esc1 c = if rpl c.toNat = [] then [c] else rpl c.toNat := by
  unfold esc1 rpl
  by_cases h1 : c.toNat = 38 <;> by_cases h2 : c.toNat = 60 <;> by_cases h3 : c.toNat = 62 <;> by_cases h4 : c.toNat = 34 <;> by_cases h5 : c.toNat = 9 <;> by_cases h6 : c.toNat = 10 <;> simp [h1, h2, h3, h4, h5, h6]
theorem rpl_len {b : Nat} (h : rpl b ≠ []) : 4 ≤ (rpl b).length ∧ (rpl b).length ≤ 6 := by
  unfold rpl at h ⊢
  repeat' split
  all_goals first | (simp; done) | skip
  all_goals simp_all
theorem rpl_mem {c : UInt8} : rpl c.toNat ≠ [] ↔ c ∈ reps := by
  have key : ∀ n : Fin 256, (decide (rpl (UInt8.ofNat n.val).toNat ≠ [])) = decide ((UInt8.ofNat n.val) ∈ reps) := by decide +kernel
  have := key ⟨c.toNat, c.toNat_lt⟩
  simp only [UInt8.ofNat_toNat] at this
  constructor
  · intro h; rw [decide_eq_true h] at this; exact of_decide_eq_true this.symm
  · intro h; rw [decide_eq_true h] at this; exact of_decide_eq_true this
abbrev rpS (b : Nat) : SV := .pv (slN 1 (byteRow (rpl b)))
def trS : SV := .pv (.slice 1 (reps.map fun b => [PV.str [b]]))
def cellsR : List SV := ((List.range 256).map rpS) ++ [trS]
theorem cellsR_len : cellsR.length = 257 := by unfold cellsR; rw [List.length_append, List.length_map, List.length_range]; rfl
theorem cellsR_at {b : Nat} (h : b < 256) : cellsR[b]? = some (rpS b) := by
  unfold cellsR
  rw [List.getElem?_append_left (by rw [List.length_map, List.length_range]; exact h), List.getElem?_map, List.getElem?_range h]; rfl
theorem cellsR_tr : cellsR[256]? = some trS := by
  unfold cellsR
  rw [List.getElem?_append_right (by rw [List.length_map, List.length_range]; exact Nat.le_refl _)]
  simp
theorem rpS_nil {b : Nat} (h : rpl b = []) : rpS b = .pv .nilSlice := by unfold rpS; rw [h]; rfl
theorem rpS_some {b : Nat} (h : rpl b ≠ []) : rpS b = .pv (.slice 1 (byteRow (rpl b))) := by
  unfold rpS
  cases hr : rpl b with
  | nil => exact absurd hr h
  | cons a r => rfl
noncomputable def T163 : FuncId → Option Pm.Spec := tab [(3, .read fun _ => none), (40, .pure false F40)]
theorem T163_eq (g : Nat) : T163 g = tab [(3, .read fun _ => none), (40, .pure false F40)] g := rfl
/-- Whether anything is replaced. -/
def chg (s : Bs) : Bool := s.any fun c => !(rpl c.toNat).isEmpty
theorem chg_snoc {s : Bs} {i : Nat} {c : UInt8} (h : s[i]? = some c) : chg (s.take (i + 1)) = (chg (s.take i) || !(rpl c.toNat).isEmpty) := by
  unfold chg
  rw [List.take_add_one, h]
  simp
theorem esc_same : ∀ {s : Bs}, chg s = false → esc s = s
  | [], _ => rfl
  | c :: r, h => by
    unfold chg at h
    simp only [List.any_cons, Bool.or_eq_false_iff, Bool.not_eq_false'] at h
    have h1 : rpl c.toNat = [] := List.isEmpty_iff.1 h.1
    have h2 := esc_same (s := r) h.2
    unfold esc at *
    rw [List.flatMap_cons, h2, esc1_rpl, if_pos h1]; rfl
/-- The size so far: what is written, and what is still to be read. -/
def szA (s : Bs) (i : Nat) : Nat := (esc (s.take i)).length + (s.length - i)
theorem szA_0 (s : Bs) : szA s 0 = s.length := by simp [szA, esc]
theorem szA_end (s : Bs) : szA s s.length = (esc s).length := by simp [szA]
theorem szA_le (s : Bs) (i : Nat) : szA s i ≤ 7 * s.length := by
  have := esc_len (s.take i)
  rw [List.length_take] at this
  unfold szA; omega
theorem loop163b {F : List Fr} {P : SV × List Blk → Prop} {rs : List ResultVar} {k : Nat} {H : List Blk} (hk : H[k]? = some (.box (some 150) cellsR)) (s : Bs) (hs : s.length ≤ 100000000) : ∀ (r i : Nat), i + r = s.length →
    X Y T163 rs F (.exit 2) ⟨mk 122 .J [(0, .ptr k 0), (1, .str s), (5, .i ((esc s).length : Nat)), (6, .bool (chg s))], H⟩ P →
    X Y T163 rs F (.loop (loopN Tryz.f163 1)) ⟨mk 122 .J [(0, .ptr k 0), (1, .str s), (5, .i (szA s i : Nat)), (6, .bool (chg (s.take i))), (10, .i (i : Nat))], H⟩ P := by
  intro r
  induction r with
  | zero =>
    intro i e hx
    have e1 : i = s.length := by omega
    subst e1
    rw [szA_end, List.take_length]
    apply X_loop_of
    · simp only [loopN, Tryz.f163, loopsOf, List.nil_append, List.append_nil, List.cons_append, List.getD_cons_succ, List.getD_cons_zero]; rfl
    simp
    refine X_keep hx (by simp)
  | succ r ih =>
    intro i e hx
    have hi : i < s.length := by omega
    obtain ⟨c, hc⟩ : ∃ c, s[i]? = some c := ⟨_, List.getElem?_eq_getElem hi⟩
    have q3 := next_i (m := i) (by omega)
    have c4 : ((i : Nat) : Int) < (s.length : Nat) := by omega
    have ih := ih (i + 1) (by omega) hx
    have cb := c.toNat_lt
    have cbi : ((c.toNat : Nat) : Int) < 256 := by omega
    have hat := cellsR_at cb
    have hl := cellsR_len
    have eS : szA s (i + 1) + 1 = szA s i + (esc1 c).length := by
      unfold szA; rw [esc_snoc hc, List.length_append]; omega
    have eC := chg_snoc hc
    have le1 := szA_le s i
    apply X_loop_of
    · simp only [loopN, Tryz.f163, loopsOf, List.nil_append, List.append_nil, List.cons_append, List.getD_cons_succ, List.getD_cons_zero]; rfl
    by_cases hr : rpl c.toNat = []
    · rw [rpS_nil hr] at hat
      rw [esc1_rpl, if_pos hr] at eS
      simp only [List.length_singleton] at eS
      have eS : szA s (i + 1) = szA s i := by omega
      rw [hr] at eC
      simp only [List.isEmpty_nil, Bool.not_true, Bool.or_false] at eC
      rw [eS, eC] at ih
      simp [-Int.natCast_add, -Int.not_lt, -Int.not_le, -getElem?_pos, List.getElem?_cons_zero, List.getElem?_cons_succ, q3, c4, hi, hc, hk, hat, hl, cb, cbi]
      refine X_keep ih (by simp)
    · rw [rpS_some hr] at hat
      rw [esc1_rpl, if_neg hr] at eS
      obtain ⟨r1, r2⟩ := rpl_len hr
      have hb : (byteRow (rpl c.toNat)).length = (rpl c.toNat).length := by simp [byteRow]
      have he : (rpl c.toNat).isEmpty = false := by
        cases hx : rpl c.toNat with
        | nil => exact absurd hx hr
        | cons a b => rfl
      rw [he] at eC
      simp only [Bool.not_false, Bool.or_true] at eC
      rw [eC] at ih
      generalize rpl c.toNat = rr at *
      generalize byteRow rr = rows at *
      have w1 : IntKind.i64.wrap ((rows.length : Int) - 1) = ((rr.length - 1 : Nat) : Int) := by rw [wrap64 (by omega) (by omega)]; omega
      have w2 : IntKind.i64.wrap ((szA s i : Int) + ((rr.length - 1 : Nat) : Int)) = ((szA s (i + 1) : Nat) : Int) := by rw [wrap64 (by omega) (by omega)]; omega
      simp [-Int.natCast_add, -Int.not_lt, -Int.not_le, -getElem?_pos, List.getElem?_cons_zero, List.getElem?_cons_succ, q3, c4, hi, hc, hk, hat, hl, cb, cbi, w1, w2]
      refine X_keep ih (by simp)
/-- The size by counting. -/
def cntA (s : Bs) : Bs → Nat
  | [] => 0
  | b :: r => Lib.countByte s b * ((rpl b.toNat).length - 1) + cntA s r
def anyA (s : Bs) : Bs → Bool
  | [] => false
  | b :: r => !(Lib.countByte s b == 0) || anyA s r
theorem cntA_cons (c : UInt8) (s : Bs) : ∀ l : Bs, l.Nodup → cntA (c :: s) l = cntA s l + (if c ∈ l then (rpl c.toNat).length - 1 else 0)
  | [], _ => rfl
  | b :: r, h => by
    have hd := List.nodup_cons.1 h
    have ih := cntA_cons c s r hd.2
    simp only [cntA, ih, Lib.countByte]
    by_cases hb : c = b
    · subst hb
      rw [List.count_cons_self, if_neg hd.1, if_pos (by simp), Nat.add_mul]
      omega
    · rw [List.count_cons_of_ne (fun h => hb h)]
      have : (c ∈ b :: r) ↔ c ∈ r := by simp [hb]
      simp only [this]
      omega
theorem cntA_esc : ∀ s : Bs, s.length + cntA s reps = (esc s).length
  | [] => by simp [esc, cntA, reps, Lib.countByte]
  | c :: s => by
    have ih := cntA_esc s
    rw [cntA_cons c s reps (by decide)]
    have e : esc (c :: s) = esc1 c ++ esc s := by simp [esc]
    rw [e, List.length_append, esc1_rpl, List.length_cons]
    by_cases h : rpl c.toNat = []
    · rw [if_pos h, if_neg (fun hm => (rpl_mem.2 hm) h)]; simp; omega
    · rw [if_neg h, if_pos (rpl_mem.1 h)]
      have := (rpl_len h).1
      omega
theorem anyA_cons (c : UInt8) (s : Bs) : ∀ l : Bs, anyA (c :: s) l = (anyA s l || decide (c ∈ l))
  | [] => rfl
  | b :: r => by
    simp only [anyA, anyA_cons c s r, Lib.countByte]
    by_cases hb : c = b
    · subst hb; simp
    · rw [List.count_cons_of_ne (fun h => hb h)]; simp [hb]; cases anyA s r <;> cases (List.count b s == 0) <;> simp
theorem anyA_chg : ∀ s : Bs, anyA s reps = chg s
  | [] => by simp [chg, anyA, reps, Lib.countByte]
  | c :: s => by
    rw [anyA_cons, anyA_chg s]
    have e : chg (c :: s) = (!(rpl c.toNat).isEmpty || chg s) := rfl
    rw [e]
    by_cases h : rpl c.toNat = []
    · rw [h, decide_eq_false (fun hm => (rpl_mem.2 hm) h)]; simp
    · have he : (rpl c.toNat).isEmpty = false := by
        cases hx : rpl c.toNat with
        | nil => exact absurd hx h
        | cons a b => rfl
      rw [he, decide_eq_true (rpl_mem.1 h)]; simp
end Go.Proofs.YtkckpmcpmngiiaaGreatDoor
/- The replacer's Replace, by the machine. -/
set_option linter.unusedSimpArgs false
set_option linter.unusedVariables false
set_option maxRecDepth 1000000
set_option maxHeartbeats 1000000
namespace Go.Proofs.YtkckpmcpmngiiaaGreatDoor
open Go Go.Pm Go.RowKit
theorem loop163a {F : List Fr} {P : SV × List Blk → Prop} {rs : List ResultVar} {k : Nat} {H : List Blk} (hk : H[k]? = some (.box (some 150) cellsR)) (s : Bs) (hs : s.length ≤ 100000000)
    (hx : X Y T163 rs F (.exit 0) ⟨mk 122 .J [(0, .ptr k 0), (1, .str s), (5, .i ((esc s).length : Nat)), (6, .bool (chg s))], H⟩ P) : ∀ (l : Bs) (j n : Nat) (ch : Bool), reps.drop j = l → j + l.length = 6 → n + cntA s l = (esc s).length → (ch || anyA s l) = chg s →
    X Y T163 rs F (.loop (loopN Tryz.f163 0)) ⟨mk 122 .J [(0, .ptr k 0), (1, .str s), (5, .i (n : Nat)), (6, .bool ch), (30, trS), (31, .i 6), (32, .i (j : Nat))], H⟩ P := by
  intro l
  induction l with
  | nil =>
    intro j n ch h1 h2 h3 h4
    simp only [cntA, anyA, Bool.or_false, Nat.add_zero] at h3 h4
    subst h3; subst h4
    have : j = 6 := by simpa using h2
    subst this
    apply X_loop_of
    · simp only [loopN, Tryz.f163, loopsOf, List.nil_append, List.append_nil, List.cons_append, List.getD_cons_succ, List.getD_cons_zero]; rfl
    simp
    refine X_keep hx (by simp)
  | cons b l ih =>
    intro j n ch h1 h2 h3 h4
    have hj : j < 6 := by simp at h2; omega
    have hb : reps[j]? = some b := by
      have : (reps.drop j)[0]? = some b := by rw [h1]; rfl
      simpa [List.getElem?_drop] using this
    have hd : reps.drop (j + 1) = l := by
      have : (reps.drop j).drop 1 = l := by rw [h1]; rfl
      simpa [List.drop_drop, Nat.add_comm] using this
    have hrow : (reps.map fun b => [PV.str [b]])[j]? = some [.str [b]] := by rw [List.getElem?_map, hb]; rfl
    have hmem : b ∈ reps := List.mem_of_getElem? hb
    have hr := rpl_mem.2 hmem
    obtain ⟨r1, r2⟩ := rpl_len hr
    have cb := b.toNat_lt
    have cbi : ((b.toNat : Nat) : Int) < 256 := by omega
    have hat := cellsR_at cb
    rw [rpS_some hr] at hat
    have hl := cellsR_len
    have q3 := next_i (m := j) (by omega)
    have c4 : ((j : Nat) : Int) < 6 := by omega
    have hix : aIndexAddr Y 93 trS (j : Nat) = some (.cptr [.str [b]]) := by
      unfold trS
      simp [aIndexAddr, aElem, hrow, -getElem?_pos]
    have lt : Pm.live trS = some trS := rfl
    have f1 : F40 [.str s, .str [b]] = some (.i (Lib.countByte s b : Nat)) := rfl
    have cle : Lib.countByte s b ≤ s.length := List.count_le_length
    have hlen := esc_len s
    simp only [cntA, anyA] at h3 h4
    have next := fun n' ch' hh1 hh2 => ih (j + 1) n' ch' hd (by simp at h2; omega) hh1 hh2
    generalize trS = tr at *
    apply X_loop_of
    · simp only [loopN, Tryz.f163, loopsOf, List.nil_append, List.append_nil, List.cons_append, List.getD_cons_succ, List.getD_cons_zero]; rfl
    by_cases hc : Lib.countByte s b = 0
    · have c5 : ((Lib.countByte s b : Nat) : Int) = 0 := by omega
      rw [hc] at h3 h4 f1
      simp only [Nat.zero_mul, Nat.zero_add, beq_self_eq_true, Bool.not_true, Bool.false_or] at h3 h4
      have := next n ch h3 h4
      simp [-Int.natCast_add, -Int.not_lt, -Int.not_le, -aIndexAddr, -getElem?_pos, List.getElem?_cons_zero, List.getElem?_cons_succ, T163_eq, q3, c4, hj, lt, hix, f1, hc, beqZ, bneZ]
      refine X_keep this (by simp)
    · have c5 : ¬ ((Lib.countByte s b : Nat) : Int) = 0 := by omega
      have hb0 : (Lib.countByte s b == 0) = false := by simpa using hc
      rw [hb0] at h4
      simp only [Bool.not_false, Bool.true_or, Bool.or_true] at h4
      have hlr : (byteRow (rpl b.toNat)).length = (rpl b.toNat).length := by simp [byteRow]
      have hm : Lib.countByte s b * ((rpl b.toNat).length - 1) ≤ 100000000 * 5 := Nat.mul_le_mul (by omega) (by omega)
      have wm : IntKind.i64.wrap (((Lib.countByte s b : Nat) : Int) * (((rpl b.toNat).length - 1 : Nat) : Int)) = ((Lib.countByte s b * ((rpl b.toNat).length - 1) : Nat) : Int) := by
        rw [← Int.natCast_mul]; exact wrap64 (by omega) (by omega)
      have := next (n + Lib.countByte s b * ((rpl b.toNat).length - 1)) true (by omega) (by rw [Bool.true_or]; exact h4)
      have hix2 : aIndexAddr Y 148 (.ptr k 0) (b.toNat : Nat) = some (.ptr k b.toNat) := by
        simp [aIndexAddr, cbi]
      generalize rpl b.toNat = rr at *
      generalize byteRow rr = rows at *
      generalize Lib.countByte s b * (rr.length - 1) = m at *
      generalize Lib.countByte s b = ct at *
      have w1 : IntKind.i64.wrap ((rows.length : Int) - 1) = ((rr.length - 1 : Nat) : Int) := by rw [wrap64 (by omega) (by omega)]; omega
      have w2 : IntKind.i64.wrap ((n : Int) + (m : Nat)) = ((n + m : Nat) : Int) := by rw [wrap64 (by omega) (by omega)]; omega
      simp [-Int.natCast_add, -Int.not_lt, -Int.not_le, -aIndexAddr, -getElem?_pos, List.getElem?_cons_zero, List.getElem?_cons_succ, T163_eq, q3, c4, hj, lt, hix, hix2, f1, hc, c5, beqZ, bneZ, hk, hat, hl, cb, cbi, w1, wm, w2]
      refine X_keep this (by simp)
def byC (l : Bs) : List SV := l.map fun c => .pv (.int .u8 (c.toNat : Nat))
theorem byC_len (l : Bs) : (byC l).length = l.length := by simp [byC]
theorem setC_mid : ∀ (us pre zs : List SV), us.length ≤ zs.length → setCells (pre ++ zs) pre.length us = pre ++ us ++ zs.drop us.length
  | [], pre, zs, _ => by simp [setCells]
  | u :: us, pre, [], h => by simp at h
  | u :: us, pre, z :: zs, h => by
    rw [setCells]
    have e : (pre ++ z :: zs).set pre.length u = (pre ++ [u]) ++ zs := by simp
    rw [e]
    have := setC_mid us (pre ++ [u]) zs (by simpa using h)
    rw [List.length_append, List.length_singleton] at this
    rw [this]; simp
/-- What is written, and zeros. -/
def bufA (s : Bs) (i : Nat) : List SV := byC (esc (s.take i)) ++ List.replicate ((esc s).length - (esc (s.take i)).length) (.pv (.int .u8 0))
theorem esc_take (s : Bs) (i : Nat) : (esc (s.take i)).length ≤ (esc s).length := by
  have e : esc s = esc (s.take i) ++ esc (s.drop i) := by unfold esc; rw [← List.flatMap_append, List.take_append_drop]
  rw [e, List.length_append]; omega
theorem bufA_len (s : Bs) (i : Nat) : (bufA s i).length = (esc s).length := by
  have := esc_take s i
  unfold bufA; rw [List.length_append, byC_len, List.length_replicate]; omega
theorem bufA_step {s : Bs} {i : Nat} {c : UInt8} (h : s[i]? = some c) : setCells (bufA s i) (esc (s.take i)).length (byC (esc1 c)) = bufA s (i + 1) := by
  have h1 := esc_take s (i + 1)
  rw [esc_snoc h, List.length_append] at h1
  unfold bufA
  have := setC_mid (byC (esc1 c)) (byC (esc (s.take i))) (List.replicate ((esc s).length - (esc (s.take i)).length) (.pv (.int .u8 0))) (by rw [byC_len, List.length_replicate]; omega)
  rw [byC_len] at this
  rw [this, esc_snoc h, List.length_append, List.drop_replicate, byC_len, show byC (esc (s.take i) ++ esc1 c) = byC (esc (s.take i)) ++ byC (esc1 c) by simp [byC]]
  congr 2
  omega
theorem flat_rows : ∀ l : Bs, ((byteRow l).flatten.map SV.pv) = byC l
  | [] => rfl
  | c :: r => by
    have := flat_rows r
    simp only [byteRow, byC] at this ⊢
    simp [this]
theorem loop163c {F : List Fr} {P : SV × List Blk → Prop} {rs : List ResultVar} {k kb : Nat} {H : List Blk} (hkb : k ≠ kb) (hk : H[k]? = some (.box (some 150) cellsR)) (hl0 : kb < H.length) (s : Bs) (hs : s.length ≤ 100000000) : ∀ (r i : Nat), i + r = s.length →
    X Y T163 rs F (.exit 4) ⟨mk 122 .J [(12, .bsl kb 0 (esc s).length 1)], H.set kb (.box none (bufA s s.length))⟩ P →
    X Y T163 rs F (.loop (loopN Tryz.f163 2)) ⟨mk 122 .J [(0, .ptr k 0), (1, .str s), (12, .bsl kb 0 (esc s).length 1), (13, .i ((esc (s.take i)).length : Nat)), (14, .i (i : Nat))], H.set kb (.box none (bufA s i))⟩ P := by
  intro r
  induction r with
  | zero =>
    intro i e hx
    have e1 : i = s.length := by omega
    subst e1
    apply X_loop_of
    · simp only [loopN, Tryz.f163, loopsOf, List.nil_append, List.append_nil, List.cons_append, List.getD_cons_succ, List.getD_cons_zero]; rfl
    simp
    refine X_keep hx (by simp)
  | succ r ih =>
    intro i e hx
    have hi : i < s.length := by omega
    obtain ⟨c, hc⟩ : ∃ c, s[i]? = some c := ⟨_, List.getElem?_eq_getElem hi⟩
    have q3 := next_i (m := i) (by omega)
    have c4 : ((i : Nat) : Int) < (s.length : Nat) := by omega
    have ih := ih (i + 1) (by omega) hx
    have cb := c.toNat_lt
    have cbi : ((c.toNat : Nat) : Int) < 256 := by omega
    have hat := cellsR_at cb
    have hl := cellsR_len
    have hix2 : aIndexAddr Y 148 (.ptr k 0) (c.toNat : Nat) = some (.ptr k c.toNat) := by simp [aIndexAddr, cbi]
    have h1 := esc_take s (i + 1)
    have hst := bufA_step hc
    have bl := bufA_len s i
    rw [esc_snoc hc, List.length_append] at h1 ih
    have hlen := esc_len s
    have hk2 : (H.set kb (.box none (bufA s i)))[k]? = some (.box (some 150) cellsR) := by rw [List.getElem?_set_ne (Ne.symm hkb)]; exact hk
    have hb2 : (H.set kb (.box none (bufA s i)))[kb]? = some (.box none (bufA s i)) := List.getElem?_set_self hl0
    have hss : ∀ b, (H.set kb (.box none (bufA s i))).set kb b = H.set kb b := fun b => List.set_set ..
    generalize (esc s).length = n at *
    generalize (esc (s.take i)).length = j at *
    generalize bufA s i = cs at *
    generalize bufA s (i + 1) = cs' at *
    have w5 : IntKind.i64.wrap ((j : Int) + ((esc1 c).length : Nat)) = ((j + (esc1 c).length : Nat) : Int) := by
      have := esc1_len c
      rw [wrap64 (by omega) (by omega)]; omega
    apply X_loop_of
    · simp only [loopN, Tryz.f163, loopsOf, List.nil_append, List.append_nil, List.cons_append, List.getD_cons_succ, List.getD_cons_zero]; rfl
    by_cases hr : rpl c.toNat = []
    · rw [rpS_nil hr] at hat
      rw [esc1_rpl, if_pos hr] at hst ih h1 w5
      simp only [List.length_singleton] at h1 ih w5
      have hj1 : ((j : Nat) : Int) < (n : Nat) := by omega
      have hj2 : j < n := by omega
      have hst2 : cs.set j (.pv (.int .u8 (c.toNat : Nat))) = cs' := by rw [← hst]; rfl
      have w6 : IntKind.i64.wrap ((j : Int) + 1) = ((j + 1 : Nat) : Int) := w5
      simp [-Int.natCast_add, -Int.not_lt, -Int.not_le, -getElem?_pos, List.getElem?_cons_zero, List.getElem?_cons_succ, T163_eq, q3, c4, hi, hc, hk2, hb2, hss, hat, hl, cb, cbi, hj1, hj2, h1, hst2, w6, bl]
      refine X_keep ih ?_
      simp
    · rw [rpS_some hr] at hat
      obtain ⟨r1, r2⟩ := rpl_len hr
      rw [esc1_rpl, if_neg hr] at hst ih h1 w5
      have hb : (byteRow (rpl c.toNat)).length = (rpl c.toNat).length := by simp [byteRow]
      have hfl := flat_rows (rpl c.toNat)
      have hj1 : ((j : Nat) : Int) ≤ (n : Nat) := by omega
      have hj2 : j < n := by omega
      have hj3 : j ≤ n := by omega
      have h0 : (0 : Int) ≤ (j : Nat) := by omega
      have hbl := byC_len (rpl c.toNat)
      generalize rpl c.toNat = rr at *
      generalize byteRow rr = rows at *
      generalize byC rr = us at *
      have hcp : aCopy Y (H.set kb (.box none cs)) 59 (.bsl kb j (n - j) 1) (.pv (.slice 1 rows)) = some (.i (rr.length : Nat), H.set kb (.box none cs')) := by
        have hm : min rows.length (n - j) = rr.length := by rw [hb]; omega
        have hsc : srcCells (H.set kb (.box none cs)) 1 (.pv (.slice 1 rows)) = some (rows.length, us) := by simp only [srcCells, if_true, hfl]
        unfold aCopy
        simp only [kindOf, Y_59, Y_5, hb2, hsc, hm]
        rw [if_pos (by refine ⟨?_, ?_, ?_⟩ <;> first | trivial | omega)]
        simp only [Nat.mul_one]
        rw [List.take_of_length_le (by omega), hst, hss]
      simp [-Int.natCast_add, -Int.not_lt, -Int.not_le, -aCopy, -getElem?_pos, List.getElem?_cons_zero, List.getElem?_cons_succ, T163_eq, q3, c4, hi, hc, hk2, hb2, hss, hat, hl, cb, cbi, hj1, hj2, hj3, h0, hcp, w5, bl]
      refine X_keep ih (by simp)
theorem pcells_byC : ∀ l : Bs, pcells (byC l) = some (l.map fun c => PV.int .u8 (c.toNat : Nat))
  | [] => rfl
  | c :: r => by
    have := pcells_byC r
    unfold byC at this ⊢
    simp only [List.map_cons, pcells, pcell_pv, this]
theorem chunks_byC : ∀ l : Bs, chunks 1 l.length (l.map fun c => PV.int .u8 (c.toNat : Nat)) = bRow l
  | [] => rfl
  | c :: r => by
    have := chunks_byC r
    simp only [List.map_cons, List.length_cons, chunks, List.take_succ_cons, List.take_zero, List.drop_succ_cons, List.drop_zero, this]
    rfl
theorem bytesOf_row : ∀ bs : Bs, bytesOf (bRow bs) = some bs
  | [] => rfl
  | c :: r => by
    show bytesOf ([PV.int .u8 (c.toNat : Int)] :: bRow r) = _
    simp [bytesOf, bytesOf_row r]
theorem x163 {k : Nat} {H : List Blk} (hk : H[k]? = some (.box (some 150) cellsR)) {s : Bs} (hs : s.length ≤ 100000000) : XFn Y T163 Tryz.f163 [.ptr k 0, .str s] H (fun x => x.1 = .str (esc s)) := by
  unfold XFn Tryz.f163
  rw [enter_2 _ (by decide)]
  have hl := cellsR_len
  have htr := cellsR_tr
  have lt : Pm.live trS = some trS := rfl
  have lent : aLen Y 93 trS = some 6 := rfl
  have hklt := (List.getElem?_eq_some_iff.1 hk).1
  have hn := esc_len s
  have tailF : ∀ (F : List Fr) (H' : List Blk), H' = H ∨ True → True := fun _ _ _ => trivial
  have L1 := fun F P rs => loop163a (F := F) (P := P) (rs := rs) hk s hs
  have L2 := fun F P rs => loop163b (F := F) (P := P) (rs := rs) hk s hs s.length 0 (by omega)
  have L3 := fun F P rs => loop163c (F := F) (P := P) (rs := rs) (k := k) (kb := H.length) (H := H ++ [.box none (bufA s 0)]) (by omega) (app_at hk) (by simp) s hs s.length 0 (by omega)
  have e0 : szA s 0 = s.length := szA_0 s
  have hb0 : (List.replicate (esc s).length [SV.pv (.int .u8 0)]).flatten = bufA s 0 := by
    have : esc (s.take 0) = [] := rfl
    unfold bufA
    rw [this]
    simp [byC]
  have hset : (H ++ [Blk.box none (bufA s 0)]).set H.length (Blk.box none (bufA s 0)) = H ++ [Blk.box none (bufA s 0)] := set_same (get_last _ _)
  have hse : (H ++ [Blk.box none (bufA s 0)]).set H.length (Blk.box none (bufA s s.length)) = H ++ [Blk.box none (bufA s s.length)] := set_last _ _ _
  have hend : bufA s s.length = byC (esc s) := by unfold bufA; rw [List.take_length]; simp
  have p1 := pcells_byC (esc s)
  have p2 := chunks_byC (esc s)
  have p3 := bytesOf_row (esc s)
  have p4 := byC_len (esc s)
  rw [hse, hend] at L3
  have hes : chg s = false → esc s = s := esc_same
  have el0 : (esc (s.take 0)).length = 0 := rfl
  rw [el0, hset] at L3
  rw [e0, show chg (s.take 0) = false from rfl] at L2
  have tk : (byC (esc s)).take (esc s).length = byC (esc s) := List.take_of_length_le (by rw [p4]; exact Nat.le_refl _)
  have hbs : bslOk T163 = true := rfl
  have ca := fun F P rs hx => L1 F P rs hx reps 0 s.length false rfl rfl (cntA_esc s) (by rw [Bool.false_or]; exact anyA_chg s)
  generalize byC (esc s) = cs at *
  generalize bufA s 0 = c0 at *
  have n1 : ((esc s).length : Int) ≤ 281474976710656 := by omega
  have n2 : ((esc s).length : Int) ≤ 70368744177664 := by omega
  have n3 : (esc s).length ≤ 281474976710656 := by omega
  have n4 : (esc s).length ≤ 70368744177664 := by omega
  generalize List.map (fun c : UInt8 => PV.int .u8 (c.toNat : Nat)) (esc s) = ps at *
  generalize hes0 : esc s = es at *
  have w6 : IntKind.i64.wrap 48 = 48 := rfl
  generalize trS = tr at *
  generalize cellsR = cR at *
  by_cases hlong : 48 ≤ s.length
  · have hlong' : (48 : Int) ≤ (s.length : Nat) := by omega
    simp [-Int.natCast_add, -Int.not_lt, -Int.not_le, -Nat.not_le, -aLen, -getElem?_pos, List.getElem?_cons_zero, List.getElem?_cons_succ, hk, htr, hl, lt, lent, len9, w6, hlong, hlong']
    refine X_keep (ca _ _ _ ?_) ?_
    rotate_left
    · simp
    cases hc : chg s with
    | false =>
      have := hes hc
      simp [this]
    | true =>
      simp [-Int.natCast_add, -Int.not_lt, -Int.not_le, n1, n2, n3, n4, hb0]
      refine X_keep (L3 _ _ _ ?_) ?_
      rotate_left
      · simp
      simp [-Int.natCast_add, -Int.not_lt, -Int.not_le, -pcells, -chunks, hbs, get_last, p4, tk, p1, p2, p3]
  · have hlong' : ¬ (48 : Int) ≤ (s.length : Nat) := by omega
    simp [-Int.natCast_add, -Int.not_lt, -Int.not_le, -Nat.not_le, -aLen, -getElem?_pos, List.getElem?_cons_zero, List.getElem?_cons_succ, hk, htr, hl, lt, lent, len9, w6, hlong, hlong']
    refine X_keep (L2 _ _ _ ?_) ?_
    rotate_left
    · simp
    cases hc : chg s with
    | false =>
      have := hes hc
      simp [this]
    | true =>
      simp [-Int.natCast_add, -Int.not_lt, -Int.not_le, n1, n2, n3, n4, hb0]
      refine X_keep (L3 _ _ _ ?_) ?_
      rotate_left
      · simp
      simp [-Int.natCast_add, -Int.not_lt, -Int.not_le, -pcells, -chunks, hbs, get_last, p4, tk, p1, p2, p3]
noncomputable def A163 : List SV → List Blk → Option (SV × List Blk) := arunAll Y T163 Tryz.f163
theorem meets163 (W0 : World) : Enterable Tryz.prog 163 ∧ Meets Tryz.prog W0 163 (specFn (.heap A163)) := meets_heap env (tok_cons ⟨enterable_of Tryz.func3 (by kernel_rfl), fun C args vs r H' h => by
    simp only [specFn] at h
    split at h <;> cases h⟩ (tok_cons (meets40 W0) tok_nil)) mixed Tryz.func163 (by kernel_rfl) (by kernel_rfl)
theorem all163 {k : Nat} {H : List Blk} (hk : H[k]? = some (.box (some 150) cellsR)) {s : Bs} (hs : s.length ≤ 100000000) : ∃ H', A163 [.ptr k 0, .str s] H = some (.str (esc s), H') := by
  obtain ⟨r, H', h1, h2⟩ := all_of_XFn (by rfl) (x163 hk hs)
  simp only at h2
  subst h2
  exact ⟨H', h1⟩
end Go.Proofs.YtkckpmcpmngiiaaGreatDoor
