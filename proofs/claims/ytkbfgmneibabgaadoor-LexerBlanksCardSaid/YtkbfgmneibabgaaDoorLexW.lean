/- The law of blanks, by the machine. -/
import Derived.Test.YtkbfgmneibabgaaDoorLexV
set_option linter.unusedSimpArgs false
set_option linter.unusedVariables false
set_option maxRecDepth 1000000
set_option maxHeartbeats 1000000
namespace LexP
/-- A text laid out of tokens, with blanks of one's own. -/
def layT (g : Nat → Bs) : Nat → List Core → Bs
  | _, [] => []
  | i, (_, tx, _, _, j) :: r => (if j then [] else g i) ++ (tx ++ layT g (i + 1) r)
theorem lay_self (g : Nat → Bs) (hg : ∀ i, Sep (g i) ∧ g i ≠ []) {fi : Bool} {rest : Bs} {l : List Core} (h : Sc fi rest l) : ∀ i, Lay fi l (layT g i l) l := by
  induction h with
  | @fin fi rest hd =>
    intro i
    have e : layT g i [(0, [], 0, [], decide (skp false rest = 0) && !fi)] = (if (decide (skp false rest = 0) && !fi) = true then [] else g i) := by simp [layT]
    rw [e]
    generalize hj : (decide (skp false rest = 0) && !fi) = j
    have hfi : j = true → fi = false := fun h => by rw [h] at hj; simp at hj; exact hj.2
    cases j with
    | true =>
      have := Lay.fin (fi := fi) (j := true) sep_nil
      simpa [hfi rfl] using this
    | false =>
      have := Lay.fin (fi := fi) (j := false) (hg i).1
      simpa [(hg i).2] using this
  | @tok fi rest c r kd n v bs l hd ht hs ih =>
    intro i
    generalize hj : (decide (skp false rest = 0) && !fi) = j
    have hfi : j = true → fi = false := fun h => by rw [h] at hj; simp at hj; exact hj.2
    cases j with
    | true =>
      have := Lay.tok (fi := fi) (kd := kd) (tx := (c :: r).take n) (v := v) (bs := bs) (j := true) sep_nil (fun _ _ => rfl) (ih (i + 1))
      simpa [hfi rfl, layT] using this
    | false =>
      have := Lay.tok (fi := fi) (kd := kd) (tx := (c :: r).take n) (v := v) (bs := bs) (j := false) (hg i).1 (fun _ h => absurd h (hg i).2) (ih (i + 1))
      simpa [(hg i).2, layT] using this
theorem sc_size {fi : Bool} {rest : Bs} {l : List Core} (h : Sc fi rest l) (g : Nat → Bs) (hg : ∀ i, (g i).length ≤ 5) : ∀ i, (layT g i l).length ≤ 5 * l.length + rest.length := by
  induction h with
  | @fin fi rest hd =>
    intro i
    simp only [layT, List.length_append, List.length_nil, List.length_cons]
    have := hg i
    split <;> simp <;> omega
  | @tok fi rest c r kd n v bs l hd ht hs ih =>
    intro i
    have h1 := ih (i + 1)
    have h2 := hg i
    obtain ⟨⟨n1, n2⟩, _⟩ := tok_local ht
    have hcr : (c :: r).length = rest.length - skp false rest := by rw [← hd, List.length_drop]
    simp only [layT, List.length_append, List.length_cons, List.length_take]
    rw [List.length_drop] at h1
    split
    · simp at h1 hcr n2 ⊢; omega
    · simp at h1 hcr n2 ⊢; omega
theorem scan_lay {s : Bs} {m : List Tk} (h : scan s = .ok m) (g : Nat → Bs) (hg : ∀ i, Sep (g i) ∧ g i ≠ []) : ∃ m', scan (layT g 0 (m.map Tk.core)) = .ok m' ∧ m'.map Tk.core = m.map Tk.core := by
  obtain ⟨m1, h1, h2⟩ := sc_of_scan _ _ _ _ _ h
  have h1 : m = m1 := by simpa using h1
  subst h1
  have h2 : Sc true s (m.map Tk.core) := h2
  obtain ⟨m', h3, h4⟩ := scan_of_sc (sc_lay h2 (lay_self g hg h2 0)) ((layT g 0 (m.map Tk.core)).length + 1) [] 0 rfl (by omega)
  exact ⟨m', by simpa [scan] using h3, h4⟩
theorem scan_size {s : Bs} {m : List Tk} (h : scan s = .ok m) (g : Nat → Bs) (hg : ∀ i, (g i).length ≤ 5) : (layT g 0 (m.map Tk.core)).length ≤ 5 * m.length + s.length := by
  obtain ⟨m1, h1, h2⟩ := sc_of_scan _ _ _ _ _ h
  have h1 : m = m1 := by simpa using h1
  subst h1
  have := sc_size h2 g hg 0
  simpa using this
def seps : List Bs := [[32], [10], [9, 13], [32, 37, 32, 120, 10], [37, 10, 32, 32]]
def sepAt (bl : Bs) (i : Nat) : Bs := seps.getD ((bl.getD i 0).toNat % 5) [32]
theorem sep_32 : Sep [32] := fun r => by simp [skp, blkZ, z]; omega
theorem sep_10 : Sep [10] := fun r => by simp [skp, blkZ, z]; omega
theorem sep_9 : Sep [9, 13] := fun r => by simp [skp, blkZ, z]; omega
theorem sep_37 : Sep [32, 37, 32, 120, 10] := fun r => by simp [skp, blkZ, z]; omega
theorem sep_38 : Sep [37, 10, 32, 32] := fun r => by simp [skp, blkZ, z]; omega
theorem sepAt_ok (bl : Bs) (i : Nat) : (Sep (sepAt bl i) ∧ sepAt bl i ≠ []) ∧ (sepAt bl i).length ≤ 5 := by
  unfold sepAt
  generalize hq : (bl.getD i 0).toNat % 5 = q
  have : q < 5 := by omega
  rcases (by omega : q = 0 ∨ q = 1 ∨ q = 2 ∨ q = 3 ∨ q = 4) with rfl | rfl | rfl | rfl | rfl
  · exact ⟨⟨sep_32, by decide⟩, by decide⟩
  · exact ⟨⟨sep_10, by decide⟩, by decide⟩
  · exact ⟨⟨sep_9, by decide⟩, by decide⟩
  · exact ⟨⟨sep_37, by decide⟩, by decide⟩
  · exact ⟨⟨sep_38, by decide⟩, by decide⟩
end LexP
namespace Go.Proofs.YtkbfgmneibabgaaDoor
open Go Go.Pm Go.RowKit
open LexP hiding place Sep Run
/-- Bytes that came in. -/
def Row8 (v : SV) (bl : Bs) : Prop := (bl = [] ∧ v = .pv .nilSlice) ∨ v = .pv (.slice 1 (bRow bl))
theorem bRow_at {bl : Bs} {i : Nat} {b : UInt8} (h : bl[i]? = some b) : (bRow bl)[i]? = some [PV.int .u8 (b.toNat : Int)] := by simp [bRow, h]
theorem loop4 {F : List Fr} {P : SV × List Blk → Prop} {bv : SV} {bl : Bs} (hb : Row8 bv bl) {m : List Tk} {ka va : Nat} {H : List Blk} (hm : m.length ≤ 1000000) : ∀ (r pre : List Tk) (acc : Bs), pre ++ r = m → acc.length + (layT (sepAt bl) pre.length (r.map Tk.core)).length ≤ 1000000 →
    X Y T3 [.tmp 4] F (.exit 0) ⟨mk 78 .J [(5, .own ka va 6 (rfRow m)), (8, .str (acc ++ layT (sepAt bl) pre.length (r.map Tk.core)))], H⟩ P →
    X Y T3 [.tmp 4] F (.loop (loopN Tryd.f4 0)) ⟨mk 78 .J [(1, bv), (5, .own ka va 6 (rfRow m)), (8, .str acc), (9, .i pre.length)], H⟩ P
  | [], pre, acc, hr, hl, hx => by
    have hr' : pre = m := by simpa using hr
    apply X_loop_of
    · simp only [loopN, Tryd.f4, loopsOf, List.nil_append, List.append_nil, List.cons_append, List.getD_cons_succ, List.getD_cons_zero]; rfl
    subst hr'
    simp [layT] at hx
    simp [rfRow_len]
    refine X_keep hx ?_
    simp
  | t :: r, pre, acc, hr, hl, hx => by
    have hml : m.length = pre.length + (r.length + 1) := by rw [← hr, List.length_append, List.length_cons]
    have ht : m[pre.length]? = some t := by rw [← hr]; simp
    have hrow : (rfRow m)[pre.length]? = some (rfC t) := by simp [rfRow, ht]
    have h1 : (pre.length : Int) < (m.length : Int) := by omega
    have h1n : pre.length < m.length := by omega
    have w1 : IntKind.i64.wrap ((pre.length : Int) + 1) = ((pre ++ [t]).length : Int) := by rw [wrap64 (by omega) (by omega)]; simp
    have hcore : layT (sepAt bl) pre.length ((t :: r).map Tk.core) = (if t.joined then [] else sepAt bl pre.length) ++ (t.text ++ layT (sepAt bl) (pre.length + 1) (r.map Tk.core)) := rfl
    have hpl : (pre ++ [t]).length = pre.length + 1 := by simp
    have ih := loop4 (F := F) (P := P) hb (ka := ka) (va := va) (H := H) hm r (pre ++ [t]) (acc ++ (if t.joined then [] else sepAt bl pre.length) ++ t.text) (by rw [← hr]; simp) (by
      rw [hcore] at hl; rw [hpl]; simp only [List.length_append] at hl ⊢; omega) (by
      rw [hcore] at hx; rw [hpl]; simpa [List.append_assoc] using hx)
    have hl0 : acc.length + ((if t.joined then [] else sepAt bl pre.length : Bs).length + t.text.length) ≤ 1000000 := by
      rw [hcore] at hl; simp only [List.length_append] at hl; omega
    clear hx hcore hl
    generalize ((pre ++ [t]).length : Int) = E at *
    apply X_loop_of
    · simp only [loopN, Tryd.f4, loopsOf, List.nil_append, List.append_nil, List.cons_append, List.getD_cons_succ, List.getD_cons_zero]; rfl
    cases hj : t.joined with
    | true =>
      rw [hj] at ih hl0
      simp at hl0
      have hb1 : acc.length + t.text.length ≤ 4611686018427387904 := by omega
      rcases hb with ⟨rfl, rfl⟩ | rfl
      · simp [-getElem?_pos, List.getElem?_cons_zero, List.getElem?_cons_succ, rfRow_len, h1, h1n, hrow, rfC, hj, hb1, w1]
        refine X_keep ih ?_
        simp
      · by_cases hi : pre.length < bl.length
        · have hbi : bl[pre.length]? = some bl[pre.length] := by simp
          have hbr := bRow_at hbi
          have hbl : (bRow bl).length = bl.length := by simp [bRow]
          simp [-getElem?_pos, List.getElem?_cons_zero, List.getElem?_cons_succ, rfRow_len, h1, h1n, hrow, rfC, hj, hb1, w1, hbr, hbl, hi]
          refine X_keep ih ?_
          simp
        · have hbl : (bRow bl).length = bl.length := by simp [bRow]
          simp [-getElem?_pos, -Nat.not_lt, List.getElem?_cons_zero, List.getElem?_cons_succ, rfRow_len, h1, h1n, hrow, rfC, hj, hb1, w1, hbl, hi]
          refine X_keep ih ?_
          simp
    | false =>
      rw [hj] at ih hl0
      simp only [Bool.false_eq_true, if_false] at ih hl0
      have hq5 : (bl.getD pre.length 0).toNat % 5 < 5 := by omega
      have hsep : sepAt bl pre.length = seps.getD ((bl.getD pre.length 0).toNat % 5) [32] := rfl
      have hmod : (((bl.getD pre.length 0).toNat : Int)).tmod 5 = (((bl.getD pre.length 0).toNat % 5 : Nat) : Int) := by rw [Int.tmod_eq_emod_of_nonneg (by omega)]; omega
      generalize hq : (bl.getD pre.length 0).toNat % 5 = q at *
      have h5 := (sepAt_ok bl pre.length).2
      have hb1 : acc.length + (sepAt bl pre.length).length ≤ 4611686018427387904 := by omega
      have hb2 : acc.length + (sepAt bl pre.length).length + t.text.length ≤ 4611686018427387904 := by omega
      rcases (by omega : q = 0 ∨ q = 1 ∨ q = 2 ∨ q = 3 ∨ q = 4) with rfl | rfl | rfl | rfl | rfl
      · have hsl : sepAt bl pre.length = [32] := hsep
        rw [hsl] at ih hb1 hb2
        simp only [List.length_cons, List.length_nil, Nat.zero_add, Nat.reduceAdd] at hb1 hb2
        clear hsl hsep h5 hl0
        rcases hb with ⟨rfl, rfl⟩ | rfl
        · simp [-getElem?_pos, List.getElem?_cons_zero, List.getElem?_cons_succ, rfRow_len, h1, h1n, hrow, rfC, hj, hb1, hb2, w1]
          refine X_keep ih ?_
          simp
        · have hbl : (bRow bl).length = bl.length := by simp [bRow]
          by_cases hi : pre.length < bl.length
          · have hbi : bl[pre.length]? = some (bl.getD pre.length 0) := by simp [hi]
            have hbr := bRow_at hbi
            generalize bl.getD pre.length 0 = b at *
            simp [-getElem?_pos, List.getElem?_cons_zero, List.getElem?_cons_succ, rfRow_len, h1, h1n, hrow, rfC, hj, hb1, hb2, w1, hbr, hbl, hi, hmod]
            refine X_keep ih ?_
            simp
          · simp [-getElem?_pos, -Nat.not_lt, List.getElem?_cons_zero, List.getElem?_cons_succ, rfRow_len, h1, h1n, hrow, rfC, hj, hb1, hb2, w1, hbl, hi]
            refine X_keep ih ?_
            simp
      · have hsl : sepAt bl pre.length = [10] := hsep
        rw [hsl] at ih hb1 hb2
        simp only [List.length_cons, List.length_nil, Nat.zero_add, Nat.reduceAdd] at hb1 hb2
        clear hsl hsep h5 hl0
        rcases hb with ⟨rfl, rfl⟩ | rfl
        · simp at hq
        · have hbl : (bRow bl).length = bl.length := by simp [bRow]
          by_cases hi : pre.length < bl.length
          · have hbi : bl[pre.length]? = some (bl.getD pre.length 0) := by simp [hi]
            have hbr := bRow_at hbi
            generalize bl.getD pre.length 0 = b at *
            simp [-getElem?_pos, List.getElem?_cons_zero, List.getElem?_cons_succ, rfRow_len, h1, h1n, hrow, rfC, hj, hb1, hb2, w1, hbr, hbl, hi, hmod]
            refine X_keep ih ?_
            simp
          · rw [show bl.getD pre.length 0 = 0 by simp [List.getD, List.getElem?_eq_none (show bl.length ≤ pre.length by omega)]] at hq
            simp at hq
      · have hsl : sepAt bl pre.length = [9, 13] := hsep
        rw [hsl] at ih hb1 hb2
        simp only [List.length_cons, List.length_nil, Nat.zero_add, Nat.reduceAdd] at hb1 hb2
        clear hsl hsep h5 hl0
        rcases hb with ⟨rfl, rfl⟩ | rfl
        · simp at hq
        · have hbl : (bRow bl).length = bl.length := by simp [bRow]
          by_cases hi : pre.length < bl.length
          · have hbi : bl[pre.length]? = some (bl.getD pre.length 0) := by simp [hi]
            have hbr := bRow_at hbi
            generalize bl.getD pre.length 0 = b at *
            simp [-getElem?_pos, List.getElem?_cons_zero, List.getElem?_cons_succ, rfRow_len, h1, h1n, hrow, rfC, hj, hb1, hb2, w1, hbr, hbl, hi, hmod]
            refine X_keep ih ?_
            simp
          · rw [show bl.getD pre.length 0 = 0 by simp [List.getD, List.getElem?_eq_none (show bl.length ≤ pre.length by omega)]] at hq
            simp at hq
      · have hsl : sepAt bl pre.length = [32, 37, 32, 120, 10] := hsep
        rw [hsl] at ih hb1 hb2
        simp only [List.length_cons, List.length_nil, Nat.zero_add, Nat.reduceAdd] at hb1 hb2
        clear hsl hsep h5 hl0
        rcases hb with ⟨rfl, rfl⟩ | rfl
        · simp at hq
        · have hbl : (bRow bl).length = bl.length := by simp [bRow]
          by_cases hi : pre.length < bl.length
          · have hbi : bl[pre.length]? = some (bl.getD pre.length 0) := by simp [hi]
            have hbr := bRow_at hbi
            generalize bl.getD pre.length 0 = b at *
            simp [-getElem?_pos, List.getElem?_cons_zero, List.getElem?_cons_succ, rfRow_len, h1, h1n, hrow, rfC, hj, hb1, hb2, w1, hbr, hbl, hi, hmod]
            refine X_keep ih ?_
            simp
          · rw [show bl.getD pre.length 0 = 0 by simp [List.getD, List.getElem?_eq_none (show bl.length ≤ pre.length by omega)]] at hq
            simp at hq
      · have hsl : sepAt bl pre.length = [37, 10, 32, 32] := hsep
        rw [hsl] at ih hb1 hb2
        simp only [List.length_cons, List.length_nil, Nat.zero_add, Nat.reduceAdd] at hb1 hb2
        clear hsl hsep h5 hl0
        rcases hb with ⟨rfl, rfl⟩ | rfl
        · simp at hq
        · have hbl : (bRow bl).length = bl.length := by simp [bRow]
          by_cases hi : pre.length < bl.length
          · have hbi : bl[pre.length]? = some (bl.getD pre.length 0) := by simp [hi]
            have hbr := bRow_at hbi
            generalize bl.getD pre.length 0 = b at *
            simp [-getElem?_pos, List.getElem?_cons_zero, List.getElem?_cons_succ, rfRow_len, h1, h1n, hrow, rfC, hj, hb1, hb2, w1, hbr, hbl, hi, hmod]
            refine X_keep ih ?_
            simp
          · rw [show bl.getD pre.length 0 = 0 by simp [List.getD, List.getElem?_eq_none (show bl.length ≤ pre.length by omega)]] at hq
            simp at hq
noncomputable abbrev T4 := T3
theorem tok4 (W0 : World) : TOk Tryd.prog W0 T4 := tok3 W0
theorem x4 (s0 : Bs) (bv : SV) (bl : Bs) (hb : Row8 bv bl) : XFn Y T3 Tryd.f4 [.str s0, bv] [] (Is (.bool true)) := by
  have h13 : F13 [.str s0] = some (.str (s0.take 600)) := rfl
  have hs : (s0.take 600).length ≤ 600 := by rw [List.length_take]; omega
  generalize s0.take 600 = s at *
  have h15 := F15_at (s := s) (by omega)
  unfold refR at h15
  unfold XFn Tryd.f4
  rw [enter_2 _ (by decide)]
  cases hsc : scan s with
  | ok m =>
    rw [hsc] at h15
    have hml := scan_len hsc
    obtain ⟨m', hs', hc'⟩ := scan_lay hsc (sepAt bl) (fun i => (sepAt_ok bl i).1)
    have hsz := scan_size hsc (sepAt bl) (fun i => (sepAt_ok bl i).2)
    have hm' : m'.length = m.length := by simpa using congrArg List.length hc'
    have L := fun F P => loop4 (F := F) (P := P) hb (m := m) (ka := 0) (va := 0) (H := [.tok 0 38]) (by omega) m [] [] rfl (by simp; omega)
    simp only [List.nil_append, List.length_nil] at L
    generalize layT (sepAt bl) 0 (m.map Tk.core) = T at *
    have h14 := F14_at (s := T) (by omega)
    unfold scanR at h14
    rw [hs'] at h14
    obtain ⟨H', e⟩ := all18 (x := .pv .nilPtr) (H := [.tok 0 38, .tok 0 42]) (ka := 1) (va := 0) (kb := 0) (vb := 0) (isAll_n (s := T) (m := m') (m' := m) hc') rfl (by rw [tkRow_len, rfRow_len, hm']) tkRow_7 rfRow_6 (by rw [tkRow_len]; omega)
    have hlv : live bv = some bv := by rcases hb with ⟨_, rfl⟩ | rfl <;> rfl
    simp [T3_eq, h13, h15, F16_at, hlv]
    refine X_keep (L _ _ ?_) ?_
    · simp [T3_eq, h14, e, Is_mk, outR, outP]
    · simp
  | error p =>
    obtain ⟨o, er⟩ := p
    rw [hsc] at h15
    have her := scan_err_ne hsc
    have hlv : live bv = some bv := by rcases hb with ⟨_, rfl⟩ | rfl <;> rfl
    simp [T3_eq, h13, h15, F16_at, her, hlv, Is_mk, outR, outP]
end Go.Proofs.YtkbfgmneibabgaaDoor
