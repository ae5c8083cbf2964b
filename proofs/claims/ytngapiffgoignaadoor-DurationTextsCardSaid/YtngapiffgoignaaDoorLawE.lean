/- The laws of All and of the fewest, by the machine. -/
import Derived.Test.YtngapiffgoignaaDoorLawD
set_option linter.unusedSimpArgs false
set_option linter.unusedVariables false
set_option maxRecDepth 1000000
set_option maxHeartbeats 1000000
namespace Go.Proofs.YtngapiffgoignaaDoor
open Go Go.Pm Go.RowKit
noncomputable def T3 : FuncId → Option Pm.Spec := tab [(13, .pure false F13), (14, .pure false F14), (16, .pure false F16), (15, .pure false F15), (17, .pure false F38), (18, .pure false F18)]
theorem T3_eq (g : Nat) : T3 g = tab [(13, .pure false F13), (14, .pure false F14), (16, .pure false F16), (15, .pure false F15), (17, .pure false F38), (18, .pure false F18)] g := rfl
theorem tok3 {W0 : World} (L : Laid W0) : TOk Tryd.prog W0 T3 := tok_cons (meets13 W0) (tok_cons (meets14 L) (tok_cons (meets16 W0) (tok_cons (meets15 W0) (tok_cons (meets17 W0) (tok_cons (meets18 W0) tok_nil)))))
/-- Is it among the first i? -/
def among (l d : Int) (i : Nat) : Bool := (List.range i).any fun j => (decide ((AV j).1 = l) && decide ((AV j).2 = d))
theorem among_succ (l d : Int) (i : Nat) : among l d (i + 1) = (among l d i || (decide ((AV i).1 = l) && decide ((AV i).2 = d))) := by
  simp [among, List.range_succ]
theorem among_all (l d : Int) : among l d 40 = decide (okV l d) := by
  by_cases h : okV l d
  · have := AV_ix h
    rw [decide_eq_true h]
    unfold among
    rw [List.any_eq_true]
    exact ⟨ixV l d, by simpa using ix_lt h, by rw [this]; simp⟩
  · rw [decide_eq_false h]
    unfold among
    rw [List.any_eq_false]
    intro j hj
    have hj : j < 40 := by simpa using hj
    have := AV_ok hj
    simp only [Bool.and_eq_true, decide_eq_true_eq]
    rintro ⟨h1, h2⟩
    rw [h1, h2] at this
    exact h this
theorem tk_anti {i : Nat} (h : i + 1 < 40) : ¬ tkZ (AV i) ≤ tkZ (AV (i + 1)) := by
  have h1 := tk_sz i (by omega)
  have h2 := tk_sz (i + 1) h
  have := sz_anti (i + 1) h i (by omega)
  omega
theorem loop3 {F : List Fr} {P : SV × List Blk → Prop} {rs : List ResultVar} {H : List Blk} (l d : Int) (hH : H[0]? = some (.box (some 23) [.i l, .i d])) : ∀ (r i : Nat), i + r = 40 →
    X Y T3 rs F (.exit 0) ⟨mk 55 .J [(1, .ptr 0 0), (4, .bool (among l d 40))], H⟩ P →
    X Y T3 rs F (.loop (loopN Tryd.f3 0)) ⟨mk 55 .J [(1, .ptr 0 0), (3, .pv (.slice 2 rowsA)), (4, .bool (among l d i)), (5, .i (i : Nat))], H⟩ P := by
  have hl : rowsA.length = 40 := rfl
  intro r
  induction r with
  | zero =>
    intro i e hx
    have e1 : i = 40 := by omega
    subst e1
    apply X_loop_of
    · simp only [loopN, Tryd.f3, loopsOf, List.nil_append, List.append_nil, List.cons_append, List.getD_cons_succ, List.getD_cons_zero]; rfl
    simp [hl]
    refine X_keep hx ?_
    simp
  | succ r ih =>
    intro i e hx
    have hi : i < 40 := by omega
    have q3 := next_i (m := i) (by omega)
    have hat : rowsA[i]? = some [.int .i64 (AV i).1, .int .i64 (AV i).2] := rowsA_at hi
    have f1 := F38_ok (AV_ok hi)
    have c3 : ((i : Nat) : Int).toNat = i := by omega
    have c4 : ((i : Nat) : Int) < 40 := by omega
    have hih := ih (i + 1) (by omega) hx
    rw [among_succ] at hih
    generalize among l d i = fo at *
    apply X_loop_of
    · simp only [loopN, Tryd.f3, loopsOf, List.nil_append, List.append_nil, List.cons_append, List.getD_cons_succ, List.getD_cons_zero]; rfl
    by_cases h0 : i = 0
    · subst h0
      have hat0 : rowsA[0]? = some [.int .i64 (AV 0).1, .int .i64 (AV 0).2] := hat
      cases fo
      · simp [-Int.natCast_add, -Int.not_lt, -Int.not_le, -getElem?_pos, List.getElem?_cons_zero, List.getElem?_cons_succ, T3_eq, hl, q3, hat0, f1, hH, beqZ]
        simp only [Bool.false_or] at hih
        refine X_keep hih ?_
        simp
        rfl
      · simp [-Int.natCast_add, -Int.not_lt, -Int.not_le, -getElem?_pos, List.getElem?_cons_zero, List.getElem?_cons_succ, T3_eq, hl, q3, hat0, f1, hH, beqZ]
        simp only [Bool.true_or] at hih
        refine X_keep hih ?_
        simp
        rfl
    · have hi1 : i - 1 < 40 := by omega
      have hat1 : rowsA[i - 1]? = some [.int .i64 (AV (i - 1)).1, .int .i64 (AV (i - 1)).2] := rowsA_at hi1
      have f2 := F38_ok (AV_ok hi1)
      have w1 : IntKind.i64.wrap (((i : Nat) : Int) - 1) = ((i - 1 : Nat) : Int) := by rw [wrap64 (by omega) (by omega)]; omega
      have c5 : ((i - 1 : Nat) : Int).toNat = i - 1 := by omega
      have c6 : (0 : Int) < ((i : Nat) : Int) := by omega
      have c7 : 0 < i := by omega
      have ha : ¬ tkZ ((AV (i - 1)).1, (AV (i - 1)).2) ≤ tkZ ((AV i).1, (AV i).2) := by
        have := tk_anti (i := i - 1) (by omega)
        rw [show i - 1 + 1 = i by omega] at this; exact this
      cases fo
      · simp [-Int.natCast_add, -Int.not_lt, -Int.not_le, -getElem?_pos, List.getElem?_cons_zero, List.getElem?_cons_succ, T3_eq, hl, q3, hat, hat1, f1, f2, w1, c3, c4, c5, c6, c7, hi, hi1, ha, hH, beqZ]
        simp only [Bool.false_or] at hih
        refine X_keep hih ?_
        simp
      · simp [-Int.natCast_add, -Int.not_lt, -Int.not_le, -getElem?_pos, List.getElem?_cons_zero, List.getElem?_cons_succ, T3_eq, hl, q3, hat, hat1, f1, f2, w1, c3, c4, c5, c6, c7, hi, hi1, ha, hH, beqZ]
        simp only [Bool.true_or] at hih
        refine X_keep hih ?_
        simp
theorem rowsA_lst : lstP (.slice 2 rowsA) = some ((List.range 40).map AV) := by
  have : rowsA = rowsV ((List.range 40).map AV) := by simp [rowsA, rowsV]
  rw [this]; exact lst_rows _
theorem x3 (l d : Int) : XFn Y T3 Tryd.f3 [.agg [.i l, .i d]] [] (Is (.bool true)) := by
  unfold XFn Tryd.f3
  rw [enter_1 _ (by decide)]
  have f14 : F14 [] = some (.bool true) := rfl
  have f15 := F15_ok rowsA_lst rowsA_lst (by simp)
  simp only [decide_true] at f15
  have hl : rowsA.length = 40 := rfl
  have L := fun F P rs H hH => loop3 (F := F) (P := P) (rs := rs) (H := H) l d hH 40 0 rfl
  rw [among_all] at L
  have a0 : among l d 0 = false := rfl
  rw [a0] at L
  simp [-Int.not_lt, -Int.not_le, -outR, T3_eq, f14, F13, F16, f15, hl]
  refine X_keep (L _ _ _ _ rfl ?_) ?_
  · simp [-Int.not_lt, -Int.not_le, T3_eq, F18]
  · simp
/-- DurationFewest. -/
noncomputable def T4 : FuncId → Option Pm.Spec := tab [(14, .pure false F14), (18, .pure false F18), (17, .pure false F38), (19, .pure false F19), (15, .pure false F15)]
theorem T4_eq (g : Nat) : T4 g = tab [(14, .pure false F14), (18, .pure false F18), (17, .pure false F38), (19, .pure false F19), (15, .pure false F15)] g := rfl
theorem tok4 {W0 : World} (L : Laid W0) : TOk Tryd.prog W0 T4 := tok_cons (meets14 L) (tok_cons (meets18 W0) (tok_cons (meets17 W0) (tok_cons (meets19 W0) (tok_cons (meets15 W0) tok_nil))))
theorem loop4 {F : List Fr} {P : SV × List Blk → Prop} {H : List Blk} (p : PV) (l : List (Int × Int)) (hp : lstP p = some l) (hl : l.length ≤ 1024) : ∀ (r i : Nat) (s : Int), i + r = l.length → (0 ≤ s ∧ s ≤ i * 7257600) → 
    ((sumZ (l.drop i) s).2 ≠ 0 → P (.bool true, H)) →
    ((sumZ (l.drop i) s).2 = 0 → X Y T4 [.tmp 2] F (.exit 0) ⟨mk 60 .J [(0, .pv p), (3, .i (sumZ (l.drop i) s).1)], H⟩ P) →
    X Y T4 [.tmp 2] F (.loop (loopN Tryd.f4 0)) ⟨mk 60 .J [(0, .pv p), (3, .i s), (4, .i (i : Nat))], H⟩ P := by
  have hlen := lst_len hp
  intro r
  induction r with
  | zero =>
    intro i s e hs hp0 hx
    have e1 : i = l.length := by omega
    subst e1
    rw [List.drop_of_length_le (Nat.le_refl _)] at hx
    apply X_loop_of
    · simp only [loopN, Tryd.f4, loopsOf, List.nil_append, List.append_nil, List.cons_append, List.getD_cons_succ, List.getD_cons_zero]; rfl
    simp [-aLen, hlen]
    refine X_keep (hx rfl) ?_
    simp [sumZ]
  | succ r ih =>
    intro i s e hs hp0 hx
    have hi : i < l.length := by omega
    obtain ⟨x, hxi⟩ : ∃ x, l[i]? = some x := ⟨_, List.getElem?_eq_getElem hi⟩
    have hd : l.drop i = x :: l.drop (i + 1) := by
      rw [List.drop_eq_getElem_cons hi]; congr 1
      have := List.getElem?_eq_getElem hi; rw [this] at hxi; exact Option.some.inj hxi
    have q3 := next_i (m := i) (by omega)
    have hat := lst_at hp hxi
    rw [hd] at hp0 hx
    have c4 : ((i : Nat) : Int) < (l.length : Nat) := by omega
    obtain ⟨xl, xd⟩ := x
    apply X_loop_of
    · simp only [loopN, Tryd.f4, loopsOf, List.nil_append, List.append_nil, List.cons_append, List.getD_cons_succ, List.getD_cons_zero]; rfl
    by_cases hok : okV xl xd
    · have hb := tk_bound hok
      have f1 := F38_ok hok
      have w1 : IntKind.i64.wrap (s + tkZ (xl, xd)) = s + tkZ (xl, xd) := wrap64 (by omega) (by omega)
      have es : sumZ ((xl, xd) :: l.drop (i + 1)) s = sumZ (l.drop (i + 1)) (s + tkZ (xl, xd)) := by rw [sumZ, if_pos hok]
      rw [es] at hp0 hx
      simp [-Int.natCast_add, -Int.not_lt, -Int.not_le, -aIndexAddr, -aLen, -getElem?_pos, List.getElem?_cons_zero, List.getElem?_cons_succ, T4_eq, F18, hlen, q3, hat, c4, hi, hok, f1, w1]
      refine X_keep (ih (i + 1) (s + tkZ (xl, xd)) (by omega) (by omega) hp0 hx) ?_
      simp
    · have es : sumZ ((xl, xd) :: l.drop (i + 1)) s = (0, 17) := by rw [sumZ, if_neg hok]
      rw [es] at hp0
      simp [-Int.natCast_add, -Int.not_lt, -Int.not_le, -aIndexAddr, -aLen, -getElem?_pos, List.getElem?_cons_zero, List.getElem?_cons_succ, T4_eq, F18, hlen, q3, hat, c4, hi, hok]
      exact hp0 (by simp)
theorem sum_ok : ∀ (l : List (Int × Int)) (s : Int), (sumZ l s).2 = 0 → ∃ k : List Nat, l = k.map AV ∧ (∀ i ∈ k, i < 40)
  | [], _, _ => ⟨[], rfl, by simp⟩
  | x :: l, s, h => by
    by_cases hok : okV x.1 x.2
    · rw [sumZ, if_pos hok] at h
      obtain ⟨k, rfl, hk⟩ := sum_ok l _ h
      exact ⟨ixV x.1 x.2 :: k, by rw [List.map_cons, AV_ix hok], fun i hi => by rcases List.mem_cons.1 hi with rfl | hi; exact ix_lt hok; exact hk i hi⟩
    · rw [sumZ, if_neg hok] at h; simp at h
theorem x4 (p : PV) (l : List (Int × Int)) (hp : lstP p = some l) : XFn Y T4 Tryd.f4 [.pv p] [] (Is (.bool true)) := by
  unfold XFn Tryd.f4
  rw [enter_1 _ (by decide)]
  have f14 : F14 [] = some (.bool true) := rfl
  have hlen := lst_len hp
  by_cases h6 : l.length ≤ 6
  · have c1 : ¬ (6 : Int) < (l.length : Nat) := by omega
    have c2 : ¬ 6 < l.length := by omega
    simp [-Int.not_lt, -Int.not_le, -outR, -aLen, T4_eq, f14, hlen, c1, c2]
    refine X_keep (loop4 p l hp (by omega) l.length 0 0 (by omega) (by omega) (fun h => ?_) (fun h => ?_)) ?_
    · simp
    · rw [List.drop_zero] at h ⊢
      obtain ⟨k, rfl, hk⟩ := sum_ok l 0 h
      have hs := sum_canon k 0 hk
      rw [hs, Int.zero_add]
      have hkl : k.length ≤ 6 := by simpa using h6
      obtain ⟨g1, g2⟩ := fw_sum k hk
      generalize hN : (k.map sz).sum = N at *
      by_cases hbig : 7741440 < 945 * (N : Int)
      · simp [-Int.not_lt, -Int.not_le, -outR, -aLen, hbig]
        simp
      · have hd : decZ (945 * (N : Int)) = (listV ((canon N).map AV), 0) := by
          unfold decZ
          have e1 : 945 * (N : Int) / 945 = N := by omega
          rw [if_neg (by omega), e1, Int.toNat_natCast, if_neg (by omega)]
        have f19 : F19 [.i (945 * (N : Int))] = some (.tuple [listV ((canon N).map AV), .i 0]) := by simp only [F19, hd]
        have hcl := canon_len g1
        have hlp : lstP p = some (k.map AV) := hp
        have hpl : aLen Y 24 (.pv p) = some k.length := by simpa using hlen
        by_cases h1 : k.length = 1
        · obtain ⟨i, rfl⟩ : ∃ i, k = [i] := by
            match k, h1 with
            | [i], _ => exact ⟨i, rfl⟩
          have hi := hk i (by simp)
          have hN1 : N = sz i := by simpa using hN.symm
          rw [hN1, canon_one hi] at f19
          have hv : listV ([i].map AV) = .fresh 23 2 (rowsV ([i].map AV)) := rfl
          rw [hv] at f19
          have f15 := F15_ok (lst_rows ([i].map AV)) hlp (by simp)
          simp only [decide_true] at f15
          have hrl : (rowsV ([i].map AV)).length = 1 := rfl
          have hpl : aLen Y 24 (.pv p) = some 1 := hpl
          have hbig' : ¬ 7741440 < 945 * (sz i : Int) := by rw [← hN1]; exact hbig
          rw [hN1]
          generalize rowsV ([i].map AV) = rows at *
          have hml : aLen Y 24 (.pv (.slice 2 rows)) = some 1 := by simp [aLen, sliceElems, hrl]
          simp [-Int.not_lt, -Int.not_le, -aLen, hbig', T4_eq, f19, f15, hpl, hml]
        · have h1' : ¬ (k.length : Int) = 1 := by omega
          by_cases hne : (canon N).map AV = []
          · have hv : listV ((canon N).map AV) = .pv .nilSlice := by unfold listV; rw [if_pos hne]
            rw [hv] at f19
            have hml : aLen Y 24 (.pv .nilSlice) = some 0 := rfl
            simp [-Int.not_lt, -Int.not_le, -aLen, hbig, T4_eq, f19, hpl, hml, h1, h1', beqZ, bneZ]
          · have hv : listV ((canon N).map AV) = .fresh 23 2 (rowsV ((canon N).map AV)) := by unfold listV; rw [if_neg hne]
            rw [hv] at f19
            have hrl : (rowsV ((canon N).map AV)).length = (canon N).length := by simp [rowsV]
            have hle : ((canon N).length : Int) ≤ k.length := by omega
            generalize rowsV ((canon N).map AV) = rows at *
            have hml : aLen Y 24 (.pv (.slice 2 rows)) = some (canon N).length := by simp [aLen, sliceElems, hrl]
            have hle' : (canon N).length ≤ k.length := by omega
            simp [-Int.not_lt, -Int.not_le, -aLen, hbig, T4_eq, f19, hpl, hml, h1, h1', beqZ, bneZ, hle, hle']
    · simp
  · have c1 : (6 : Int) < (l.length : Nat) := by omega
    have c2 : 6 < l.length := by omega
    simp [-Int.not_lt, -Int.not_le, -outR, -aLen, T4_eq, f14, hlen, c1, c2]
    simp
end Go.Proofs.YtngapiffgoignaaDoor
