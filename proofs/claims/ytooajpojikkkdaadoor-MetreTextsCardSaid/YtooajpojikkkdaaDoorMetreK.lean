/- Durations divided, by the machine: the program and the reference come to the same list. -/
import Derived.Test.YtooajpojikkkdaaDoorMetreJ
set_option linter.unusedSimpArgs false
set_option linter.unusedVariables false
set_option maxRecDepth 1000000
set_option maxHeartbeats 400000
namespace Go.Proofs.YtooajpojikkkdaaDoor
open Go Go.Pm Go.RowKit
def rowV (l : List (Int × Int)) : List (List PV) := l.map fun v => [PV.int .i64 v.1, .int .i64 v.2]
theorem rowV_len (l : List (Int × Int)) : (rowV l).length = l.length := by simp [rowV]
/-- A list of note values as a function hands it back. -/
def listSV : List (Int × Int) → SV
  | [] => .pv .nilSlice
  | [v] => .tight 2 (rowV [v])
  | l => .fresh 36 2 (rowV l)
def plX (H : List Blk) : List (Int × Int) → SV
  | [] => .pv .nilSlice
  | [v] => .tight 2 (rowV [v])
  | l => .own H.length 0 2 (rowV l)
def plH (H : List Blk) : List (Int × Int) → List Blk
  | [] => H
  | [_] => H
  | _ => H ++ [.tok 0 36]
theorem place_list (H : List Blk) (l : List (Int × Int)) : placeR true H (listSV l) = some (plX H l, plH H l) := by
  match l with
  | [] => rfl
  | [v] => rfl
  | v :: w :: r => rfl
theorem live_list (H : List Blk) (l : List (Int × Int)) : live (plX H l) = some (plX H l) := by
  match l with
  | [] => rfl
  | [v] => rfl
  | v :: w :: r => rfl
theorem plH_old {H : List Blk} {l : List (Int × Int)} {k : Nat} {b : Blk} (h : H[k]? = some b) : (plH H l)[k]? = some b := by
  match l with
  | [] => exact h
  | [v] => exact h
  | v :: w :: r => exact (List.getElem?_append_left (List.getElem?_eq_some_iff.1 h).1).trans h
theorem app26 (H : List Blk) (l r : List (Int × Int)) (hl : l ≠ []) (hr : r ≠ []) (hn : l.length + r.length ≤ 100000) :
    ∃ k v H', aAppend Y (plH (plH H l) r) 26 26 (plX H l) (plX (plH H l) r) = some (.own k v 2 (rowV (l ++ r)), H') ∧ H'[k]? = some (.tok v 36) := by
  have e1 : Y 26 = some ⟨.slice 36, 1, 24, [.nilSlice], []⟩ := rfl
  have e2 : Y 36 = some ⟨.struct [(0, 3), (1, 3)], 2, 16, [.int .i64 0, .int .i64 0], [.int .i64, .int .i64]⟩ := rfl
  have src : ∀ K : List Blk, sliceElems (plX K r) = some (rowV r) ∧ strideOk 2 (plX K r) = true := by
    intro K
    match r, hr with
    | [v], _ => exact ⟨rfl, rfl⟩
    | v :: w :: r', _ => exact ⟨rfl, rfl⟩
  obtain ⟨s1, s2⟩ := src (plH H l)
  have hne : (rowV r).isEmpty = false := by
    cases r with
    | nil => exact absurd rfl hr
    | cons a b => rfl
  have hap : rowV (l ++ r) = rowV l ++ rowV r := by simp [rowV]
  have dstc : (∃ v, plX H l = .tight 2 (rowV l) ∧ l = [v]) ∨ (plX H l = .own H.length 0 2 (rowV l) ∧ plH H l = H ++ [.tok 0 36]) := by
    match l, hl with
    | [v], _ => exact .inl ⟨v, rfl, rfl⟩
    | v :: w :: r', _ => exact .inr ⟨rfl, rfl⟩
  have hc1 : ((rowV l).length + (rowV r).length) * 16 ≤ maxRow := by rw [rowV_len, rowV_len]; unfold maxRow; omega
  have hc2 : (rowV l).length + (rowV r).length ≤ maxRow := by rw [rowV_len, rowV_len]; unfold maxRow; omega
  rcases dstc with ⟨v, d1, d2⟩ | ⟨d1, d2⟩
  · refine ⟨(plH (plH H l) r).length, 0, plH (plH H l) r ++ [.tok 0 36], ?_, by simp⟩
    rw [d1, hap]
    generalize plX (plH H l) r = x at *
    have s0 : sliceElems (.tight 2 (rowV l)) = some (rowV l) := rfl
    simp only [aAppend, kindOf, e1, e2, s0, s1, hne, ne_eq, not_true_eq_false, if_false, Bool.false_eq_true]
    rw [if_pos ⟨rfl, s2, by decide, hc1, by decide, by decide, hc2⟩]
  · have hk : (plH (plH H l) r)[H.length]? = some (.tok 0 36) := by
      refine plH_old ?_
      rw [d2]; simp
    refine ⟨H.length, 1, (plH (plH H l) r).set H.length (.tok 1 36), ?_, by rw [List.getElem?_set_self (List.getElem?_eq_some_iff.1 hk).1]⟩
    rw [d1, hap]
    generalize plX (plH H l) r = x at *
    have s0 : sliceElems (.own H.length 0 2 (rowV l)) = some (rowV l) := rfl
    simp only [aAppend, kindOf, e1, e2, s0, s1, hne, ne_eq, not_true_eq_false, if_false, Bool.false_eq_true]
    rw [if_pos ⟨rfl, s2, by decide, hc1, by decide, by decide, hc2⟩]
    simp [hk]
theorem out26 {H' : List Blk} {k v : Nat} (l r : List (Int × Int)) (hl : l ≠ []) (hr : r ≠ []) (hk : H'[k]? = some (.tok v 36)) : outR H' (.own k v 2 (rowV (l ++ r))) = some (listSV (l ++ r)) := by
  have : listSV (l ++ r) = .fresh 36 2 (rowV (l ++ r)) := by
    match l, r, hl, hr with
    | [a], b :: r', _, _ => rfl
    | a :: b :: l', r', _, _ => rfl
  rw [this]
  simp [outR, outP, hk]
/-- What is one note value: its dots, and no stronger tick within than at its ends. -/
def leafZ (lv : Int → Int) (a b : Int) : Prop := (findZ (b - a)).2 = 0 ∧ (findZ (b - a)).1.2 ≤ 2 ∧ lv a ≤ (strZ lv a b).2 ∧ (0 < (findZ (b - a)).1.2 ∨ lv b ≤ (strZ lv a b).2)
instance (lv : Int → Int) (a b : Int) : Decidable (leafZ lv a b) := inferInstanceAs (Decidable (_ ∧ _))
def splitZ (lv : Int → Int) : Nat → Int → Int → Option (List (Int × Int))
  | 0, _, _ => none
  | n + 1, a, b => if a = b then some [] else if leafZ lv a b then some [(findZ (b - a)).1] else
      match splitZ lv n a (strZ lv a b).1, splitZ lv n (strZ lv a b).1 b with
      | some l, some r => some (l ++ r)
      | _, _ => none
theorem strR_spec (lv : Int → Int) (b : Int) : ∀ (r : Nat) (t : Int) (s : Int × Int),
    (strR lv b r t s = s ∧ ∀ j : Nat, j < r → t + 7560 * j < b → s.2 ≤ lv (t + 7560 * j)) ∨
    (∃ i : Nat, i < r ∧ t + 7560 * i < b ∧ strR lv b r t s = (t + 7560 * i, lv (t + 7560 * i)) ∧ lv (t + 7560 * i) < s.2 ∧ (∀ j : Nat, j < i → lv (t + 7560 * i) < lv (t + 7560 * j)) ∧ ∀ j : Nat, j < r → t + 7560 * j < b → lv (t + 7560 * i) ≤ lv (t + 7560 * j))
  | 0, t, s => .inl ⟨rfl, fun j h => by omega⟩
  | r + 1, t, s => by
    rw [strR]
    by_cases ht : t < b
    · rw [if_pos ht]
      have step : ∀ j : Nat, t + 7560 + 7560 * (j : Int) = t + 7560 * ((j + 1 : Nat) : Int) := fun j => by omega
      by_cases hl : lv t < s.2
      · rw [if_pos hl]
        rcases strR_spec lv b r (t + 7560) (t, lv t) with ⟨h1, h2⟩ | ⟨i, h1, h2, h3, h4, h5, h6⟩
        · refine .inr ⟨0, by omega, by simpa using ht, by rw [h1]; simp, by simpa using hl, fun j hj => by omega, fun j hj hb => ?_⟩
          cases j with
          | zero => simp
          | succ j =>
            have := h2 j (by omega) (by rw [step]; exact hb)
            rw [step] at this
            simpa using this
        · rw [step] at h2 h3 h4
          refine .inr ⟨i + 1, by omega, h2, h3, by simp only [] at h4; omega, fun j hj => ?_, fun j hj hb => ?_⟩
          · cases j with
            | zero => simp only [] at h4; rw [show t + 7560 * ((0 : Nat) : Int) = t by omega]; exact h4
            | succ j =>
              have := h5 j (by omega)
              rw [step, step] at this; exact this
          · cases j with
            | zero => simp only [] at h4; rw [show t + 7560 * ((0 : Nat) : Int) = t by omega]; omega
            | succ j =>
              have := h6 j (by omega) (by rw [step]; exact hb)
              rw [step, step] at this; exact this
      · rw [if_neg hl]
        rcases strR_spec lv b r (t + 7560) s with ⟨h1, h2⟩ | ⟨i, h1, h2, h3, h4, h5, h6⟩
        · refine .inl ⟨h1, fun j hj hb => ?_⟩
          cases j with
          | zero => simp; omega
          | succ j =>
            have := h2 j (by omega) (by rw [step]; exact hb)
            rw [step] at this; exact this
        · rw [step] at h2 h3 h4
          refine .inr ⟨i + 1, by omega, h2, h3, h4, fun j hj => ?_, fun j hj hb => ?_⟩
          · cases j with
            | zero => rw [show t + 7560 * ((0 : Nat) : Int) = t by omega]; omega
            | succ j =>
              have := h5 j (by omega)
              rw [step, step] at this; exact this
          · cases j with
            | zero => rw [show t + 7560 * ((0 : Nat) : Int) = t by omega]; omega
            | succ j =>
              have := h6 j (by omega) (by rw [step]; exact hb)
              rw [step, step] at this; exact this
    · rw [if_neg ht]
      exact .inl ⟨rfl, fun j hj hb => by omega⟩
/-- The domain: whole numbers of the shortest note value. -/
def dom2 (a b : Int) : Prop := domS a b ∧ a % 7560 = 0 ∧ b % 7560 = 0
instance (a b : Int) : Decidable (dom2 a b) := inferInstanceAs (Decidable (_ ∧ _))
/-- The strongest tick within. -/
theorem strZ_spec {lv : Int → Int} (hlv : ∀ t, 0 ≤ lv t ∧ lv t ≤ 15) {a b : Int} (hd : dom2 a b) (hab : a ≠ b) :
    (b - a = 7560 ∧ strZ lv a b = (0, 99)) ∨
    ((a < (strZ lv a b).1 ∧ (strZ lv a b).1 < b ∧ (strZ lv a b).1 % 7560 = 0) ∧ (strZ lv a b).2 = lv (strZ lv a b).1 ∧
      (∀ t, a < t → t < (strZ lv a b).1 → t % 7560 = 0 → (strZ lv a b).2 < lv t) ∧ (∀ t, a < t → t < b → t % 7560 = 0 → (strZ lv a b).2 ≤ lv t)) := by
  obtain ⟨⟨d1, d2, d3, d4⟩, d5, d6⟩ := hd
  unfold strZ
  have conv : ∀ t, a < t → t % 7560 = 0 → ∃ j : Nat, t = a + 7560 + 7560 * j ∧ (t < b → j < 2049) := by
    intro t h1 h2
    refine ⟨((t - a - 7560) / 7560).toNat, by omega, fun h => by omega⟩
  rcases strR_spec lv b 2049 (a + 7560) (0, 99) with ⟨h1, h2⟩ | ⟨i, h1, h2, h3, h4, h5, h6⟩
  · refine .inl ⟨?_, h1⟩
    by_cases hb : a + 7560 < b
    · have := h2 0 (by omega) (by simpa using hb)
      have := hlv (a + 7560 + 7560 * ((0 : Nat) : Int))
      simp only [] at *
      omega
    · omega
  · rw [h3]
    refine .inr ⟨⟨by simp only []; omega, by simp only []; omega, by simp only []; omega⟩, rfl, fun t t1 t2 t3 => ?_, fun t t1 t2 t3 => ?_⟩
    · obtain ⟨j, rfl, hj⟩ := conv t t1 t3
      simp only [] at t2 ⊢
      exact h5 j (by omega)
    · obtain ⟨j, rfl, hj⟩ := conv t t1 t3
      simp only [] at t2 ⊢
      exact h6 j (hj t2) t2
theorem find7560 : findZ 7560 = ((8, 0), 0) := by decide +kernel
/-- There is at least one note value, and not too many. -/
theorem splitZ_len {lv : Int → Int} (hlv : ∀ t, 0 ≤ lv t ∧ lv t ≤ 15) : ∀ (n : Nat) (a b : Int) (l : List (Int × Int)), dom2 a b → splitZ lv n a b = some l → (a ≠ b → l ≠ []) ∧ 7560 * (l.length : Int) ≤ b - a
  | 0, a, b, l, _, h => by simp [splitZ] at h
  | n + 1, a, b, l, hd, h => by
    rw [splitZ] at h
    by_cases hab : a = b
    · rw [if_pos hab] at h; cases h; simp; omega
    · rw [if_neg hab] at h
      by_cases hl : leafZ lv a b
      · rw [if_pos hl] at h; cases h; simp
        obtain ⟨⟨d1, d2, d3, d4⟩, d5, d6⟩ := hd
        omega
      · rw [if_neg hl] at h
        rcases strZ_spec hlv hd hab with ⟨h1, h2⟩ | ⟨⟨s1, s2, s3⟩, s4, s5, s6⟩
        · exfalso
          apply hl
          unfold leafZ
          rw [h1, find7560, h2]
          have := hlv a; have := hlv b
          exact ⟨rfl, by decide, by show lv a ≤ 99; omega, .inr (by show lv b ≤ 99; omega)⟩
        · obtain ⟨⟨d1, d2, d3, d4⟩, d5, d6⟩ := hd
          split at h
          · rename_i l1 r1 e1 e2
            cases h
            obtain ⟨p1, p2⟩ := splitZ_len hlv n _ _ _ ⟨⟨by omega, by omega, by omega, by omega⟩, by omega, by omega⟩ e1
            obtain ⟨p3, p4⟩ := splitZ_len hlv n _ _ _ ⟨⟨by omega, by omega, by omega, by omega⟩, by omega, by omega⟩ e2
            refine ⟨fun _ => ?_, by simp; omega⟩
            intro e
            have := List.append_eq_nil_iff.1 e
            exact p1 (by omega) this.1
          · cases h
abbrev lvl (c u g0 g1 g2 g3 g4 g5 : Int) : Int → Int := levelZ c u [g0, g1, g2, g3, g4, g5]
/-- The contract, with so many rounds to go. -/
def F36 (n : Nat) : List SV → Option SV
  | [.agg [.pv (.int .i64 c), .pv (.int .i64 u), .pv (.int .i64 g0), .pv (.int .i64 g1), .pv (.int .i64 g2), .pv (.int .i64 g3), .pv (.int .i64 g4), .pv (.int .i64 g5)], .pv (.int .i64 a), .pv (.int .i64 b)] =>
    if okM c u [g0, g1, g2, g3, g4, g5] ∧ dom2 a b then (splitZ (lvl c u g0 g1 g2 g3 g4 g5) n a b).map listSV else none
  | _ => none
noncomputable def T36 (n : Nat) : FuncId → Option Pm.Spec := tab [(54, .pure false F54), (55, .pure false F55), (41, .pure false F22), (36, .pure true (F36 n))]
theorem T36_eq (n g : Nat) : T36 n g = tab [(54, .pure false F54), (55, .pure false F55), (41, .pure false F22), (36, .pure true (F36 n))] g := rfl
noncomputable def T37 (n : Nat) : FuncId → Option Pm.Spec := tab [(56, .pure false F56), (57, .pure false F57), (22, .pure false F22), (37, .pure true (F36 n))]
theorem T37_eq (n g : Nat) : T37 n g = tab [(56, .pure false F56), (57, .pure false F57), (22, .pure false F22), (37, .pure true (F36 n))] g := rfl
theorem x37 (n : Nat) (c u g0 g1 g2 g3 g4 g5 a b : Int) (h : okM c u [g0, g1, g2, g3, g4, g5]) (hd : dom2 a b) (l : List (Int × Int)) (hs : splitZ (levelZ c u [g0, g1, g2, g3, g4, g5]) (n + 1) a b = some l) :
    XFn Y (T37 n) Tryd.f37 [.agg (M8 c u g0 g1 g2 g3 g4 g5), .i a, .i b] [] (Is (listSV l)) := by
  unfold XFn Tryd.f37
  rw [enter_3 _ (by decide)]
  obtain ⟨lv, hL⟩ : ∃ lv, levelZ c u [g0, g1, g2, g3, g4, g5] = lv := ⟨_, rfl⟩
  rw [hL] at hs
  have hlv : ∀ t, 0 ≤ lv t ∧ lv t ≤ 15 := fun t => by rw [← hL]; exact level_range c u [g0, g1, g2, g3, g4, g5] t
  by_cases hab : a = b
  · rw [splitZ, if_pos hab] at hs
    cases hs
    simp [hab, listSV]
  · rw [splitZ, if_neg hab] at hs
    have hd' := hd
    obtain ⟨hdS, d5, d6⟩ := hd'
    have hdS' := hdS
    obtain ⟨d1, d2, d3, d4⟩ := hdS'
    have q1 : IntKind.i64.wrap (b - a) = b - a := wrap64 (by omega) (by omega)
    have hb0 : 0 ≤ b := by omega
    have shape := strZ_spec hlv hd hab
    have leaf : leafZ lv a b → ∀ H, outR H (.tight 2 [[.int .i64 (findZ (b - a)).1.1, .int .i64 (findZ (b - a)).1.2]]) = some (listSV l) := by
      intro hl H
      rw [if_pos hl] at hs
      cases hs
      simp [listSV, rowV]
    have last_ : strZ lv a b = (0, 99) → b - a = 7560 → leafZ lv a b := by
      intro h2 h1
      unfold leafZ
      rw [h1, find7560, h2]
      have := hlv a; have := hlv b
      exact ⟨rfl, by decide, by show lv a ≤ 99; omega, .inr (by show lv b ≤ 99; omega)⟩
    have rec_ : ¬ leafZ lv a b → ∃ l1 r1, F36 n [.agg (M8 c u g0 g1 g2 g3 g4 g5), .i a, .i (strZ lv a b).1] = some (listSV l1) ∧ F36 n [.agg (M8 c u g0 g1 g2 g3 g4 g5), .i (strZ lv a b).1, .i b] = some (listSV r1) ∧ l = l1 ++ r1 ∧
        l1 ≠ [] ∧ r1 ≠ [] ∧ l1.length + r1.length ≤ 100000 := by
      intro hl
      rw [if_neg hl] at hs
      rcases shape with ⟨h1, h2⟩ | ⟨⟨s1, s2, s3⟩, s4, s5, s6⟩
      · exact absurd (last_ h2 h1) hl
      · split at hs
        · rename_i l1 r1 e1 e2
          cases hs
          have k1 : dom2 a (strZ lv a b).1 := ⟨⟨by omega, by omega, by omega, by omega⟩, by omega, by omega⟩
          have k2 : dom2 (strZ lv a b).1 b := ⟨⟨by omega, by omega, by omega, by omega⟩, by omega, by omega⟩
          obtain ⟨p1, p2⟩ := splitZ_len hlv n _ _ _ k1 e1
          obtain ⟨p3, p4⟩ := splitZ_len hlv n _ _ _ k2 e2
          exact ⟨l1, r1, by simp [F36, lvl, h, k1, hL, e1], by simp [F36, lvl, h, k2, hL, e2], rfl, p1 (by omega), p3 (by omega), by omega⟩
        · cases hs
    unfold leafZ at leaf rec_ last_
    clear hs
    have hab' : (a == b) = false := by simpa using hab
    generalize hS : strZ lv a b = S at *
    generalize hF : findZ (b - a) = Fd at *
    simp [-Int.not_lt, -Int.not_le, -outR, -aAppend, hab', q1, T37_eq, F56, F57, F22, h, hdS, d1, hb0, hL, hS, hF]
    refine ⟨fun hq1 => ⟨fun hq2 => ⟨fun hq3 => ⟨fun hq4 => leaf ⟨hq1, hq2, hq3, .inl hq4⟩ _, fun hq4 => ⟨fun hq5 => leaf ⟨hq1, hq2, hq3, .inr hq5⟩ _, fun hq5 => ?_⟩⟩, fun hq3 => ?_⟩, fun hq2 => ?_⟩, fun hq1 => ?_⟩
    · obtain ⟨l1, r1, e1, e2, rfl, n1, n2, n3⟩ := rec_ (fun x => x.2.2.2.elim hq4 hq5)
      obtain ⟨k, v, H', ap, hk⟩ := app26 [.box (M8 c u g0 g1 g2 g3 g4 g5), .box [.i Fd.1.1, .i Fd.1.2]] l1 r1 n1 n2 n3
      have o1 : (plH [.box (M8 c u g0 g1 g2 g3 g4 g5), .box [.i Fd.1.1, .i Fd.1.2]] l1)[0]? = some (.box (M8 c u g0 g1 g2 g3 g4 g5)) := plH_old rfl
      have ho := out26 l1 r1 n1 n2 hk
      simp [-outR, -aAppend, -placeR, e1, e2, place_list, live_list, o1, ap, ho, T37_eq]
    · obtain ⟨l1, r1, e1, e2, rfl, n1, n2, n3⟩ := rec_ (fun x => hq3 x.2.2.1)
      obtain ⟨k, v, H', ap, hk⟩ := app26 [.box (M8 c u g0 g1 g2 g3 g4 g5), .box [.i Fd.1.1, .i Fd.1.2]] l1 r1 n1 n2 n3
      have o1 : (plH [.box (M8 c u g0 g1 g2 g3 g4 g5), .box [.i Fd.1.1, .i Fd.1.2]] l1)[0]? = some (.box (M8 c u g0 g1 g2 g3 g4 g5)) := plH_old rfl
      have ho := out26 l1 r1 n1 n2 hk
      simp [-outR, -aAppend, -placeR, e1, e2, place_list, live_list, o1, ap, ho, T37_eq]
    · obtain ⟨l1, r1, e1, e2, rfl, n1, n2, n3⟩ := rec_ (fun x => hq2 x.2.1)
      obtain ⟨k, v, H', ap, hk⟩ := app26 [.box (M8 c u g0 g1 g2 g3 g4 g5), .box [.i Fd.1.1, .i Fd.1.2]] l1 r1 n1 n2 n3
      have o1 : (plH [.box (M8 c u g0 g1 g2 g3 g4 g5), .box [.i Fd.1.1, .i Fd.1.2]] l1)[0]? = some (.box (M8 c u g0 g1 g2 g3 g4 g5)) := plH_old rfl
      have ho := out26 l1 r1 n1 n2 hk
      simp [-outR, -aAppend, -placeR, e1, e2, place_list, live_list, o1, ap, ho, T37_eq]
    · obtain ⟨l1, r1, e1, e2, rfl, n1, n2, n3⟩ := rec_ (fun x => hq1 x.1)
      obtain ⟨k, v, H', ap, hk⟩ := app26 [.box (M8 c u g0 g1 g2 g3 g4 g5), .box [.i Fd.1.1, .i Fd.1.2]] l1 r1 n1 n2 n3
      have o1 : (plH [.box (M8 c u g0 g1 g2 g3 g4 g5), .box [.i Fd.1.1, .i Fd.1.2]] l1)[0]? = some (.box (M8 c u g0 g1 g2 g3 g4 g5)) := plH_old rfl
      have ho := out26 l1 r1 n1 n2 hk
      simp [-outR, -aAppend, -placeR, e1, e2, place_list, live_list, o1, ap, ho, T37_eq]

end Go.Proofs.YtooajpojikkkdaaDoor
