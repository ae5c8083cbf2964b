/- Parse reads back what Text writes: plain laws. -/
import Derived.Test.YtooajpojikkkdaaDoorParseE
set_option linter.unusedSimpArgs false
set_option linter.unusedVariables false
set_option maxRecDepth 1000000
set_option maxHeartbeats 400000
namespace Go.Proofs.YtooajpojikkkdaaDoor
open Go Go.Pm Go.RowKit
theorem atoi_d100 : ∀ n : Nat, n < 100 → atoiN (d100 n) = (n : Int) := by decide +kernel
theorem d100_no : ∀ n : Nat, n < 100 → 43 ∉ d100 n ∧ 47 ∉ d100 n := by decide +kernel
theorem idx_hit (c : UInt8) : ∀ (x y : List UInt8), c ∉ x → Lib.index (x ++ c :: y) [c] = (x.length : Nat)
  | [], y, _ => by simp [Lib.index]
  | b :: x, y, h => by
    have h1 : ¬ c = b := fun e => h (by simp [e])
    have h2 : c ∉ x := fun e => h (by simp [e])
    have := idx_hit c x y h2
    have hne : ¬ (((x.length : Nat) : Int) == -1) = true := by simp
    rw [List.cons_append, Lib.index, this]
    simp [h1]
theorem idx_miss (c : UInt8) : ∀ (x : List UInt8), c ∉ x → Lib.index x [c] = -1
  | [], _ => by simp [Lib.index]
  | b :: x, h => by
    have h1 : ¬ c = b := fun e => h (by simp [e])
    have := idx_miss c x fun e => h (by simp [e])
    rw [Lib.index, this]
    simp [h1]
theorem cut_at (x y : List UInt8) (h : 47 ∉ x) : Lib.cut (x ++ 47 :: y) [47] = (x, y, true) := by
  unfold Lib.cut
  rw [idx_hit 47 x y h, if_pos (by omega)]
  simp
theorem join_two (a b : List UInt8) (r : List (List UInt8)) : Lib.join (a :: b :: r) [43] = a ++ 43 :: Lib.join (b :: r) [43] := by
  cases r <;> simp [Lib.join, List.intercalate]
theorem count_join : ∀ (l : List (List UInt8)) (f : Nat), l ≠ [] → (∀ p ∈ l, 43 ∉ p) → l.length ≤ f → Lib.countFrom [43] f (Lib.join l [43]) + 1 = l.length
  | [], _, h, _, _ => absurd rfl h
  | [a], f, _, h, hf => by
    obtain ⟨f', rfl⟩ : ∃ f', f = f' + 1 := ⟨f - 1, by simp at hf; omega⟩
    rw [Lib.join_one, Lib.countFrom, idx_miss 43 a (h a (by simp))]
    simp
  | a :: b :: r, f, _, h, hf => by
    obtain ⟨f', rfl⟩ : ∃ f', f = f' + 1 := ⟨f - 1, by simp at hf; omega⟩
    have ih := count_join (b :: r) f' (by simp) (fun p hp => h p (by simp [hp])) (by simp at hf ⊢; omega)
    rw [join_two, Lib.countFrom, idx_hit 43 a _ (h a (by simp))]
    have hne : ¬ (((a.length : Nat) : Int) == -1) = true := by simp
    rw [if_neg hne]
    have e : (a ++ 43 :: Lib.join (b :: r) [43]).drop ((((a.length : Nat) : Int)).toNat + [(43 : UInt8)].length) = Lib.join (b :: r) [43] := by
      rw [Int.toNat_natCast, show a ++ 43 :: Lib.join (b :: r) [43] = (a ++ [43]) ++ Lib.join (b :: r) [43] by simp, List.drop_append_of_le_length (by simp)]
      simp
    rw [e]
    simp only [List.length_cons] at ih ⊢
    omega
theorem split_pieces : ∀ (l : List (List UInt8)) (k : Nat), l ≠ [] → (∀ p ∈ l, 43 ∉ p) → k + 1 = l.length → Lib.splitK [43] 0 k (Lib.join l [43]) = l
  | [], _, h, _, _ => absurd rfl h
  | [a], k, _, _, hk => by
    have : k = 0 := by simp at hk; omega
    subst this
    rw [Lib.join_one]; rfl
  | a :: b :: r, k, _, h, hk => by
    obtain ⟨k', rfl⟩ : ∃ k', k = k' + 1 := ⟨k - 1, by simp at hk; omega⟩
    have ih := split_pieces (b :: r) k' (by simp) (fun p hp => h p (by simp [hp])) (by simp at hk ⊢; omega)
    rw [join_two, Lib.splitK, idx_hit 43 a _ (h a (by simp))]
    have hne : ¬ (((a.length : Nat) : Int) == -1) = true := by simp
    rw [if_neg hne]
    have e : (a ++ 43 :: Lib.join (b :: r) [43]).drop ((((a.length : Nat) : Int)).toNat + [(43 : UInt8)].length) = Lib.join (b :: r) [43] := by
      rw [Int.toNat_natCast, show a ++ 43 :: Lib.join (b :: r) [43] = (a ++ [43]) ++ Lib.join (b :: r) [43] by simp, List.drop_append_of_le_length (by simp)]
      simp
    rw [e, ih]
    simp
theorem join_long : ∀ (l : List (List UInt8)), l.length ≤ (Lib.join l [43]).length + 1
  | [] => by simp
  | [a] => by simp
  | a :: b :: r => by
    have := join_long (b :: r)
    rw [join_two]
    simp only [List.length_cons, List.length_append] at this ⊢
    omega
theorem split_join (l : List (List UInt8)) (h0 : l ≠ []) (h : ∀ p ∈ l, 43 ∉ p) : Lib.split (Lib.join l [43]) [43] = l := by
  unfold Lib.split
  have := count_join l ((Lib.join l [43]).length + 1) h0 h (join_long l)
  exact split_pieces l _ h0 h this
/-- Numbers laid one behind the other. -/
def setG : Nat → List Int → List Int → List Int
  | _, [], gl => gl
  | k, g :: r, gl => setG (k + 1) r (gl.set k g)
abbrev digs (l : List Int) : List (List UInt8) := l.map fun g => d100 g.toNat
theorem run_map (k : Bool) : ∀ (l : List Int) (m : Nat) (s : Int) (gl : List Int), (∀ g ∈ l, 1 ≤ g ∧ g ≤ 64) → runP k (digs l) m s gl = some (s + l.sum, if k then setG m l gl else gl)
  | [], m, s, gl, _ => by simp [runP, setG]
  | g :: r, m, s, gl, h => by
    have hg := h g (by simp)
    have e : atoiN (d100 g.toNat) = g := by rw [atoi_d100 _ (by omega)]; omega
    have := run_map k r (m + 1) (s + g) (if k then gl.set m g else gl) fun x hx => h x (by simp [hx])
    simp only [List.map_cons, runP, e]
    rw [if_neg (by omega), this, List.sum_cons, Int.add_assoc]
    cases k <;> simp [setG]
theorem digit_all : ∀ n : Nat, n < 10 → (UInt8.ofNat (48 + n)).toNat = 48 + n := by decide
theorem digit_toNat {n : Nat} (h : n < 10) : (UInt8.ofNat (48 + n)).toNat = 48 + n := digit_all n h
theorem num_d100 {n : Nat} (h : n < 100) (t : List UInt8) (ht : ∀ b r, t = b :: r → ¬ (48 ≤ b.toNat ∧ b.toNat ≤ 57)) : numR (d100 n ++ t) = ((n : Int), (d100 n).length) := by
  have stop : ∀ (r : Nat) (x : Int) (k : Nat), numF (r + 1) t x k = (x, k) := fun r x k => by
    cases t with
    | nil => rfl
    | cons b r' => rw [numF, if_neg (ht b r' rfl)]
  unfold numR d100
  by_cases h1 : n < 10
  · rw [if_pos h1, List.singleton_append, numF, digit_toNat h1, if_pos (by omega), stop]
    simp; omega
  · rw [if_neg h1]
    have d1 : n / 10 < 10 := by omega
    have d2 : n % 10 < 10 := by omega
    rw [List.cons_append, List.singleton_append, numF, digit_toNat d1, if_pos (by omega), numF, digit_toNat d2, if_pos (by omega), stop]
    simp; omega
theorem scan_join : ∀ (l : List Int) (r k : Nat) (sum : Int) (gl : List Int) (y : List UInt8), l ≠ [] → (∀ g ∈ l, 1 ≤ g ∧ g ≤ 64) → l.length ≤ r →
    scanR r (Lib.join (digs l) [43] ++ 47 :: y) k sum gl = some (y, k + l.length, sum + l.sum, setG k l gl)
  | [], _, _, _, _, _, h, _, _ => absurd rfl h
  | [g], r, k, sum, gl, y, _, h, hr => by
    obtain ⟨r', rfl⟩ : ∃ r', r = r' + 1 := ⟨r - 1, by simp at hr; omega⟩
    have hg := h g (by simp)
    have dl := d100_len g.toNat
    have hn := num_d100 (n := g.toNat) (by omega) (47 :: y) fun b r e => by cases e; decide
    simp only [List.map_cons, List.map_nil, Lib.join_one, scanR]
    rw [hn]
    generalize d100 g.toNat = d at *
    rw [if_neg (by simp only [List.length_append, List.length_cons]; omega)]
    have e1 : (d ++ 47 :: y)[d.length]? = some 47 := by simp
    have e2 : (d ++ 47 :: y).drop (d.length + 1) = y := by rw [show d ++ 47 :: y = (d ++ [47]) ++ y by simp, List.drop_append_of_le_length (by simp)]; simp
    simp only [e1, e2, if_true]
    rw [show ((g.toNat : Nat) : Int) = g by omega]
    simp [setG]
  | g :: g' :: r0, r, k, sum, gl, y, _, h, hr => by
    obtain ⟨r', rfl⟩ : ∃ r', r = r' + 1 := ⟨r - 1, by simp at hr; omega⟩
    have hg := h g (by simp)
    have dl := d100_len g.toNat
    have ih := scan_join (g' :: r0) r' (k + 1) (sum + g) (gl.set k g) y (by simp) (fun x hx => h x (by simp [hx])) (by simp at hr ⊢; omega)
    simp only [List.map_cons] at ih ⊢
    rw [join_two]
    generalize Lib.join (d100 g'.toNat :: r0.map fun g => d100 g.toNat) [43] = J at *
    have hn := num_d100 (n := g.toNat) (by omega) (43 :: J ++ 47 :: y) fun b r e => by cases e; decide
    rw [scanR, show (d100 g.toNat ++ 43 :: J) ++ 47 :: y = d100 g.toNat ++ (43 :: J ++ 47 :: y) by simp, hn]
    generalize d100 g.toNat = d at *
    rw [if_neg (by simp only [List.length_append, List.length_cons]; omega)]
    have e1 : (d ++ (43 :: J ++ 47 :: y))[d.length]? = some 43 := by simp
    have e2 : (d ++ (43 :: J ++ 47 :: y)).drop (d.length + 1) = J ++ 47 :: y := by rw [show d ++ (43 :: J ++ 47 :: y) = (d ++ [43]) ++ (J ++ 47 :: y) by simp, List.drop_append_of_le_length (by simp)]; simp
    simp only [e1, e2, if_true]
    rw [if_neg (by decide), show ((g.toNat : Nat) : Int) = g by omega, ih]
    simp only [setG, List.length_cons, List.sum_cons]
    rw [Int.add_assoc, show k + 1 + (r0.length + 1) = k + (r0.length + 1 + 1) by omega]
/-- The numbers that a text holds. -/
theorem text_shape {c u g0 g1 g2 g3 g4 g5 : Int} (h : okM c u [g0, g1, g2, g3, g4, g5]) : ∃ l : List Int, l ≠ [] ∧ l.length ≤ 6 ∧ (∀ g ∈ l, 1 ≤ g ∧ g ≤ 64) ∧ l.sum = c ∧ textZ c u [g0, g1, g2, g3, g4, g5] = Lib.join (digs l) [43] ++ 47 :: d100 u.toNat ∧
    (if decide (1 < l.length) then setG 0 l [0, 0, 0, 0, 0, 0] else [0, 0, 0, 0, 0, 0]) = [g0, g1, g2, g3, g4, g5] ∧ (if l.length = 1 then (setG 0 l [0, 0, 0, 0, 0, 0]).set 0 0 else setG 0 l [0, 0, 0, 0, 0, 0]) = [g0, g1, g2, g3, g4, g5] := by
  have hc := h.1
  unfold textZ
  by_cases hz : g0 = 0
  · have hz' : [g0, g1, g2, g3, g4, g5] = [0, 0, 0, 0, 0, 0] := by
      rcases grp_first h.2.2 with e | e
      · exact e
      · omega
    rw [hz']
    refine ⟨[c], by simp, by simp, by simp; omega, by simp, by simp [txs], by simp, by simp [setG]⟩
  · obtain ⟨n, hn, hp, hzz, hg⟩ := grp_shape h rfl (by simpa using hz)
    obtain ⟨f1, f2, _, _⟩ := grpL_facts h rfl
    rw [hg] at f1 f2
    refine ⟨[g0, g1, g2, g3, g4, g5].take n, by rcases (by omega : n = 2 ∨ n = 3 ∨ n = 4 ∨ n = 5 ∨ n = 6) with rfl | rfl | rfl | rfl | rfl <;> simp, by simp; omega, f1, f2, ?_⟩
    rcases (by omega : n = 2 ∨ n = 3 ∨ n = 4 ∨ n = 5 ∨ n = 6) with rfl | rfl | rfl | rfl | rfl
    · have z2 := hzz 2 (by omega); have z3 := hzz 3 (by omega); have z4 := hzz 4 (by omega); have z5 := hzz 5 (by omega)
      simp at z2 z3 z4 z5 f1
      subst z2 z3 z4 z5
      have p0 : 0 < g0 := by omega
      have p1 : 0 < g1 := by omega
      simp [txs, p0, p1, setG]
    · have z3 := hzz 3 (by omega); have z4 := hzz 4 (by omega); have z5 := hzz 5 (by omega)
      simp at z3 z4 z5 f1
      subst z3 z4 z5
      have p0 : 0 < g0 := by omega
      have p1 : 0 < g1 := by omega
      have p2 : 0 < g2 := by omega
      simp [txs, p0, p1, p2, setG]
    · have z4 := hzz 4 (by omega); have z5 := hzz 5 (by omega)
      simp at z4 z5 f1
      subst z4 z5
      have p0 : 0 < g0 := by omega
      have p1 : 0 < g1 := by omega
      have p2 : 0 < g2 := by omega
      have p3 : 0 < g3 := by omega
      simp [txs, p0, p1, p2, p3, setG]
    · have z5 := hzz 5 (by omega)
      simp at z5 f1
      subst z5
      have p0 : 0 < g0 := by omega
      have p1 : 0 < g1 := by omega
      have p2 : 0 < g2 := by omega
      have p3 : 0 < g3 := by omega
      have p4 : 0 < g4 := by omega
      simp [txs, p0, p1, p2, p3, p4, setG]
    · simp at f1
      have p0 : 0 < g0 := by omega
      have p1 : 0 < g1 := by omega
      have p2 : 0 < g2 := by omega
      have p3 : 0 < g3 := by omega
      have p4 : 0 < g4 := by omega
      have p5 : 0 < g5 := by omega
      simp [txs, p0, p1, p2, p3, p4, p5, setG]
theorem text_len {c u g0 g1 g2 g3 g4 g5 : Int} : (textZ c u [g0, g1, g2, g3, g4, g5]).length ≤ 32 := by
  unfold textZ
  obtain ⟨t1, t2⟩ := txs_facts [g0, g1, g2, g3, g4, g5]
  simp only [List.length_cons, List.length_nil] at t1
  have du := d100_len u.toNat
  have dc := d100_len c.toNat
  have hj : (Lib.join (if txs [g0, g1, g2, g3, g4, g5] = [] then [d100 c.toNat] else txs [g0, g1, g2, g3, g4, g5]) [43]).length ≤ 20 := by
    split
    · exact join_small _ (by simp) (by simp [Lib.lens]; omega)
    · exact join_small _ (by omega) (by omega)
  simp only [List.length_append, List.length_cons, List.length_nil]
  omega
theorem join_no (l : List Int) (h : ∀ g ∈ l, 1 ≤ g ∧ g ≤ 64) : 47 ∉ Lib.join (digs l) [43] := by
  induction l with
  | nil => simp [Lib.join, List.intercalate]
  | cons g r ih =>
    have hg := (d100_no g.toNat (by have := h g (by simp); omega)).2
    have ih' := ih fun x hx => h x (by simp [hx])
    cases r with
    | nil => simpa [Lib.join_one] using hg
    | cons g' r =>
      simp only [List.map_cons] at ih' ⊢
      rw [join_two]
      simp only [List.mem_append, List.mem_cons, not_or]
      exact ⟨hg, by decide, ih'⟩
/-- Parse reads back what Text writes. -/
theorem parse_text {c u g0 g1 g2 g3 g4 g5 : Int} (h : okM c u [g0, g1, g2, g3, g4, g5]) : parseR (textZ c u [g0, g1, g2, g3, g4, g5]) = ((c, u, [g0, g1, g2, g3, g4, g5]), 0) := by
  obtain ⟨l, l0, l6, l1, ls, lt, lg, _⟩ := text_shape h
  have hu : 0 ≤ u ∧ u < 100 := by rcases uOk_cases h.2.1 with rfl | rfl | rfl | rfl | rfl | rfl | rfl <;> decide
  have hcut := cut_at (Lib.join (digs l) [43]) (d100 u.toNat) (join_no l l1)
  rw [← lt] at hcut
  have e1 : headP (textZ c u [g0, g1, g2, g3, g4, g5]) = digs l := by
    unfold headP
    rw [hcut]
    refine split_join _ (by simpa using l0) fun p hp => ?_
    obtain ⟨g, hg, rfl⟩ := List.mem_map.1 hp
    exact (d100_no g.toNat (by have := l1 g hg; omega)).1
  have e2 : atoiN (tailP (textZ c u [g0, g1, g2, g3, g4, g5])) = u := by
    unfold tailP
    rw [hcut, atoi_d100 _ (by omega)]; omega
  unfold parseR
  rw [if_neg (by have := text_len (c := c) (u := u) (g0 := g0) (g1 := g1) (g2 := g2) (g3 := g3) (g4 := g4) (g5 := g5); omega), e1, e2, if_neg (by simp; omega), run_map _ l 0 0 _ l1]
  simp only [List.length_map]
  rw [lg, ls, Int.zero_add, if_pos ⟨okM_chk.1 h, rfl⟩]
theorem parseF_text {c u g0 g1 g2 g3 g4 g5 : Int} (h : okM c u [g0, g1, g2, g3, g4, g5]) : parseF (textZ c u [g0, g1, g2, g3, g4, g5]) = ((c, u, [g0, g1, g2, g3, g4, g5]), 0) := by
  obtain ⟨l, l0, l6, l1, ls, lt, _, lg⟩ := text_shape h
  have hu : 0 ≤ u ∧ u < 100 := by rcases uOk_cases h.2.1 with rfl | rfl | rfl | rfl | rfl | rfl | rfl <;> decide
  have hsc := scan_join l 6 0 0 [0, 0, 0, 0, 0, 0] (d100 u.toNat) l0 l1 l6
  rw [← lt] at hsc
  have e2 : (numR (d100 u.toNat)).1 = u := by
    have := num_d100 (n := u.toNat) (by omega) [] fun b r e => by cases e
    rw [List.append_nil] at this
    rw [this]
    simp only []; omega
  unfold parseF
  rw [if_neg (by have := text_len (c := c) (u := u) (g0 := g0) (g1 := g1) (g2 := g2) (g3 := g3) (g4 := g4) (g5 := g5); omega), hsc]
  simp only [Nat.zero_add, Int.zero_add]
  rw [lg, ls, e2, if_pos ⟨okM_chk.1 h, rfl⟩]
end Go.Proofs.YtooajpojikkkdaaDoor
