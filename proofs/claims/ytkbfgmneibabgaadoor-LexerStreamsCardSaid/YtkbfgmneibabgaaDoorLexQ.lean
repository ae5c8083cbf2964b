/- Plain: where the lines begin, and what they say of places. -/
import Derived.Test.YtkbfgmneibabgaaDoorLexP
set_option linter.unusedSimpArgs false
set_option linter.unusedVariables false
namespace LexP
def lns : Bs → Nat → List Int
  | [], _ => []
  | c :: r, j => if z c = 10 then ((j + 1 : Nat) : Int) :: lns r (j + 1) else lns r (j + 1)
def starts (s : Bs) : List Int := 0 :: lns s 0
theorem lns_gt : ∀ (r : Bs) (j : Nat) (x : Int), x ∈ lns r j → (j : Int) < x
  | [], j, x, h => by simp [lns] at h
  | c :: r, j, x, h => by
    simp only [lns] at h
    split at h
    · rcases List.mem_cons.1 h with h | h
      · subst h; omega
      · have := lns_gt r (j + 1) x h; omega
    · have := lns_gt r (j + 1) x h; omega
theorem lns_le : ∀ (r : Bs) (j : Nat) (x : Int), x ∈ lns r j → x ≤ ((j + r.length : Nat) : Int)
  | [], j, x, h => by simp [lns] at h
  | c :: r, j, x, h => by
    simp only [lns] at h
    simp only [List.length_cons]
    split at h
    · rcases List.mem_cons.1 h with h | h
      · subst h; omega
      · have := lns_le r (j + 1) x h; omega
    · have := lns_le r (j + 1) x h; omega
theorem starts_range (s : Bs) (i : Nat) : 0 ≤ (starts s).getD i 0 ∧ (starts s).getD i 0 ≤ s.length := by
  rw [List.getD_eq_getElem?_getD]
  cases h : (starts s)[i]? with
  | none => simp
  | some x =>
    have hx := List.mem_of_getElem? h
    simp only [Option.getD_some]
    rcases List.mem_cons.1 hx with hx | hx
    · subst hx; omega
    · have h1 := lns_gt s 0 x hx
      have h2 := lns_le s 0 x hx
      omega
theorem lns_sorted : ∀ (r : Bs) (j : Nat), (lns r j).Pairwise (· < ·)
  | [], j => by simp [lns]
  | c :: r, j => by
    simp only [lns]
    split
    · exact List.Pairwise.cons (fun x hx => by have := lns_gt r (j + 1) x hx; omega) (lns_sorted r (j + 1))
    · exact lns_sorted r (j + 1)
theorem starts_sorted (s : Bs) : (starts s).Pairwise (· < ·) := List.Pairwise.cons (fun x hx => by have := lns_gt s 0 x hx; omega) (lns_sorted s 0)
theorem lns_len : ∀ (r : Bs) (j : Nat), (lns r j).length ≤ r.length
  | [], j => by simp [lns]
  | c :: r, j => by
    have := lns_len r (j + 1)
    simp only [lns]
    split <;> simp <;> omega
theorem lns_snoc : ∀ (a : Bs) (c : UInt8) (j : Nat), lns (a ++ [c]) j = if z c = 10 then lns a j ++ [((j + a.length + 1 : Nat) : Int)] else lns a j
  | [], c, j => by simp [lns]
  | d :: a, c, j => by
    simp only [List.cons_append, lns, lns_snoc a c (j + 1), List.length_cons]
    split
    · split
      · rw [List.cons_append]; congr 3; omega
      · rfl
    · split
      · congr 3; omega
      · rfl
def nth (L : List Int) (st : Int) : Nat → Int
  | 0 => st
  | k + 1 => L.getD k 0
theorem countP_none {L : List Int} {n : Int} (h : ∀ x ∈ L, n < x) : L.countP (fun x => decide (x ≤ n)) = 0 := by
  rw [List.countP_eq_zero]
  intro x hx
  have := h x hx
  simp; omega
theorem plc_lns : ∀ (r : Bs) (j m : Nat) (l st : Int), m ≤ r.length →
    plc (r.take m) l ((j : Int) - st + 1) = (l + ((lns r j).countP (fun x => decide (x ≤ ((j + m : Nat) : Int))) : Nat), ((j + m : Nat) : Int) - nth (lns r j) st ((lns r j).countP (fun x => decide (x ≤ ((j + m : Nat) : Int)))) + 1)
  | r, j, 0, l, st, h => by
    rw [countP_none (n := ((j + 0 : Nat) : Int)) (fun x hx => by have := lns_gt r j x hx; omega)]
    simp [plc, nth]
  | [], j, m + 1, l, st, h => by simp at h
  | c :: r, j, m + 1, l, st, h => by
    simp at h
    have e : j + 1 + m = j + (m + 1) := by omega
    simp only [List.take_succ_cons, plc, lns]
    split
    · have ih := plc_lns r (j + 1) m (l + 1) ((j + 1 : Nat) : Int) h
      rw [show ((j + 1 : Nat) : Int) - ((j + 1 : Nat) : Int) + 1 = 1 by omega, e] at ih
      rw [ih]
      have hc : decide (((j + 1 : Nat) : Int) ≤ ((j + (m + 1) : Nat) : Int)) = true := by simp; omega
      rw [List.countP_cons_of_pos (by exact hc)]
      refine Prod.ext ?_ ?_
      · simp only []; omega
      · simp only [nth]
        generalize (lns r (j + 1)).countP _ = q
        cases q with
        | zero => simp [nth]
        | succ q => simp [nth]
    · have ih := plc_lns r (j + 1) m l st h
      rw [e] at ih
      rw [show (j : Int) - st + 1 + 1 = ((j + 1 : Nat) : Int) - st + 1 by omega]
      exact ih
theorem place_starts (s : Bs) (n : Nat) (h : n ≤ s.length) :
    place s n = ((((starts s).countP (fun x => decide (x ≤ (n : Int))) : Nat) : Int), (n : Int) - (starts s).getD ((starts s).countP (fun x => decide (x ≤ (n : Int))) - 1) 0 + 1) := by
  have := plc_lns s 0 n 1 0 h
  simp only [Nat.zero_add] at this
  rw [show ((0 : Nat) : Int) - 0 + 1 = 1 by omega] at this
  unfold place starts
  rw [this, List.countP_cons_of_pos (by simp)]
  generalize (lns s 0).countP _ = q
  refine Prod.ext ?_ ?_
  · simp only []; omega
  · simp only []
    cases q with
    | zero => simp [nth]
    | succ q => simp [nth]
theorem countP_split : ∀ (L : List Int) (n : Int), L.Pairwise (· < ·) → L.countP (fun x => decide (x ≤ n)) = L.countP (fun x => decide (x < n)) + (if L.contains n = true then 1 else 0)
  | [], n, h => by simp
  | x :: L, n, h => by
    obtain ⟨h1, h2⟩ := List.pairwise_cons.1 h
    have ih := countP_split L n h2
    by_cases hx : x = n
    · subst hx
      have h0 : L.countP (fun y => decide (y ≤ x)) = 0 := countP_none h1
      have h3 : L.countP (fun y => decide (y < x)) = 0 := by
        rw [List.countP_eq_zero]; intro y hy; have := h1 y hy; simp; omega
      simp [List.countP_cons, h0, h3]
    · have hc : (x :: L).contains n = L.contains n := by
        rw [List.contains_cons]
        have : (n == x) = false := by simp; exact fun e => hx e.symm
        rw [this, Bool.false_or]
      rw [hc, List.countP_cons, List.countP_cons, ih]
      by_cases hl : x < n
      · have : x ≤ n := by omega
        simp [hl, this]; omega
      · have : ¬ x ≤ n := by omega
        simp [hl, this]
/-- As the binary search answers. -/
theorem place_search (s : Bs) (n : Nat) (h : n ≤ s.length) (i : Int)
    (hi : i = if (starts s).contains (n : Int) = true then ((starts s).countP (fun x => decide (x < (n : Int))) : Int) else ((starts s).countP (fun x => decide (x < (n : Int))) : Int) - 1) :
    0 ≤ i ∧ i.toNat < (starts s).length ∧ place s n = (i + 1, (n : Int) - (starts s).getD i.toNat 0 + 1) := by
  have h1 := countP_split (starts s) n (starts_sorted s)
  have h2 := place_starts s n h
  have h3 : 1 ≤ (starts s).countP (fun x => decide (x ≤ (n : Int))) := by
    unfold starts
    rw [List.countP_cons_of_pos (by simp)]; omega
  have h4 : (starts s).countP (fun x => decide (x ≤ (n : Int))) ≤ (starts s).length := List.countP_le_length
  generalize (starts s).countP (fun x => decide (x ≤ (n : Int))) = K at *
  have hk : i = (K : Int) - 1 := by
    rw [hi, h1]
    split <;> omega
  have hn : i.toNat = K - 1 := by omega
  refine ⟨by omega, by omega, ?_⟩
  rw [h2, hn]
  refine Prod.ext ?_ rfl
  simp only []; omega
end LexP
