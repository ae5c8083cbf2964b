/- Durations in plain Lean: the note values, their sizes, the fewest values for a size, and the canonical list. -/
import Derived.Test.YtngapiffgoignaaDoorPmX
set_option linter.unusedSimpArgs false
set_option linter.unusedVariables false
set_option maxRecDepth 1000000
namespace Go.Proofs.YtngapiffgoignaaDoor
/-- The i-th longest note value, and its size in units. -/
def AV (i : Nat) : Int × Int := (((i / 4 : Nat) : Int) - 1, 3 - ((i % 4 : Nat) : Int))
def SZ : List Nat := [7680, 7168, 6144, 4096, 3840, 3584, 3072, 2048, 1920, 1792, 1536, 1024, 960, 896, 768, 512, 480, 448, 384, 256, 240, 224, 192, 128, 120, 112, 96, 64, 60, 56, 48, 32, 30, 28, 24, 16, 15, 14, 12, 8]
def sz (i : Nat) : Nat := SZ.getD i 1
theorem SZ_len : SZ.length = 40 := rfl
theorem SZ_get {i : Nat} (h : i < 40) : SZ[i]? = some (sz i) := by
  unfold sz
  rw [List.getD_eq_getElem?_getD, List.getElem?_eq_getElem (by rw [SZ_len]; exact h)]; rfl
theorem sz_pos (i : Nat) : 0 < sz i := by
  by_cases h : i < 40
  · have : ∀ j < 40, 0 < sz j := by decide
    exact this i h
  · unfold sz; rw [List.getD_eq_getElem?_getD, List.getElem?_eq_none (by rw [SZ_len]; omega)]; decide
theorem sz_le (i : Nat) : sz i ≤ 7680 := by
  by_cases h : i < 40
  · have : ∀ j < 40, sz j ≤ 7680 := by decide
    exact this i h
  · unfold sz; rw [List.getD_eq_getElem?_getD, List.getElem?_eq_none (by rw [SZ_len]; omega)]; decide
theorem sz_anti : ∀ i < 40, ∀ j < i, sz i < sz j := by decide
theorem sz_inj {i j : Nat} (hi : i < 40) (hj : j < 40) (h : sz i = sz j) : i = j := by
  rcases Nat.lt_trichotomy i j with h1 | h1 | h1
  · have := sz_anti j hj i h1; omega
  · exact h1
  · have := sz_anti i hi j h1; omega
/-- One size tried. -/
def stepB (f : Nat → Int) (k : Nat) (best : Int) (i : Nat) : Int :=
  if sz i ≤ k ∧ 0 ≤ f (k - sz i) ∧ (best < 0 ∨ f (k - sz i) + 1 < best) then f (k - sz i) + 1 else best
/-- The first m sizes tried. -/
def bestB (f : Nat → Int) (k : Nat) : Nat → Int
  | 0 => -1
  | m + 1 => stepB f k (bestB f k m) m
def fwt : Nat → List Int
  | 0 => [0]
  | n + 1 => fwt n ++ [bestB (fun j => (fwt n).getD j (-1)) (n + 1) 40]
def fw (n : Nat) : Int := (fwt n).getD n (-1)
theorem fwt_len : ∀ n, (fwt n).length = n + 1
  | 0 => rfl
  | n + 1 => by simp [fwt, fwt_len n]
theorem fwt_get {i : Nat} : ∀ {n : Nat}, i ≤ n → (fwt n)[i]? = some (fw i)
  | 0, h => by
    have : i = 0 := by omega
    subst this; rfl
  | n + 1, h => by
    by_cases h1 : i = n + 1
    · subst h1
      unfold fw
      rw [List.getD_eq_getElem?_getD, List.getElem?_eq_getElem (by rw [fwt_len]; omega)]; rfl
    · simp only [fwt]
      rw [List.getElem?_append_left (by rw [fwt_len]; omega)]
      exact fwt_get (by omega)
theorem fwt_getD {i n : Nat} (h : i ≤ n) : (fwt n).getD i (-1) = fw i := by
  rw [List.getD_eq_getElem?_getD, fwt_get h]; rfl
theorem bestB_congr {f g : Nat → Int} {k : Nat} (h : ∀ j < k, f j = g j) : ∀ m, bestB f k m = bestB g k m
  | 0 => rfl
  | m + 1 => by
    simp only [bestB, bestB_congr h m, stepB]
    by_cases h1 : sz m ≤ k
    · have := sz_pos m
      rw [h (k - sz m) (by omega)]
    · simp [h1]
theorem fw_zero : fw 0 = 0 := rfl
theorem fw_succ (n : Nat) : fw (n + 1) = bestB fw (n + 1) 40 := by
  have : fw (n + 1) = bestB (fun j => (fwt n).getD j (-1)) (n + 1) 40 := by
    unfold fw
    simp only [fwt]
    rw [List.getD_eq_getElem?_getD, List.getElem?_append_right (by rw [fwt_len]; omega), fwt_len]
    simp
  rw [this]
  exact bestB_congr (fun j hj => fwt_getD (by omega)) 40
theorem fw_pos {n : Nat} (h : 0 < n) : fw n = bestB fw n 40 := by
  obtain ⟨m, rfl⟩ : ∃ m, n = m + 1 := ⟨n - 1, by omega⟩
  exact fw_succ m
theorem bestB_le {f : Nat → Int} {k : Nat} : ∀ m, ∀ i < m, sz i ≤ k → 0 ≤ f (k - sz i) → 0 ≤ bestB f k m ∧ bestB f k m ≤ f (k - sz i) + 1
  | m + 1, i, hi, h1, h2 => by
    by_cases he : i = m
    · subst he
      simp only [bestB, stepB]
      by_cases hb : bestB f k i < 0 ∨ f (k - sz i) + 1 < bestB f k i
      · rw [if_pos ⟨h1, h2, hb⟩]; omega
      · rw [if_neg (fun h => hb h.2.2)]; omega
    · obtain ⟨q1, q2⟩ := bestB_le m i (by omega) h1 h2
      simp only [bestB, stepB]
      split
      · rename_i hc
        omega
      · exact ⟨q1, q2⟩
theorem bestB_ex {f : Nat → Int} {k : Nat} : ∀ m, bestB f k m = -1 ∨ ∃ i < m, sz i ≤ k ∧ 0 ≤ f (k - sz i) ∧ bestB f k m = f (k - sz i) + 1
  | 0 => .inl rfl
  | m + 1 => by
    simp only [bestB, stepB]
    split
    · rename_i hc
      exact .inr ⟨m, by omega, hc.1, hc.2.1, rfl⟩
    · rcases bestB_ex m with h | ⟨i, hi, h1, h2, h3⟩
      · exact .inl h
      · exact .inr ⟨i, by omega, h1, h2, h3⟩
theorem bestB_ge {f : Nat → Int} {k : Nat} (m : Nat) : -1 ≤ bestB f k m := by
  rcases bestB_ex (f := f) (k := k) m with h | ⟨i, _, _, h2, h3⟩ <;> omega
theorem fw_ge (n : Nat) : -1 ≤ fw n := by
  by_cases h : n = 0
  · subst h; decide
  · rw [fw_pos (by omega)]; exact bestB_ge _
theorem fw_le {n i : Nat} (hi : i < 40) (h1 : sz i ≤ n) (h2 : 0 ≤ fw (n - sz i)) : 0 ≤ fw n ∧ fw n ≤ fw (n - sz i) + 1 := by
  have := sz_pos i
  rw [fw_pos (show 0 < n by omega)]
  exact bestB_le 40 i hi h1 h2
theorem fw_ex {n : Nat} (hn : 0 < n) (h : 0 ≤ fw n) : ∃ i < 40, sz i ≤ n ∧ 0 ≤ fw (n - sz i) ∧ fw n = fw (n - sz i) + 1 := by
  rw [fw_pos hn] at h ⊢
  rcases bestB_ex (f := fw) (k := n) 40 with h1 | h1
  · omega
  · exact h1
theorem fw_up (n : Nat) : fw n ≤ n := by
  induction n using Nat.strongRecOn with
  | _ n ih =>
    by_cases h0 : n = 0
    · subst h0; decide
    · by_cases h : 0 ≤ fw n
      · obtain ⟨i, _, h1, _, h3⟩ := fw_ex (by omega) h
        have := sz_pos i
        have := ih (n - sz i) (by omega)
        omega
      · omega
theorem fw_zero_iff {n : Nat} : fw n = 0 ↔ n = 0 := by
  constructor
  · intro h
    by_cases h0 : n = 0
    · exact h0
    · obtain ⟨i, _, _, h2, h3⟩ := fw_ex (n := n) (by omega) (by omega)
      omega
  · rintro rfl; rfl
/-- A size is tried in the choice of the canonical list. -/
def fits (n i : Nat) : Bool := decide (sz i ≤ n) && decide (fw (n - sz i) = fw n - 1)
/-- The first size that fits. -/
def first (n : Nat) : Nat := ((List.range 40).find? (fits n)).getD 40
theorem first_spec {n : Nat} (hn : 0 < n) (h : 0 ≤ fw n) : first n < 40 ∧ fits n (first n) = true ∧ ∀ j < first n, fits n j = false := by
  obtain ⟨i, hi, h1, h2, h3⟩ := fw_ex hn h
  have hf : fits n i = true := by unfold fits; simp; omega
  unfold first
  cases hx : (List.range 40).find? (fits n) with
  | none =>
    rw [List.find?_eq_none] at hx
    exact absurd hf (by simpa using hx i (by simpa using hi))
  | some j =>
    rw [List.find?_range_eq_some] at hx
    obtain ⟨q1, q2, q3⟩ := hx
    simp only [Option.getD_some]
    refine ⟨by simpa using q2, q1, fun k hk => ?_⟩
    have := q3 k hk
    simpa using this
theorem fits_iff {n i : Nat} : fits n i = true ↔ sz i ≤ n ∧ fw (n - sz i) = fw n - 1 := by unfold fits; simp
/-- The canonical list, at its length. -/
def picks : Nat → Nat → List Nat
  | 0, _ => []
  | m + 1, n => first n :: picks m (n - sz (first n))
def canon (n : Nat) : List Nat := picks (fw n).toNat n
theorem picks_len : ∀ m n, (picks m n).length = m
  | 0, _ => rfl
  | m + 1, n => by simp [picks, picks_len m]
theorem canon_len {n : Nat} (h : 0 ≤ fw n) : ((canon n).length : Int) = fw n := by
  unfold canon; rw [picks_len]; omega
theorem canon_step {n : Nat} (hn : 0 < n) (h : 0 ≤ fw n) : canon n = first n :: canon (n - sz (first n)) := by
  obtain ⟨h1, h2, h3⟩ := first_spec hn h
  obtain ⟨h4, h5⟩ := fits_iff.1 h2
  have h6 : fw n ≠ 0 := fun e => by have := fw_zero_iff.1 e; omega
  unfold canon
  obtain ⟨m, hm⟩ : ∃ m : Nat, fw n = (m : Int) + 1 := ⟨(fw n - 1).toNat, by omega⟩
  rw [show (fw n).toNat = m + 1 by omega, show (fw (n - sz (first n))).toNat = m by omega]
  rfl
theorem canon_zero : canon 0 = [] := rfl
/-- What the reference does: it never goes back in the list. -/
theorem first_mono {n : Nat} (hn : 0 < n) (h : 0 ≤ fw n) {j : Nat} (hj : j < 40) (hnf : fits n j = false) {i : Nat} (hi : fits n i = true) (hi4 : i < 40) : fits (n - sz i) j = false := by
  cases hx : fits (n - sz i) j with
  | false => rfl
  | true =>
    obtain ⟨a1, a2⟩ := fits_iff.1 hx
    obtain ⟨b1, b2⟩ := fits_iff.1 hi
    have hn0 : fw n ≠ 0 := fun e => by have := fw_zero_iff.1 e; omega
    have hp : n - sz i ≠ 0 := by have := sz_pos j; omega
    have hq : fw (n - sz i) ≠ 0 := fun e => hp (fw_zero_iff.1 e)
    have c0 : 0 ≤ fw (n - sz i - sz j) := by omega
    have e1 : n - sz i - sz j = n - sz j - sz i := by omega
    rw [e1] at c0 a2
    obtain ⟨d1, d2⟩ := fw_le (n := n - sz j) hi4 (by omega) c0
    obtain ⟨d3, d4⟩ := fw_le (n := n) hj (by omega) d1
    have : fits n j = true := fits_iff.2 ⟨by omega, by omega⟩
    rw [this] at hnf; cases hnf
/-- The reference's scan: from the i-th value on. -/
def scanR : Nat → Nat → Nat → List Nat
  | 0, _, _ => []
  | fuel + 1, n, i => if 0 < n ∧ i < 40 then (if fits n i then i :: scanR fuel (n - sz i) i else scanR fuel n (i + 1)) else []
theorem scanR_eq : ∀ (fuel n i : Nat), 0 ≤ fw n → (∀ j < i, fits n j = false) → (fw n).toNat + (40 - i) ≤ fuel → i ≤ 40 → scanR fuel n i = canon n
  | fuel, n, i, h, hno, hfu, hi40 => by
    by_cases hn : n = 0
    · subst hn
      rw [canon_zero]
      cases fuel <;> simp [scanR]
    · obtain ⟨h1, h2, h3⟩ := first_spec (by omega) h
      have hif : i ≤ first n := by
        rcases Nat.lt_or_ge (first n) i with q | q
        · rw [hno _ q] at h2; cases h2
        · exact q
      cases fuel with
      | zero => omega
      | succ fuel =>
        rw [scanR, if_pos ⟨by omega, by omega⟩]
        by_cases hf : fits n i = true
        · have he : i = first n := by
            rcases Nat.lt_or_ge i (first n) with q | q
            · rw [h3 i q] at hf; cases hf
            · omega
          rw [if_pos hf]
          obtain ⟨q1, q2⟩ := fits_iff.1 hf
          have hn0 : fw n ≠ 0 := fun e => hn (fw_zero_iff.1 e)
          rw [scanR_eq fuel (n - sz i) i (by omega) (fun j hj => first_mono (by omega) h (by omega) (hno j hj) hf (by omega)) (by omega) (by omega), canon_step (by omega) h, ← he]
        · rw [if_neg hf]
          have hf' : fits n i = false := by simpa using hf
          refine scanR_eq fuel n (i + 1) h (fun j hj => ?_) ?_ ?_
          · rcases Nat.lt_or_ge j i with q | q
            · exact hno j q
            · have : j = i := by omega
              rw [this]; exact hf'
          · have : i ≠ first n := fun e => by rw [e, h2] at hf'; cases hf'
            omega
          · have : i ≠ first n := fun e => by rw [e, h2] at hf'; cases hf'
            omega
/-- The canonical list has the sum. -/
theorem canon_sum : ∀ n, 0 ≤ fw n → ((canon n).map sz).sum = n := by
  intro n
  induction n using Nat.strongRecOn with
  | _ n ih =>
    intro h
    by_cases hn : n = 0
    · subst hn; rfl
    · obtain ⟨h1, h2, h3⟩ := first_spec (by omega) h
      obtain ⟨q1, q2⟩ := fits_iff.1 h2
      have hn0 : fw n ≠ 0 := fun e => hn (fw_zero_iff.1 e)
      have := sz_pos (first n)
      rw [canon_step (by omega) h, List.map_cons, List.sum_cons, ih _ (by omega) (by omega)]
      omega
theorem canon_lt : ∀ n, 0 ≤ fw n → ∀ i ∈ canon n, i < 40 := by
  intro n
  induction n using Nat.strongRecOn with
  | _ n ih =>
    intro h i hi
    by_cases hn : n = 0
    · subst hn; cases hi
    · obtain ⟨h1, h2, h3⟩ := first_spec (by omega) h
      obtain ⟨q1, q2⟩ := fits_iff.1 h2
      have hn0 : fw n ≠ 0 := fun e => hn (fw_zero_iff.1 e)
      have := sz_pos (first n)
      rw [canon_step (by omega) h] at hi
      rcases List.mem_cons.1 hi with rfl | hi
      · exact h1
      · exact ih _ (by omega) (by omega) i hi
/-- Fewest. -/
theorem fw_sum : ∀ (l : List Nat), (∀ i ∈ l, i < 40) → 0 ≤ fw ((l.map sz).sum) ∧ fw ((l.map sz).sum) ≤ (l.length : Int)
  | [], _ => by decide
  | i :: l, h => by
    obtain ⟨h1, h2⟩ := fw_sum l (fun j hj => h j (List.mem_cons_of_mem _ hj))
    have := fw_le (n := sz i + (l.map sz).sum) (h i (List.mem_cons_self ..)) (by omega) (by rw [Nat.add_sub_cancel_left]; exact h1)
    rw [Nat.add_sub_cancel_left] at this
    simp only [List.map_cons, List.sum_cons, List.length_cons]
    omega
theorem canon_one {i : Nat} (hi : i < 40) : canon (sz i) = [i] := by
  have h0 := sz_pos i
  obtain ⟨h1, h2⟩ := fw_sum [i] (by simpa using hi)
  simp only [List.map_cons, List.map_nil, List.sum_cons, List.sum_nil, Nat.add_zero, List.length_cons, List.length_nil] at h1 h2
  have hn0 : fw (sz i) ≠ 0 := fun e => by have := fw_zero_iff.1 e; omega
  have hw : fw (sz i) = 1 := by omega
  obtain ⟨f1, f2, f3⟩ := first_spec h0 h1
  obtain ⟨q1, q2⟩ := fits_iff.1 f2
  have hz : fw (sz i - sz (first (sz i))) = 0 := by omega
  have hs := fw_zero_iff.1 hz
  have he : first (sz i) = i := sz_inj f1 hi (by omega)
  rw [canon_step h0 h1, he, Nat.sub_self, canon_zero]
theorem fw2560 : fw 2560 = 2 := by
  obtain ⟨h1, h2⟩ := fw_sum [7, 15] (by decide)
  have e : (([7, 15] : List Nat).map sz).sum = 2560 := by decide
  rw [e] at h1 h2
  simp only [List.length_cons, List.length_nil] at h2
  obtain ⟨i, hi, q1, q2, q3⟩ := fw_ex (n := 2560) (by decide) h1
  have hn : fw (2560 - sz i) ≠ 0 := fun e => by
    have h3 := fw_zero_iff.1 e
    have : ∀ j < 40, sz j ≤ 2560 → 2560 - sz j = 0 → False := by decide
    exact this i hi q1 h3
  omega
theorem canon2560 : canon 2560 = [7, 15] := by
  have h1 : 0 ≤ fw 2560 := by rw [fw2560]; decide
  obtain ⟨f1, f2, f3⟩ := first_spec (n := 2560) (by decide) h1
  obtain ⟨q1, q2⟩ := fits_iff.1 f2
  have hf7 : fits 2560 7 = true := by
    refine fits_iff.2 ⟨by decide, ?_⟩
    have := fw_sum [15] (by decide)
    have e : (([15] : List Nat).map sz).sum = 2560 - sz 7 := by decide
    rw [e] at this
    have hn : fw (2560 - sz 7) ≠ 0 := fun e => by have h3 := fw_zero_iff.1 e; revert h3; decide
    rw [fw2560]
    simp only [List.length_cons, List.length_nil] at this
    omega
  have hlt : ∀ j < 7, ¬ sz j ≤ 2560 := by decide
  have hge : 7 ≤ first 2560 := by
    rcases Nat.lt_or_ge (first 2560) 7 with h | h
    · exact absurd q1 (hlt _ h)
    · exact h
  have he : first 2560 = 7 := by
    rcases Nat.lt_or_ge 7 (first 2560) with h | h
    · rw [f3 7 h] at hf7; cases hf7
    · omega
  rw [canon_step (by decide) h1, he, show 2560 - sz 7 = sz 15 by decide, canon_one (by decide)]
end Go.Proofs.YtngapiffgoignaaDoor
