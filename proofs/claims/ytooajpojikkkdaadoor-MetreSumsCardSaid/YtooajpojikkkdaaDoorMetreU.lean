/- The note values of a duration, plain laws: barlines and the number of note values. -/
import Derived.Test.YtooajpojikkkdaaDoorMetreT
set_option linter.unusedSimpArgs false
set_option linter.unusedVariables false
set_option maxRecDepth 1000000
set_option maxHeartbeats 400000
namespace Go.Proofs.YtooajpojikkkdaaDoor
open Go Go.Pm Go.RowKit
/-- The note values one behind the other, with measures of n ticks. -/
def chainZ (n : Int) : Int → Int → List (Int × Int) → Prop
  | a, b, [] => a = b
  | a, b, v :: r => (∃ i : Fin 40, v = V i) ∧ (0 < tkZ v ∧ a + tkZ v ≤ b) ∧ (a % n ≠ 0 → a / n = (a + tkZ v - 1) / n) ∧ chainZ n (a + tkZ v) b r
theorem leaf_bar {lv : Int → Int} (hlv : ∀ t, 0 ≤ lv t ∧ lv t ≤ 15) {n : Int} (hn : 0 < n) (h7 : n % 7560 = 0) (hz : ∀ t, lv t = 0 ↔ t % n = 0) {a c : Int} (hd : dom2 a c) (hac : a < c) (hl : leafZ lv a c) (ha : a % n ≠ 0) : a / n = (c - 1) / n := by
  have e1 := Int.mul_ediv_add_emod a n
  have e2 := Int.mul_ediv_add_emod (c - 1) n
  have r1 := Int.emod_nonneg a (b := n) (by omega)
  have r2 := Int.emod_lt_of_pos a (b := n) hn
  have r3 := Int.emod_nonneg (c - 1) (b := n) (by omega)
  have hle : a / n ≤ (c - 1) / n := Int.ediv_le_ediv hn (by omega)
  refine Decidable.byContradiction fun hne => ?_
  have hlt : a / n + 1 ≤ (c - 1) / n := by omega
  have hm : n * (a / n + 1) ≤ n * ((c - 1) / n) := Int.mul_le_mul_of_nonneg_left hlt (by omega)
  have hx : n * (a / n + 1) = n * (a / n) + n := by rw [Int.mul_add, Int.mul_one]
  have h1 : (n * (a / n + 1)) % n = 0 := Int.mul_emod_right _ _
  have h2 : (n * (a / n + 1)) % 7560 = 0 := Int.emod_eq_zero_of_dvd (Int.dvd_trans (Int.dvd_of_emod_eq_zero h7) (Int.dvd_mul_right _ _))
  have h3 := (hz _).2 h1
  generalize n * (a / n + 1) = k at *
  have hst := strZ_spec hlv hd (by omega)
  obtain ⟨⟨d1, d2, d3, d4⟩, d5, d6⟩ := hd
  have l1 := hl.2.2.1
  rcases hst with ⟨z1, z2⟩ | ⟨⟨z1, z2, z3⟩, z4, z5, z6⟩
  · omega
  · have := z6 k (by omega) (by omega) h2
    have := hlv a
    exact ha ((hz a).1 (by omega))
theorem sp_chain {lv : Int → Int} (hlv : ∀ t, 0 ≤ lv t ∧ lv t ≤ 15) {n : Int} (hn : 0 < n) (h7 : n % 7560 = 0) (hz : ∀ t, lv t = 0 ↔ t % n = 0) : ∀ (l : List (Int × Int)) (a b : Int), dom2 a b → sp lv a b = l → chainZ n a b l
  | [], a, b, hd, h => show a = b from Decidable.byContradiction fun e => sp_ne hlv hd e h
  | v :: r, a, b, hd, h => by
    obtain ⟨⟨i1, i2⟩, i3, i4, i5, i6, i7⟩ := sp_div hlv 2049 a b hd (by have := hd.1.2.2.2; omega) v r h
    refine ⟨?_, ⟨by omega, i2⟩, fun ha => leaf_bar hlv hn h7 hz i3 i1 i5 ha, sp_chain hlv hn h7 hz r _ _ i4 i7⟩
    obtain ⟨_, i, hi⟩ := find_tk i5.1
    have := sp_leaf (lv := lv) (a := a) (b := a + tkZ v) (by omega) i5
    rw [i6, hi] at this
    exact ⟨i, (List.cons.inj this).1⟩
/-- How many note values there are, by whole units. -/
theorem sp_count {lv : Int → Int} (hlv : ∀ t, 0 ≤ lv t ∧ lv t ≤ 15) {q : Int} (hq : q = 1935360 ∨ q = 967680 ∨ q = 483840 ∨ q = 241920 ∨ q = 120960 ∨ q = 60480 ∨ q = 30240) (h3 : ∀ t, t % q = 0 → lv t ≤ 3) (h4 : ∀ t, t % q ≠ 0 → 4 ≤ lv t) :
    ∀ (N : Nat) (a b : Int), dom2 a b → b - a ≤ 7560 * N → a < b → ((sp lv a b).length : Int) ≤ (b - 1) / q - a / q + 1 + (if a % q = 0 then 0 else q / 7560 - 1) + (if b % q = 0 then 0 else q / 7560 - 1)
  | 0, a, b, hd, hN, hab => by omega
  | N + 1, a, b, hd, hN, hab => by
    have hd' := hd
    obtain ⟨⟨d1, d2, d3, d4⟩, d5, d6⟩ := hd'
    by_cases hl : leafZ lv a b
    · rw [sp_leaf (by omega) hl]
      simp only [List.length_cons, List.length_nil]
      rcases hq with rfl | rfl | rfl | rfl | rfl | rfl | rfl <;> split <;> split <;> omega
    · obtain ⟨⟨s1, s2⟩, q1, q2, s4, s5, s6⟩ := cut_spec hlv hd (by omega) hl
      have hlen := (splitZ_len hlv _ _ _ _ hd (sp_eq hlv hd)).2
      have hcut := sp_cut hlv hd (by omega) hl
      have q0 := q2.2.1
      have hL := hl
      unfold leafZ at hL
      generalize hm : (strZ lv a b).1 = m at *
      generalize hx : (strZ lv a b).2 = x at *
      by_cases hmq : m % q = 0
      · have i1 := sp_count hlv hq h3 h4 N a m q1 (by omega) s1
        have i2 := sp_count hlv hq h3 h4 N m b q2 (by omega) s2
        rw [hcut, List.length_append]
        rw [if_pos hmq] at i1 i2
        generalize (if a % q = 0 then 0 else q / 7560 - 1) = ca at *
        generalize (if b % q = 0 then 0 else q / 7560 - 1) = cb at *
        rcases hq with rfl | rfl | rfl | rfl | rfl | rfl | rfl <;> omega
      · have y1 := h4 m hmq
        have hno : ∀ t, a < t → t < b → t % 7560 = 0 → t % q ≠ 0 := fun t t1 t2 t3 t4 => by
          have := s6 t t1 t2 t3
          have := h3 t t4
          omega
        have hnb : b ≤ q * (a / q + 1) := Decidable.byContradiction fun hc => by
          have hh := hno (q * (a / q + 1))
          rcases hq with rfl | rfl | rfl | rfl | rfl | rfl | rfl <;> exact hh (by omega) (by omega) (by omega) (by omega)
        by_cases c1 : a % q = 0
        · by_cases c2 : b % q = 0
          · exfalso
            apply hL
            have la := h3 a c1
            have lb := h3 b c2
            have e : b - a = q := by rcases hq with rfl | rfl | rfl | rfl | rfl | rfl | rfl <;> omega
            rw [e]
            have : (findZ q).2 = 0 ∧ (findZ q).1.2 ≤ 2 := by
              rcases hq with rfl | rfl | rfl | rfl | rfl | rfl | rfl <;> decide +kernel
            exact ⟨this.1, this.2, by omega, .inr (by omega)⟩
          · rw [if_pos c1, if_neg c2]
            rcases hq with rfl | rfl | rfl | rfl | rfl | rfl | rfl <;> omega
        · rw [if_neg c1]
          have hcb : 0 ≤ (if b % q = 0 then 0 else q / 7560 - 1) := by
            split
            · omega
            · rcases hq with rfl | rfl | rfl | rfl | rfl | rfl | rfl <;> omega
          generalize (if b % q = 0 then 0 else q / 7560 - 1) = cb at *
          rcases hq with rfl | rfl | rfl | rfl | rfl | rfl | rfl <;> omega
theorem sp_few {lv : Int → Int} (hlv : ∀ t, 0 ≤ lv t ∧ lv t ≤ 15) {q : Int} (hq : q = 1935360 ∨ q = 967680 ∨ q = 483840 ∨ q = 241920 ∨ q = 120960 ∨ q = 60480 ∨ q = 30240) (h3 : ∀ t, t % q = 0 → lv t ≤ 3) (h4 : ∀ t, t % q ≠ 0 → 4 ≤ lv t)
    {a b : Int} (hd : dom2 a b) (hs : b - a ≤ 15475320) : (sp lv a b).length ≤ 1024 := by
  by_cases hab : a = b
  · subst hab; rw [sp_same hlv]; simp
  · have := sp_count hlv hq h3 h4 2049 a b hd (by omega) (by have := hd.1.2.1; omega)
    have h1 := hd.1.1
    have h2 := hd.1.2.1
    revert this
    rcases hq with rfl | rfl | rfl | rfl | rfl | rfl | rfl <;> split <;> split <;> intro this <;> omega
end Go.Proofs.YtooajpojikkkdaaDoor
