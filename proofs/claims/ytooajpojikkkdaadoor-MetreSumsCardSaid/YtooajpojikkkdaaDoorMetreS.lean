/- The note values of a duration: plain laws (no program in sight): how they divide, how long they last, where barlines lie. -/
import Derived.Test.YtooajpojikkkdaaDoorMetreR
set_option linter.unusedSimpArgs false
set_option linter.unusedVariables false
set_option maxRecDepth 1000000
set_option maxHeartbeats 400000
namespace Go.Proofs.YtooajpojikkkdaaDoor
open Go Go.Pm Go.RowKit
theorem find_tk {n : Int} (h : (findZ n).2 = 0) : tkZ (findZ n).1 = n ∧ ∃ i : Fin 40, (findZ n).1 = V i := by
  unfold findZ at h ⊢
  cases hf : idx.find? fun x => tkZ (V x) == n with
  | none => rw [hf] at h; simp at h
  | some i =>
    have := List.find?_some hf
    exact ⟨by simpa using this, i, rfl⟩
theorem leaf_short {lv : Int → Int} (hlv : ∀ t, 0 ≤ lv t ∧ lv t ≤ 15) {a b : Int} (h1 : b - a = 7560) (h2 : strZ lv a b = (0, 99)) : leafZ lv a b := by
  unfold leafZ
  rw [h1, find7560, h2]
  have := hlv a; have := hlv b
  exact ⟨rfl, by decide, by show lv a ≤ 99; omega, .inr (by show lv b ≤ 99; omega)⟩
/-- The strongest tick of what is not one note value. -/
theorem cut_spec {lv : Int → Int} (hlv : ∀ t, 0 ≤ lv t ∧ lv t ≤ 15) {a b : Int} (hd : dom2 a b) (hab : a ≠ b) (hn : ¬ leafZ lv a b) :
    (a < (strZ lv a b).1 ∧ (strZ lv a b).1 < b) ∧ dom2 a (strZ lv a b).1 ∧ dom2 (strZ lv a b).1 b ∧ (strZ lv a b).2 = lv (strZ lv a b).1 ∧
      (∀ t, a < t → t < (strZ lv a b).1 → t % 7560 = 0 → (strZ lv a b).2 < lv t) ∧ (∀ t, a < t → t < b → t % 7560 = 0 → (strZ lv a b).2 ≤ lv t) := by
  rcases strZ_spec hlv hd hab with ⟨h1, h2⟩ | ⟨⟨s1, s2, s3⟩, s4, s5, s6⟩
  · exact absurd (leaf_short hlv h1 h2) hn
  · obtain ⟨⟨d1, d2, d3, d4⟩, d5, d6⟩ := hd
    exact ⟨⟨s1, s2⟩, ⟨⟨by omega, by omega, by omega, by omega⟩, by omega, by omega⟩, ⟨⟨by omega, by omega, by omega, by omega⟩, by omega, by omega⟩, s4, s5, s6⟩
theorem sp_same {lv : Int → Int} (hlv : ∀ t, 0 ≤ lv t ∧ lv t ≤ 15) {a : Int} : sp lv a a = [] := by
  unfold sp; rw [splitZ, if_pos rfl]; rfl
theorem sp_leaf {lv : Int → Int} {a b : Int} (hab : a ≠ b) (hl : leafZ lv a b) : sp lv a b = [(findZ (b - a)).1] := by
  unfold sp; rw [splitZ, if_neg hab, if_pos hl]; rfl
theorem sp_cut {lv : Int → Int} (hlv : ∀ t, 0 ≤ lv t ∧ lv t ≤ 15) {a b : Int} (hd : dom2 a b) (hab : a ≠ b) (hn : ¬ leafZ lv a b) : sp lv a b = sp lv a (strZ lv a b).1 ++ sp lv (strZ lv a b).1 b := by
  obtain ⟨_, d1, d2, _⟩ := cut_spec hlv hd hab hn
  have h : splitZ lv (2049 + 1) a b = some (sp lv a b) := splitZ_more 2049 2050 a b _ (sp_eq hlv hd) (by omega)
  rw [splitZ, if_neg hab, if_neg hn, sp_eq hlv d1, sp_eq hlv d2] at h
  exact (Option.some.inj h).symm
theorem sp_ne {lv : Int → Int} (hlv : ∀ t, 0 ≤ lv t ∧ lv t ≤ 15) {a b : Int} (hd : dom2 a b) (hab : a ≠ b) : sp lv a b ≠ [] := (splitZ_len hlv _ _ _ _ hd (sp_eq hlv hd)).1 hab
/-- Dividing at the end of the first note value. -/
theorem sp_div {lv : Int → Int} (hlv : ∀ t, 0 ≤ lv t ∧ lv t ≤ 15) : ∀ (n : Nat) (a b : Int), dom2 a b → b - a ≤ 7560 * n → ∀ v r, sp lv a b = v :: r →
    (a < a + tkZ v ∧ a + tkZ v ≤ b) ∧ dom2 a (a + tkZ v) ∧ dom2 (a + tkZ v) b ∧ leafZ lv a (a + tkZ v) ∧ sp lv a (a + tkZ v) = [v] ∧ sp lv (a + tkZ v) b = r
  | 0, a, b, hd, hn, v, r, h => by
    have : a = b := by have := hd.1.2.1; omega
    subst this
    rw [sp_same hlv] at h; cases h
  | n + 1, a, b, hd, hn, v, r, h => by
    by_cases hab : a = b
    · subst hab; rw [sp_same hlv] at h; cases h
    · have hd' := hd
      obtain ⟨⟨d1, d2, d3, d4⟩, d5, d6⟩ := hd'
      by_cases hl : leafZ lv a b
      · have h' := h
        rw [sp_leaf hab hl] at h
        cases h
        obtain ⟨t1, _⟩ := find_tk hl.1
        rw [t1, show a + (b - a) = b by omega, sp_same hlv]
        exact ⟨⟨by omega, by omega⟩, hd, ⟨⟨by omega, by omega, by omega, by omega⟩, by omega, by omega⟩, hl, h', rfl⟩
      · obtain ⟨⟨s1, s2⟩, q1, q2, s4, s5, s6⟩ := cut_spec hlv hd hab hl
        rw [sp_cut hlv hd hab hl] at h
        have n1 := sp_ne hlv q1 (by omega)
        have q0 := q2.2.1
        generalize hm : (strZ lv a b).1 = m at *
        generalize hx : (strZ lv a b).2 = x at *
        cases hr : sp lv a m with
        | nil => exact absurd hr n1
        | cons v' r1 =>
          rw [hr] at h
          cases h
          obtain ⟨⟨i1, i2⟩, i3, i4, i5, i6, i7⟩ := sp_div hlv n a m q1 (by omega) v r1 hr
          refine ⟨⟨i1, by omega⟩, i3, ?_⟩
          generalize tkZ v = t at *
          obtain ⟨⟨e1, e2, e3, e4⟩, e5, e6⟩ := i4
          have dc : dom2 (a + t) b := ⟨⟨by omega, by omega, by omega, by omega⟩, by omega, by omega⟩
          refine ⟨dc, i5, i6, ?_⟩
          by_cases hc : a + t = m
          · rw [hc, sp_same hlv] at i7
            subst i7
            rw [hc]; simp
          · have hcb : a + t ≠ b := by omega
            have hs := strZ_spec hlv dc hcb
            have q3 := q2.2.1
            have q4 := q2.2.2
            have hs' : (strZ lv (a + t) b).1 = m ∧ (strZ lv (a + t) b).2 = lv m := by
              rcases hs with ⟨h1, h2⟩ | ⟨⟨z1, z2, z3⟩, z4, z5, z6⟩
              · omega
              · have y1 := z6 m (by omega) (by omega) q3
                have y2 := s6 _ (by omega) z2 z3
                generalize hm' : (strZ lv (a + t) b).1 = m' at *
                generalize hx' : (strZ lv (a + t) b).2 = x' at *
                by_cases c1 : m' < m
                · have := s5 m' (by omega) c1 z3
                  omega
                · by_cases c2 : m < m'
                  · have := z5 m (by omega) c2 q3
                    omega
                  · have : m' = m := by omega
                    subst this
                    exact ⟨rfl, by omega⟩
            have hnl : ¬ leafZ lv (a + t) b := by
              intro hl'
              have y1 := hl'.2.2.1
              rw [hs'.2] at y1
              have := s5 (a + t) (by omega) (by omega) e5
              omega
            rw [sp_cut hlv dc hcb hnl, hs'.1, i7]; rfl
end Go.Proofs.YtooajpojikkkdaaDoor
