/- Plain: where errors are. -/
import Derived.Test.YtkbfgmneibabgaaDoorLexP
set_option linter.unusedSimpArgs false
set_option linter.unusedVariables false
namespace LexP
theorem esc_wrong_le {r : Bs} {n : Nat} (h : escL r = .wrong n) : n ≤ r.length := by
  cases r with
  | nil => simp [escL] at h; omega
  | cons c r =>
    simp only [escL] at h
    split at h
    · cases h
    · split at h
      · cases h
      · split at h
        · cases h
        · split at h
          · cases h
          · split at h
            · unfold escX at h
              split at h
              · cases h; simp
              · split at h
                · cases h; simp
                · split at h
                  · cases h; simp
                  · split at h
                    · cases h; simp
                    · cases h
            · cases h; simp
theorem strA_bad_le : ∀ (f i : Nat) (acc r : Bs) (o : Nat), strA f i acc r = .bad o → o ≤ i + r.length
  | 0, i, acc, r, o, h => by cases h
  | f + 1, i, acc, [], o, h => by cases h
  | f + 1, i, acc, c :: r, o, h => by
    simp only [strA] at h
    split at h
    · cases h
    · split at h
      · have := strA_bad_le f _ _ _ _ h
        simp; omega
      · split at h
        · split at h
          · rename_i n he
            have := esc_wrong_le he
            split at h
            · cases h
            · cases h; simp; omega
          · rename_i n b he
            have := strA_bad_le f _ _ _ _ h
            have hn := (esc_local he).2.1
            simp at this ⊢; omega
        · cases h; omega
theorem tokL_err_le {r : Bs} {o : Nat} {e : Int} (h : tokL r = .err o e) : o ≤ r.length := by
  cases r with
  | nil => simp [tokL] at h; omega
  | cons c r =>
    rw [tokL] at h
    split at h
    · split at h
      · cases h; omega
      · cases h
    · split at h
      · split at h
        · cases h; omega
        · cases h
      · split at h
        · unfold strT at h
          split at h
          · cases h; omega
          · rename_i o' hs
            cases h
            have := strA_bad_le _ _ _ _ _ hs
            simp; omega
          · split at h
            · cases h; omega
            · cases h
        · split at h
          · cases h
          · cases h; omega
theorem scanA_err_le : ∀ (f : Nat) (acc : List Tk) (pos : Nat) (rest : Bs) (o : Nat) (e : Int), scanA f acc pos rest = .error (o, e) → o ≤ pos + rest.length
  | 0, acc, pos, rest, o, e, h => by cases h; omega
  | f + 1, acc, pos, rest, o, e, h => by
    simp only [scanA] at h
    have hle := skp_le rest false
    split at h
    · cases h
    · rename_i c r hd
      have hcr : (c :: r).length = rest.length - skp false rest := by rw [← hd, List.length_drop]
      split at h
      · rename_i o' e' ht
        cases h
        have := tokL_err_le ht
        omega
      · rename_i kd n v bs ht
        have := scanA_err_le f _ _ _ _ _ h
        obtain ⟨⟨n1, n2⟩, _⟩ := tok_local ht
        rw [List.length_drop] at this
        omega
theorem scan_err_le {s : Bs} {o : Nat} {e : Int} (h : scan s = .error (o, e)) : o ≤ s.length := by
  have := scanA_err_le _ _ _ _ _ _ h
  omega
theorem scanA_ok_ne : ∀ (f : Nat) (acc : List Tk) (pos : Nat) (rest : Bs) (m : List Tk), scanA f acc pos rest = .ok m → m ≠ [] := fun f acc pos rest m h => by
  obtain ⟨m', rfl, hs⟩ := sc_of_scan f acc pos rest m h
  intro e
  have : m' = [] := (List.append_eq_nil_iff.1 e).2
  subst this
  cases hs
theorem scan_ok_ne {s : Bs} {m : List Tk} (h : scan s = .ok m) : m ≠ [] := scanA_ok_ne _ _ _ _ _ h
end LexP
