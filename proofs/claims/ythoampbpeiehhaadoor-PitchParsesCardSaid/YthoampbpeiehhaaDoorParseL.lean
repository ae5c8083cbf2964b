/- Names of pitches and their readings, in plain words. -/
import Derived.Lib.Strings
import Derived.Lib.Bytealg
import Derived.Lib.ItoaNum
import Derived.Lib.AtoiAll
set_option linter.unusedSimpArgs false
set_option linter.unusedVariables false
set_option maxRecDepth 100000
set_option maxHeartbeats 400000
namespace Go.Proofs.YthoampbpeiehhaaDoor
open Go
abbrev lettersL : List UInt8 := [67, 68, 69, 70, 71, 65, 66]
def sgn (a : Int) : List UInt8 := if a = -2 then [98, 98] else if a = -1 then [98] else if a = 1 then [35] else if a = 2 then [35, 35] else []
def octL (o : Int) : List UInt8 := if o = -1 then [45, 49] else [UInt8.ofNat (48 + o.toNat)]
def letter (s : Int) : UInt8 := lettersL.getD s.toNat 0
def nameL (s a o : Int) : List UInt8 := letter s :: (sgn a ++ octL o)
def stepOf (c : UInt8) : Int := Lib.indexByte lettersL c

theorem oct_cases {o : Int} (h : -1 ≤ o ∧ o ≤ 9) : o = -1 ∨ o = 0 ∨ o = 1 ∨ o = 2 ∨ o = 3 ∨ o = 4 ∨ o = 5 ∨ o = 6 ∨ o = 7 ∨ o = 8 ∨ o = 9 := by omega
theorem itoa_oct {o : Int} (h : -1 ≤ o ∧ o ≤ 9) : Lib.itoa o = octL o := by
  rcases oct_cases h with rfl | rfl | rfl | rfl | rfl | rfl | rfl | rfl | rfl | rfl | rfl <;>
    simp [Lib.itoa, octL, Lib.decDigits] <;> decide
theorem atoi_oct {o : Int} (h : -1 ≤ o ∧ o ≤ 9) : Lib.atoiAll (octL o) = .ok o := by
  rcases oct_cases h with rfl | rfl | rfl | rfl | rfl | rfl | rfl | rfl | rfl | rfl | rfl <;> decide +kernel
theorem oct_inj {o o' : Int} (h : -1 ≤ o ∧ o ≤ 9) (h' : -1 ≤ o' ∧ o' ≤ 9) (e : octL o = octL o') : o = o' := by
  have h1 := atoi_oct h
  rw [e, atoi_oct h'] at h1
  exact (Lib.NumEnd.ok.inj h1).symm

/-- The number behind a sign, if the rest is that sign and a number that is written as it should be. -/
def cand (rest : List UInt8) (a : Int) : Option Int :=
  if Lib.hasPrefix rest (sgn a) then match Lib.atoiAll (Lib.trimPrefix rest (sgn a)) with
    | .ok v => if -1 ≤ v ∧ v ≤ 9 ∧ Lib.itoa v = Lib.trimPrefix rest (sgn a) then some v else none
    | _ => none
  else none
theorem cand_iff {rest : List UInt8} {a v : Int} : cand rest a = some v ↔ (-1 ≤ v ∧ v ≤ 9) ∧ rest = sgn a ++ octL v := by
  unfold cand
  constructor
  · intro h
    split at h
    · rename_i hp
      split at h
      · rename_i w hw
        split at h
        · rename_i hc
          cases h
          refine ⟨⟨hc.1, hc.2.1⟩, ?_⟩
          have e1 := hc.2.2
          rw [itoa_oct ⟨hc.1, hc.2.1⟩] at e1
          rw [e1]
          unfold Lib.trimPrefix
          rw [if_pos hp]
          obtain ⟨t, ht⟩ := List.isPrefixOf_iff_prefix.1 hp
          rw [← ht]; simp
        · cases h
      · cases h
    · cases h
  · rintro ⟨hv, rfl⟩
    have hp : Lib.hasPrefix (sgn a ++ octL v) (sgn a) = true := List.isPrefixOf_iff_prefix.2 ⟨_, rfl⟩
    have ht : Lib.trimPrefix (sgn a ++ octL v) (sgn a) = octL v := by
      unfold Lib.trimPrefix
      rw [if_pos hp]; simp
    rw [if_pos hp, ht, atoi_oct hv]
    simp only []
    rw [if_pos ⟨hv.1, hv.2, itoa_oct hv⟩]

/-- The octaves in order. -/
def octs : List Int := [-1, 0, 1, 2, 3, 4, 5, 6, 7, 8, 9]
theorem octs_find {rest : List UInt8} {a : Int} : ∀ (l : List Int), (∀ o ∈ l, -1 ≤ o ∧ o ≤ 9) → (∀ o, cand rest a = some o → o ∈ l) → l.find? (fun o => sgn a ++ octL o == rest) = cand rest a := by
  intro l hl hc
  cases hf : l.find? (fun o => sgn a ++ octL o == rest) with
  | some o =>
    have h1 := List.find?_some hf
    have h2 := List.mem_of_find?_eq_some hf
    exact (cand_iff.2 ⟨hl o h2, (by simpa using h1 : sgn a ++ octL o = rest).symm⟩).symm
  | none =>
    cases h : cand rest a with
    | none => rfl
    | some o =>
      have := List.find?_eq_none.1 hf o (hc o h)
      have e := (cand_iff.1 h).2
      exact absurd (by simp [e]) this
end Go.Proofs.YthoampbpeiehhaaDoor
