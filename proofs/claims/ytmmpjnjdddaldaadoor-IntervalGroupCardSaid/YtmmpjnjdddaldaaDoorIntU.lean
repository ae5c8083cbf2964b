/- Plain laws of pitches and intervals; the laws, by the machine. -/
import Derived.Test.YtmmpjnjdddaldaaDoorIntT
set_option linter.unusedSimpArgs false
set_option linter.unusedVariables false
set_option maxRecDepth 1000000
set_option maxHeartbeats 400000
namespace Go.Proofs.YtmmpjnjdddaldaaDoor
open Go Go.Pm Go.RowKit
/-- Plain: what the list of the pitches with a number holds. -/
def enhNums (n : Int) : Bool := (enhP n).all fun p => decide (valid p.1 p.2.1 p.2.2 ∧ numZ p.1 p.2.1 p.2.2 = n)
theorem enh_nums : (List.range 128).all (fun n => enhNums (n : Int)) = true := by kernel_rfl
theorem enh_mem {n : Int} (h : 0 ≤ n ∧ n ≤ 127) {p : P} (hp : p ∈ enhP n) : valid p.1 p.2.1 p.2.2 ∧ numZ p.1 p.2.1 p.2.2 = n := by
  have h1 := List.all_eq_true.1 enh_nums n.toNat (by simp; omega)
  rw [show ((n.toNat : Nat) : Int) = n by omega] at h1
  have h2 := List.all_eq_true.1 h1 p hp
  exact of_decide_eq_true h2
theorem enh_full : ((List.range 7).all fun s => (List.range 5).all fun a => (List.range 11).all fun o =>
    !decide (valid (s : Int) ((a : Int) - 2) ((o : Int) - 1)) || (enhP (numZ (s : Int) ((a : Int) - 2) ((o : Int) - 1))).any fun p => decide (p = ((s : Int), (a : Int) - 2, (o : Int) - 1))) = true := by kernel_rfl
theorem enh_has {s a o : Int} (h : valid s a o) : (s, a, o) ∈ enhP (numZ s a o) := by
  obtain ⟨h1, h2, h3⟩ := h.1
  have k1 := List.all_eq_true.1 enh_full s.toNat (by simp; omega)
  have k2 := List.all_eq_true.1 k1 (a + 2).toNat (by simp; omega)
  have k3 := List.all_eq_true.1 k2 (o + 1).toNat (by simp; omega)
  rw [show ((s.toNat : Nat) : Int) = s by omega, show (((a + 2).toNat : Nat) : Int) - 2 = a by omega, show (((o + 1).toNat : Nat) : Int) - 1 = o by omega] at k3
  simp only [h, decide_true, Bool.not_true, Bool.false_or] at k3
  obtain ⟨p, hp, he⟩ := List.any_eq_true.1 k3
  have := of_decide_eq_true he
  subst this
  exact hp
theorem pitch_eq {s a o s' a' o' : Int} (h : valid s a o) (h' : valid s' a' o') (hp : posZ s o = posZ s' o') (hn : numZ s a o = numZ s' a' o') : s = s' ∧ a = a' ∧ o = o' := by
  obtain ⟨⟨h1, h2, h3⟩, _⟩ := h
  obtain ⟨⟨k1, k2, k3⟩, _⟩ := h'
  unfold posZ at hp
  have e1 : o = o' := by omega
  have e2 : s = s' := by omega
  subst e1; subst e2
  unfold numZ at hn
  exact ⟨rfl, by omega, rfl⟩
/-- Exact's answer. -/
theorem ex_iff (s a o t m : Int) (q : P) : exR s a o t m = (q, 0) ↔ valid s a o ∧ isI t m ∧ valid q.1 q.2.1 q.2.2 ∧ posP q = posZ s o + t ∧ numZ q.1 q.2.1 q.2.2 = numZ s a o + m := by
  unfold exR
  constructor
  · intro h
    split at h
    · rename_i hv
      split at h
      · rename_i hi
        split at h
        · rename_i hn
          unfold atP at h
          split at h
          · rename_i x hx
            obtain rfl : x = q := (Prod.mk.inj h).1
            have h1 := enh_mem hn (List.mem_of_find?_eq_some hx)
            have h2 := List.find?_some hx
            exact ⟨hv, hi, h1.1, by simpa using h2, h1.2⟩
          · have := (Prod.mk.inj h).2; omega
        · have := (Prod.mk.inj h).2; omega
      · have := (Prod.mk.inj h).2; omega
    · have := (Prod.mk.inj h).2; omega
  · rintro ⟨hv, hi, hq, hp, hn⟩
    rw [if_pos hv, if_pos hi, ← hn, if_pos hq.2]
    unfold atP
    have hm := enh_has hq
    cases hf : (enhP (numZ q.1 q.2.1 q.2.2)).find? fun q => decide (posP q = posZ s o + t) with
    | none =>
      have := List.find?_eq_none.1 hf _ hm
      simp at this
      exact absurd hp this
    | some x =>
      have h1 := enh_mem hq.2 (List.mem_of_find?_eq_some hf)
      have h2 : posP x = posZ s o + t := by simpa using List.find?_some hf
      obtain ⟨e1, e2, e3⟩ := pitch_eq h1.1 hq (by rw [← posP, ← posP, h2, hp]) h1.2
      obtain ⟨x1, x2, x3⟩ := x
      obtain ⟨q1, q2, q3⟩ := q
      simp only [] at e1 e2 e3
      subst e1; subst e2; subst e3
      rfl
theorem btw_isI {s a o s' a' o' : Int} (h : valid s a o) (h' : valid s' a' o') : isI (posZ s' o' - posZ s o) (numZ s' a' o' - numZ s a o) := by
  have := pos_range h.1
  have := pos_range h'.1
  obtain ⟨_, k1⟩ := h
  obtain ⟨_, k2⟩ := h'
  exact ⟨⟨by omega, by omega⟩, by omega, by omega⟩
theorem minZ_mem (g : Int) : ∀ (l : List P) (b : P), minZ g b l ∈ b :: l
  | [], b => by simp [minZ]
  | q :: r, b => by
    rw [minZ]
    split
    · have := minZ_mem g r q
      exact List.mem_cons_of_mem _ this
    · have := minZ_mem g r b
      rcases List.mem_cons.1 this with h | h
      · rw [h]; exact List.mem_cons_self
      · exact List.mem_cons_of_mem _ (List.mem_cons_of_mem _ h)
theorem tr_num {s a o t m : Int} (h : (trR s a o t m).2 = 0) : valid (trR s a o t m).1.1 (trR s a o t m).1.2.1 (trR s a o t m).1.2.2 ∧ numZ (trR s a o t m).1.1 (trR s a o t m).1.2.1 (trR s a o t m).1.2.2 = numZ s a o + m ∧ valid s a o ∧ isI t m := by
  unfold trR at *
  by_cases hv : valid s a o
  · by_cases hi : isI t m
    · by_cases hn : 0 ≤ numZ s a o + m ∧ numZ s a o + m ≤ 127
      · simp only [if_pos hv, if_pos hi, if_pos hn]
        obtain ⟨e, ⟨⟨l1, l2⟩, _⟩⟩ := enh_p hn
        have hm : minL (posZ s o + t) (enhP (numZ s a o + m)) ∈ enhP (numZ s a o + m) := by
          unfold minL
          have := minZ_mem (posZ s o + t) ((enhP (numZ s a o + m)).drop 1) ((enhP (numZ s a o + m)).getD 0 (0, 0, 0))
          have e1 : (enhP (numZ s a o + m)).getD 0 (0, 0, 0) :: (enhP (numZ s a o + m)).drop 1 = enhP (numZ s a o + m) := by
            match enhP (numZ s a o + m), l1 with
            | x :: r, _ => rfl
          rw [e1] at this
          exact this
        have := enh_mem hn hm
        exact ⟨this.1, this.2, hv, hi⟩
      · simp [hv, hi, hn] at h
    · simp [hv, hi] at h
  · simp [hv] at h
end Go.Proofs.YtmmpjnjdddaldaaDoor
