/- Plain: the short names of intervals, and how they are read. -/
import Derived.Test.YtmmpjnjdddaldaaGreatDoorIntS
import Derived.Lib.Strings
import Derived.Lib.ItoaNum
import Derived.Lib.AtoiAll
import Derived.Lib.Repeat
set_option linter.unusedSimpArgs false
set_option linter.unusedVariables false
set_option maxRecDepth 1000000
set_option maxHeartbeats 400000
namespace Go.Proofs.YtmmpjnjdddaldaaGreatDoor
open Go Go.Pm Go.RowKit
abbrev Bs := List UInt8
/-- A number below 100 in decimal. -/
def d100 (n : Nat) : Bs := if n < 10 then [UInt8.ofNat (48 + n)] else [UInt8.ofNat (48 + n / 10), UInt8.ofNat (48 + n % 10)]
theorem dec_d100 {n : Nat} (h : n < 100) : Lib.decDigits n = d100 n := by
  unfold Lib.decDigits d100
  by_cases h1 : n < 10
  · rw [dif_pos h1, if_pos h1]
  · rw [dif_neg h1, if_neg h1]
    unfold Lib.decDigits
    rw [dif_pos (by omega)]; rfl
theorem d100_len (n : Nat) : 1 ≤ (d100 n).length ∧ (d100 n).length ≤ 2 := by unfold d100; split <;> simp
theorem itoa_d100 {n : Int} (h : 0 ≤ n ∧ n < 100) : Lib.itoa n = d100 n.toNat := by
  unfold Lib.itoa
  rw [if_neg (by omega), ← dec_d100 (by omega)]
  try (congr 1; omega)
theorem rep_rep (c : UInt8) : ∀ k, Lib.repeatL [c] k = List.replicate k c
  | 0 => rfl
  | k + 1 => by rw [Lib.repeatL, rep_rep c k]; rfl
def letQ (q : Int) : UInt8 := if q = -2 then 100 else if q = -1 then 109 else if q = 0 then 80 else if q = 1 then 77 else 65
def tmsU (u v : Int) : Nat := max 1 (quaU u v).2.toNat
def txtU (u v : Int) : Bs := List.replicate (tmsU u v) (letQ (quaU u v).1) ++ d100 (u + 1).toNat
/-- The short name of an interval. -/
def textZ (s m : Int) : Bs := if downZ s m = true then 45 :: txtU (-s) (-m) else txtU s m
def semB (c : UInt8) (k u : Int) : Int := natZ u + (if c = 65 then k else if c = 100 then (if 0 ≤ pureIx (u % 7) then -k else -k - 1) else if c = 109 then -1 else 0)
theorem nat_range {u : Int} (h : 0 ≤ u ∧ u ≤ 77) : 0 ≤ natZ u ∧ natZ u ≤ 143 := by
  have := semi_range (s := u % 7) (by omega)
  unfold natZ; omega
/-- The letters tell the semitones. -/
theorem back {u v : Int} (hu : 0 ≤ u ∧ u ≤ 77) (hv : -140 ≤ v ∧ v ≤ 140) : semB (letQ (quaU u v).1) (tmsU u v : Nat) u = v ∧ 1 ≤ tmsU u v ∧ tmsU u v ≤ 283 ∧ (letQ (quaU u v).1 = 65 ∨ letQ (quaU u v).1 = 100 ∨ letQ (quaU u v).1 = 109 ∨ letQ (quaU u v).1 = 80 ∨ letQ (quaU u v).1 = 77) := by
  have hn := nat_range hu
  unfold semB tmsU quaU
  by_cases hp : 0 ≤ pureIx (u % 7)
  · simp only [if_pos hp]
    unfold perZ
    by_cases h1 : 0 < v - natZ u
    · simp only [if_pos h1]
      refine ⟨?_, by omega, by omega, .inl (by decide)⟩
      rw [if_pos (by decide)]; omega
    · by_cases h2 : v - natZ u < 0
      · simp only [if_neg h1, if_pos h2]
        refine ⟨?_, by omega, by omega, .inr (.inl (by decide))⟩
        rw [if_neg (by decide), if_pos (by decide)]; omega
      · simp only [if_neg h1, if_neg h2]
        refine ⟨?_, by omega, by omega, .inr (.inr (.inr (.inl (by decide))))⟩
        rw [if_neg (by decide), if_neg (by decide), if_neg (by decide)]; omega
  · simp only [if_neg hp]
    unfold larZ
    by_cases h1 : 0 < v - natZ u
    · simp only [if_pos h1]
      refine ⟨?_, by omega, by omega, .inl (by decide)⟩
      rw [if_pos (by decide)]; omega
    · by_cases h2 : v - natZ u = 0
      · simp only [if_neg h1, if_pos h2]
        refine ⟨?_, by omega, by omega, .inr (.inr (.inr (.inr (by decide))))⟩
        rw [if_neg (by decide), if_neg (by decide), if_neg (by decide)]; omega
      · by_cases h3 : v - natZ u = -1
        · simp only [if_neg h1, if_neg h2, if_pos h3]
          refine ⟨?_, by omega, by omega, .inr (.inr (.inl (by decide)))⟩
          rw [if_neg (by decide), if_neg (by decide), if_pos (by decide)]; omega
        · simp only [if_neg h1, if_neg h2, if_neg h3]
          refine ⟨?_, by omega, by omega, .inr (.inl (by decide))⟩
          rw [if_neg (by decide), if_pos (by decide)]; omega
/-- How the program reads. -/
def setQ (b : UInt8) : Bool := [80, 77, 109, 65, 100].contains b
def cutM (s : Bs) : Bs × Bool := match s with
  | [] => ([], false)
  | c :: r => if c = 45 then (r, true) else (c :: r, false)
def dgsM (t : Bs) : Bs := t.dropWhile setQ
def ltsM (t : Bs) : Bs := t.take (t.length - (dgsM t).length)
abbrev bad13 : (Int × Int) × Int := ((0, 0), 13)
def pzI (s : Bs) (down : Bool) (lets : Bs) (n : Int) : (Int × Int) × Int :=
  if lets = [] ∨ n < 1 ∨ 78 < n then bad13
  else if down = true then (if isI (-(n - 1)) (-(semB (lets.getD 0 0) lets.length (n - 1))) ∧ textZ (-(n - 1)) (-(semB (lets.getD 0 0) lets.length (n - 1))) = s then ((-(n - 1), -(semB (lets.getD 0 0) lets.length (n - 1))), 0) else bad13)
  else (if isI (n - 1) (semB (lets.getD 0 0) lets.length (n - 1)) ∧ textZ (n - 1) (semB (lets.getD 0 0) lets.length (n - 1)) = s then ((n - 1, semB (lets.getD 0 0) lets.length (n - 1)), 0) else bad13)
def pz (s : Bs) : (Int × Int) × Int :=
  if s = [] then ((0, 0), 4) else if 300 < s.length then ((0, 0), 5)
  else match Lib.atoiAll (dgsM (cutM s).1) with
    | .ok n => pzI s (cutM s).2 (ltsM (cutM s).1) n
    | _ => bad13
theorem d100_head : ((List.range 100).all fun n => match d100 n with
    | [] => false
    | c :: r => !setQ c && (decide (c ≠ 45) && (c :: r).all fun b => decide (48 ≤ b.toNat) && decide (b.toNat ≤ 57))) = true := by decide +kernel
theorem atoi_d100 : ((List.range 99).all fun n => decide (Lib.atoiAll (d100 (n + 1)) = .ok ((n : Int) + 1))) = true := by decide +kernel
theorem drop_rep (c : UInt8) (hc : setQ c = true) (r : Bs) : ∀ k, (List.replicate k c ++ r).dropWhile setQ = r.dropWhile setQ
  | 0 => rfl
  | k + 1 => by rw [List.replicate_succ, List.cons_append, List.dropWhile_cons, if_pos hc, drop_rep c hc r k]
theorem txt_parts {u v : Int} (hu : 0 ≤ u ∧ u ≤ 77) (hv : -140 ≤ v ∧ v ≤ 140) : dgsM (txtU u v) = d100 (u + 1).toNat ∧ ltsM (txtU u v) = List.replicate (tmsU u v) (letQ (quaU u v).1) ∧ (∃ c r, txtU u v = c :: r ∧ c ≠ 45) ∧ Lib.atoiAll (d100 (u + 1).toNat) = .ok (u + 1) ∧ (txtU u v).length ≤ 285 := by
  obtain ⟨b1, b2, b3, b4⟩ := back hu hv
  have hc : setQ (letQ (quaU u v).1) = true ∧ letQ (quaU u v).1 ≠ 45 := by
    rcases b4 with e | e | e | e | e <;> rw [e] <;> decide
  have h1 := List.all_eq_true.1 d100_head (u + 1).toNat (by simp; omega)
  have h2 := List.all_eq_true.1 atoi_d100 u.toNat (by simp; omega)
  have h2 := of_decide_eq_true h2
  rw [show u.toNat + 1 = (u + 1).toNat by omega, show ((u.toNat : Nat) : Int) + 1 = u + 1 by omega] at h2
  have hl := d100_len (u + 1).toNat
  have hd : dgsM (txtU u v) = d100 (u + 1).toNat := by
    unfold dgsM txtU
    rw [drop_rep _ hc.1]
    split at h1
    · cases h1
    · rename_i c r e
      rw [e]
      simp only [Bool.and_eq_true, Bool.not_eq_true'] at h1
      rw [List.dropWhile_cons, if_neg (by rw [h1.1]; simp)]
  refine ⟨hd, ?_, ?_, h2, ?_⟩
  · unfold ltsM
    rw [hd]
    unfold txtU
    rw [List.length_append, Nat.add_sub_cancel, List.take_left']
    rfl
  · obtain ⟨k, hk⟩ : ∃ k, tmsU u v = k + 1 := ⟨tmsU u v - 1, by omega⟩
    unfold txtU
    rw [hk, List.replicate_succ, List.cons_append]
    exact ⟨_, _, rfl, hc.2⟩
  · unfold txtU
    rw [List.length_append, List.length_replicate]; omega
theorem pz_txt {u v : Int} (s : Bs) (down : Bool) (hu : 0 ≤ u ∧ u ≤ 77) (hv : -140 ≤ v ∧ v ≤ 140) (hs : (if down = true then textZ (-u) (-v) else textZ u v) = s) :
    pzI s down (List.replicate (tmsU u v) (letQ (quaU u v).1)) (u + 1) = ((if down = true then (-u, -v) else (u, v)), 0) := by
  obtain ⟨b1, b2, b3, b4⟩ := back hu hv
  have hg : (List.replicate (tmsU u v) (letQ (quaU u v).1)).getD 0 0 = letQ (quaU u v).1 := by
    obtain ⟨k, hk⟩ : ∃ k, tmsU u v = k + 1 := ⟨tmsU u v - 1, by omega⟩
    rw [hk]; rfl
  have hn : List.replicate (tmsU u v) (letQ (quaU u v).1) ≠ [] := by
    intro e
    have := congrArg List.length e
    simp at this; omega
  unfold pzI
  rw [if_neg (by
    rintro (h | h | h)
    · exact hn h
    · omega
    · omega), hg, List.length_replicate, show u + 1 - 1 = u by omega, b1]
  cases down with
  | true =>
    rw [if_pos rfl] at hs ⊢
    rw [if_pos ⟨⟨⟨by omega, by omega⟩, by omega, by omega⟩, hs⟩, if_pos rfl]
  | false =>
    rw [if_neg (by decide)] at hs ⊢
    rw [if_pos ⟨⟨⟨by omega, by omega⟩, by omega, by omega⟩, hs⟩, if_neg (by decide)]
theorem pz_text {s m : Int} (h : isI s m) : pz (textZ s m) = ((s, m), 0) := by
  obtain ⟨u1, u2⟩ := up_range h
  obtain ⟨⟨h1, h2⟩, h3, h4⟩ := h
  by_cases hd : downZ s m = true
  · have e : textZ s m = 45 :: txtU (-s) (-m) := by unfold textZ; rw [if_pos hd]
    have := u1 hd
    obtain ⟨p1, p2, p3, p4, p5⟩ := txt_parts (u := -s) (v := -m) (by omega) (by omega)
    unfold pz
    have hl : (textZ s m).length ≤ 300 := by rw [e, List.length_cons]; omega
    rw [if_neg (by rw [e]; simp), if_neg (by omega)]
    have hc : cutM (textZ s m) = (txtU (-s) (-m), true) := by rw [e]; rfl
    rw [hc]
    simp only [p1, p2, p4]
    have := pz_txt (textZ s m) true (u := -s) (v := -m) (by omega) (by omega) (by simp)
    rw [this]; simp
  · have e : textZ s m = txtU s m := by unfold textZ; rw [if_neg hd]
    have := u2 (by simpa using hd)
    obtain ⟨p1, p2, ⟨c, r, p3, p3'⟩, p4, p5⟩ := txt_parts (u := s) (v := m) (by omega) (by omega)
    unfold pz
    rw [if_neg (by rw [e, p3]; simp), if_neg (by rw [e]; omega)]
    have hc : cutM (textZ s m) = (txtU s m, false) := by
      rw [e, p3]; unfold cutM; simp only []; rw [if_neg p3']
    rw [hc]
    simp only [p1, p2, p4]
    have := pz_txt (textZ s m) false (u := s) (v := m) (by omega) (by omega) (by simp)
    rw [this]; simp
theorem pz_sound {s : Bs} {i : Int × Int} (h : pz s = (i, 0)) : isI i.1 i.2 ∧ textZ i.1 i.2 = s := by
  unfold pz at h
  split at h
  · have := (Prod.mk.inj h).2; omega
  · split at h
    · have := (Prod.mk.inj h).2; omega
    · split at h
      · unfold pzI at h
        split at h
        · have := (Prod.mk.inj h).2; omega
        · split at h
          · split at h
            · rename_i hc; obtain ⟨rfl, _⟩ := Prod.mk.inj h; exact hc
            · have := (Prod.mk.inj h).2; omega
          · split at h
            · rename_i hc; obtain ⟨rfl, _⟩ := Prod.mk.inj h; exact hc
            · have := (Prod.mk.inj h).2; omega
      · have := (Prod.mk.inj h).2; omega
/-- A text of which no interval is the name. -/
theorem pz_none {s : Bs} (h0 : s ≠ []) (h1 : s.length ≤ 300) (hn : ∀ a b, isI a b → textZ a b ≠ s) : pz s = bad13 := by
  have hx : ∀ x : (Int × Int) × Int, pz s = x → x.2 = 0 ∨ x = bad13 := by
    intro x hx
    unfold pz at hx
    rw [if_neg h0, if_neg (by omega)] at hx
    split at hx
    · unfold pzI at hx
      split at hx
      · exact .inr hx.symm
      · split at hx
        · split at hx
          · subst hx; exact .inl rfl
          · exact .inr hx.symm
        · split at hx
          · subst hx; exact .inl rfl
          · exact .inr hx.symm
    · exact .inr hx.symm
  rcases hx _ rfl with h | h
  · exfalso
    obtain ⟨k1, k2⟩ := pz_sound (s := s) (i := (pz s).1) (by rw [← h])
    exact hn _ _ k1 k2
  · exact h
/-- How the reference reads. -/
def isD (b : UInt8) : Bool := decide (48 ≤ b.toNat) && decide (b.toNat ≤ 57)
/-- The digits at the end. -/
def tailD (s : Bs) : Bs := (s.reverse.takeWhile isD).reverse
def numR : Int → Bs → Int
  | n, [] => n
  | n, c :: r => if n < 1000 then numR (10 * n + ((c.toNat : Int) - 48)) r else n
def candL (n : Int) : Nat → List (Int × Int)
  | 0 => []
  | r + 1 => (1 - n, 140 - (r : Int)) :: (n - 1, 140 - (r : Int)) :: candL n r
theorem mem_cand {n a b : Int} : ∀ {r : Nat}, (a, b) ∈ candL n r ↔ (140 - (r : Int) < b ∧ b ≤ 140) ∧ (a = 1 - n ∨ a = n - 1)
  | 0 => by simp [candL]; omega
  | r + 1 => by
    simp only [candL, List.mem_cons, Prod.mk.injEq, mem_cand (r := r)]
    omega
def candR (n : Int) : List (Int × Int) := candL n 281
def rz (s : Bs) : (Int × Int) × Int :=
  if s = [] then ((0, 0), 4) else if 300 < s.length then ((0, 0), 5)
  else if numR 0 (tailD s) < 1 ∨ 78 < numR 0 (tailD s) then bad13
  else match (candR (numR 0 (tailD s))).find? fun i => decide (textZ i.1 i.2 = s) with
    | some i => (i, 0)
    | none => bad13
theorem tail_txt {u v : Int} (hu : 0 ≤ u ∧ u ≤ 77) (hv : -140 ≤ v ∧ v ≤ 140) (pre : Bs) : tailD (pre ++ txtU u v) = d100 (u + 1).toNat := by
  obtain ⟨b1, b2, b3, b4⟩ := back hu hv
  have hc : isD (letQ (quaU u v).1) = false := by
    rcases b4 with e | e | e | e | e <;> rw [e] <;> decide
  have h1 := List.all_eq_true.1 d100_head (u + 1).toNat (by simp; omega)
  have hall : ∀ b ∈ (d100 (u + 1).toNat).reverse, isD b = true := by
    intro b hb
    rw [List.mem_reverse] at hb
    split at h1
    · cases h1
    · rename_i c r e
      rw [e] at hb
      simp only [Bool.and_eq_true] at h1
      exact List.all_eq_true.1 h1.2.2 b hb
  obtain ⟨k, hk⟩ : ∃ k, tmsU u v = k + 1 := ⟨tmsU u v - 1, by omega⟩
  unfold tailD txtU
  rw [hk, List.replicate_succ', List.reverse_append, List.reverse_append, List.reverse_append, List.reverse_singleton, List.append_assoc, List.append_assoc, List.takeWhile_append_of_pos hall, List.singleton_append, List.takeWhile_cons, if_neg (by rw [hc]; simp), List.append_nil, List.reverse_reverse]
theorem num_d100 : ((List.range 78).all fun n => decide (numR 0 (d100 (n + 1)) = ((n : Int) + 1))) = true := by decide +kernel
theorem rz_text {s m : Int} (h : isI s m) : numR 0 (tailD (textZ s m)) = (if downZ s m = true then -s else s) + 1 ∧ 1 ≤ (if downZ s m = true then -s else s) + 1 ∧ (if downZ s m = true then -s else s) + 1 ≤ 78 := by
  obtain ⟨u1, u2⟩ := up_range h
  obtain ⟨⟨h1, h2⟩, h3, h4⟩ := h
  have num : ∀ u : Int, 0 ≤ u ∧ u ≤ 77 → numR 0 (d100 (u + 1).toNat) = u + 1 := fun u hu => by
    have h2 := List.all_eq_true.1 num_d100 u.toNat (by simp; omega)
    have h2 := of_decide_eq_true h2
    rw [show u.toNat + 1 = (u + 1).toNat by omega, show ((u.toNat : Nat) : Int) + 1 = u + 1 by omega] at h2
    exact h2
  by_cases hd : downZ s m = true
  · have := u1 hd
    unfold textZ
    simp only [if_pos hd]
    have := tail_txt (u := -s) (v := -m) (by omega) (by omega) [45]
    rw [List.singleton_append] at this
    rw [this]
    exact ⟨num _ (by omega), by omega, by omega⟩
  · have := u2 (by simpa using hd)
    unfold textZ
    simp only [if_neg hd]
    have := tail_txt (u := s) (v := m) (by omega) (by omega) []
    rw [List.nil_append] at this
    rw [this]
    exact ⟨num _ (by omega), by omega, by omega⟩
theorem rz_pz (s : Bs) : rz s = pz s := by
  by_cases h0 : s = []
  · unfold rz pz; rw [if_pos h0, if_pos h0]
  by_cases h1 : 300 < s.length
  · unfold rz pz; rw [if_neg h0, if_neg h0, if_pos h1, if_pos h1]
  by_cases hex : ∃ a b, isI a b ∧ textZ a b = s
  · obtain ⟨a, b, hi, rfl⟩ := hex
    rw [pz_text hi]
    obtain ⟨n1, n2, n3⟩ := rz_text hi
    obtain ⟨⟨k1, k2⟩, k3, k4⟩ := id hi
    unfold rz
    rw [if_neg h0, if_neg h1, n1, if_neg (by omega)]
    have hmem : (a, b) ∈ candR ((if downZ a b = true then -a else a) + 1) := by
      unfold candR
      rw [mem_cand]
      split <;> omega
    cases hf : (candR ((if downZ a b = true then -a else a) + 1)).find? fun i => decide (textZ i.1 i.2 = textZ a b) with
    | none =>
      have := List.find?_eq_none.1 hf _ hmem
      simp at this
    | some i =>
      have e : textZ i.1 i.2 = textZ a b := by simpa using List.find?_some hf
      have hm := List.mem_of_find?_eq_some hf
      have hi2 : isI i.1 i.2 := by
        obtain ⟨i1, i2⟩ := i
        unfold candR at hm
        rw [mem_cand] at hm
        exact ⟨⟨by simp only []; omega, by simp only []; omega⟩, by simp only []; omega, by simp only []; omega⟩
      have := pz_text hi2
      rw [e, pz_text hi] at this
      have : (a, b) = i := (Prod.mk.inj this).1
      rw [this]
  · rw [pz_none h0 (by omega) (fun a b hi e => hex ⟨a, b, hi, e⟩)]
    unfold rz
    rw [if_neg h0, if_neg h1]
    split
    · rfl
    · rename_i hn
      cases hf : (candR (numR 0 (tailD s))).find? fun i => decide (textZ i.1 i.2 = s) with
      | none => rfl
      | some i =>
        exfalso
        have e : textZ i.1 i.2 = s := by simpa using List.find?_some hf
        have hm := List.mem_of_find?_eq_some hf
        refine hex ⟨i.1, i.2, ?_, e⟩
        obtain ⟨i1, i2⟩ := i
        unfold candR at hm
        rw [mem_cand] at hm
        exact ⟨⟨by simp only []; omega, by simp only []; omega⟩, by simp only []; omega, by simp only []; omega⟩
/-- Where the digits at the end begin, found from behind. -/
def atR (s : Bs) : Nat → Nat
  | 0 => 0
  | a + 1 => if isD (s.getD a 0) = true then atR s a else a + 1
theorem atR_le (s : Bs) : ∀ a, atR s a ≤ a
  | 0 => Nat.le_refl _
  | a + 1 => by
    have := atR_le s a
    unfold atR; split <;> omega
theorem atR_tail (s : Bs) : ∀ a, a ≤ s.length → (s.take a).drop (atR s a) = tailD (s.take a)
  | 0, _ => by simp [atR, tailD]
  | a + 1, h => by
    have ih := atR_tail s a (by omega)
    have hl := atR_le s a
    have e : s.take (a + 1) = s.take a ++ [s.getD a 0] := by
      rw [List.take_add_one]; simp [show a < s.length by omega]
    have el : (s.take a).length = a := by simp; omega
    rw [e]
    unfold tailD atR
    rw [List.reverse_append, List.reverse_singleton, List.singleton_append, List.takeWhile_cons]
    split
    · rename_i hd
      rw [List.reverse_cons, List.drop_append_of_le_length (by omega), ih]
      rfl
    · rename_i hd
      rw [List.reverse_nil, List.drop_of_length_le (by simp; omega)]
theorem tail_all {p : UInt8 → Bool} : ∀ (r : Bs), ∀ b ∈ r.takeWhile p, p b = true
  | [], b, h => by simp at h
  | c :: r, b, h => by
    by_cases hc : p c = true
    · simp [hc] at h
      rcases h with rfl | h
      · exact hc
      · exact tail_all r b h
    · simp [hc] at h
theorem tail_digits {s : Bs} : ∀ b ∈ tailD s, isD b = true := fun b hb => by
  unfold tailD at hb
  rw [List.mem_reverse] at hb
  exact tail_all _ b hb
end Go.Proofs.YtmmpjnjdddaldaaGreatDoor
