/- What the printer writes, the reader reads back: plain. -/
import Derived.Test.YtkckpmcpmngiiaaGreatDoorR2
set_option linter.unusedSimpArgs false
set_option linter.unusedVariables false
set_option maxRecDepth 1000000
set_option maxHeartbeats 1000000
namespace Go.Proofs.YtkckpmcpmngiiaaGreatDoor
open Go Go.Pm Go.RowKit
/-- The reader, without an error, ahead of a text, with so many elements. -/
structure On (s : Bs) (g : Rd) (t : Bs) (k : Nat) : Prop where
  e : g.e = 0
  le : g.at' ≤ s.length
  dr : s.drop g.at' = t
  n : g.n = k
theorem On.len {s t : Bs} {g : Rd} {k : Nat} (h : On s g t k) : g.at' + t.length = s.length := by
  have h1 := congrArg List.length h.dr
  rw [List.length_drop] at h1
  have := h.le
  omega
theorem On.move {s a t : Bs} {g : Rd} {k : Nat} (h : On s g (a ++ t) k) : On s ⟨g.at' + a.length, g.n, g.e⟩ t k := by
  refine ⟨h.e, ?_, ?_, h.n⟩
  · have := h.len; rw [List.length_append] at this; show g.at' + a.length ≤ _; omega
  · show s.drop (g.at' + a.length) = t
    rw [← List.drop_drop, h.dr, List.drop_left]
theorem On.head {s t : Bs} {c : UInt8} {g : Rd} {k : Nat} (h : On s g (c :: t) k) : s[g.at']? = some c := by
  have h1 := congrArg (·[0]?) h.dr
  simpa [List.getElem?_drop] using h1
theorem tw_app {p : UInt8 → Bool} {a t : Bs} (h : ∀ c ∈ a, p c = true) (ht : ∀ c r, t = c :: r → p c = false) : (a ++ t).takeWhile p = a := by
  rw [List.takeWhile_append_of_pos h]
  cases t with
  | nil => simp
  | cons c r => rw [List.takeWhile_cons, if_neg (by simp [ht c r rfl])]; simp
theorem dw_app {p : UInt8 → Bool} {a t : Bs} (h : ∀ c ∈ a, p c = true) (ht : ∀ c r, t = c :: r → p c = false) : (a ++ t).dropWhile p = t := by
  rw [List.dropWhile_append_of_pos h]
  cases t with
  | nil => simp
  | cons c r => rw [List.dropWhile_cons, if_neg (by simp [ht c r rfl])]
theorem skip_on {p : UInt8 → Bool} {s a t : Bs} {g : Rd} {k : Nat} (h : On s g (a ++ t) k) (ha : ∀ c ∈ a, p c = true) (ht : ∀ c r, t = c :: r → p c = false) : skip p s g.at' = g.at' + a.length := by
  unfold skip; rw [h.dr, tw_app ha ht]
theorem On.blanks {s a t : Bs} {g : Rd} {k : Nat} (h : On s g (a ++ t) k) (ha : ∀ c ∈ a, bB blaZ c = true) (ht : ∀ c r, t = c :: r → bB blaZ c = false) :
    On s (g.blanks s) t k ∧ (g.blanks s).at' = g.at' + a.length := by
  unfold Rd.blanks
  rw [if_pos h.e, skip_on h ha ht]
  exact ⟨h.move, rfl⟩
theorem On.blanks0 {s t : Bs} {c : UInt8} {g : Rd} {k : Nat} (h : On s g (c :: t) k) (hc : bB blaZ c = false) : On s (g.blanks s) (c :: t) k :=
  (On.blanks (a := []) h (by simp) (fun c' r e => by cases e; exact hc)).1
theorem On.expect {s t : Bs} {c : UInt8} {g : Rd} {k n : Nat} (h : On s g (c :: t) k) (hn : c.toNat = n) : On s (g.expect s n) t k := by
  unfold Rd.expect
  rw [if_neg (by simp [h.e]), h.head]
  simp only []
  rw [if_pos hn]
  exact On.move (a := [c]) h
theorem On.sees {s t : Bs} {g : Rd} {k : Nat} (h : On s g t k) (p : Bs) : g.sees s p = hasPre t p := by
  unfold Rd.sees; rw [h.dr, h.e]; simp
theorem hasPre_nil (t : Bs) : hasPre t [] = true := by simp [hasPre]
theorem hasPre_cons (a b : UInt8) (t p : Bs) : hasPre (a :: t) (b :: p) = (decide (a = b) && hasPre t p) := by
  unfold hasPre
  by_cases h : a = b <;> simp [h]
theorem hasPre_none (b : UInt8) (p : Bs) : hasPre [] (b :: p) = false := by simp [hasPre]
theorem name_parts {nm : Bs} (h : isName nm = true) : ∃ c r, nm = c :: r ∧ nm.length ≤ 32 ∧ bB begZ c = true ∧ ∀ x ∈ nm, bB inZ x = true := by
  unfold isName at h
  split at h
  · cases h
  · rename_i c r
    simp only [Bool.and_eq_true, decide_eq_true_eq, List.all_eq_true] at h
    exact ⟨c, r, rfl, h.1.1, h.1.2, h.2⟩
theorem On.name {s nm t : Bs} {g : Rd} {k : Nat} (h : On s g (nm ++ t) k) (hn : isName nm = true) (ht : ∀ c r, t = c :: r → bB inZ c = false) : (g.name s).1 = nm ∧ On s (g.name s).2 t k := by
  obtain ⟨c, r, e, -, hb, hi⟩ := name_parts hn
  have h0 : On s g (c :: (r ++ t)) k := by rw [e] at h; exact h
  unfold Rd.name
  rw [if_neg (by simp [h.e]), h0.head]
  simp only []
  rw [if_pos hb, skip_on h hi ht]
  refine ⟨?_, h.move⟩
  show (s.take (g.at' + nm.length)).drop g.at' = nm
  rw [List.drop_take, h.dr, Nat.add_sub_cancel_left, List.take_left]
/-! ## Characters -/
theorem esc_cons (b : UInt8) (x : Bs) : esc (b :: x) = esc1 b ++ esc x := by simp [esc]
theorem esc_ge : ∀ x : Bs, x.length ≤ (esc x).length
  | [] => by simp [esc]
  | b :: x => by
    rw [esc_cons, List.length_append, List.length_cons]
    have := esc_ge x
    have : 1 ≤ (esc1 b).length := by
      unfold esc1
      repeat' split
      all_goals simp
    omega
/-- A byte as it is written: itself, or one of the entities. -/
theorem esc1_or (b : UInt8) : (esc1 b = [b] ∧ b.toNat ≠ 38 ∧ b.toNat ≠ 60 ∧ b.toNat ≠ 62 ∧ b.toNat ≠ 34 ∧ b.toNat ≠ 9 ∧ b.toNat ≠ 10) ∨
    ∃ (i : Nat) (r : Bs), ents[i]? = some (esc1 b, [b]) ∧ esc1 b = 38 :: r ∧ ∀ (s : Bs) (g : Rd) (t : Bs) (k : Nat), On s g (esc1 b ++ t) k → entI s g ents 0 = (i : Int) := by
  have key : ∀ c : UInt8, b.toNat = c.toNat → b = c := fun c h => UInt8.toNat_inj.1 h
  by_cases h1 : b.toNat = 38
  · obtain rfl := key 38 h1
    exact .inr ⟨2, [97, 109, 112, 59], rfl, rfl, fun s g t k h => by
      rw [show esc1 38 = [38, 97, 109, 112, 59] from rfl] at h
      simp [entI, ents, h.sees, hasPre_cons, hasPre_nil]⟩
  by_cases h2 : b.toNat = 60
  · obtain rfl := key 60 h2
    exact .inr ⟨0, [108, 116, 59], rfl, rfl, fun s g t k h => by
      rw [show esc1 60 = [38, 108, 116, 59] from rfl] at h
      simp [entI, ents, h.sees, hasPre_cons, hasPre_nil]⟩
  by_cases h3 : b.toNat = 62
  · obtain rfl := key 62 h3
    exact .inr ⟨1, [103, 116, 59], rfl, rfl, fun s g t k h => by
      rw [show esc1 62 = [38, 103, 116, 59] from rfl] at h
      simp [entI, ents, h.sees, hasPre_cons, hasPre_nil]⟩
  by_cases h4 : b.toNat = 34
  · obtain rfl := key 34 h4
    exact .inr ⟨3, [113, 117, 111, 116, 59], rfl, rfl, fun s g t k h => by
      rw [show esc1 34 = [38, 113, 117, 111, 116, 59] from rfl] at h
      simp [entI, ents, h.sees, hasPre_cons, hasPre_nil]⟩
  by_cases h5 : b.toNat = 9
  · obtain rfl := key 9 h5
    exact .inr ⟨5, [35, 57, 59], rfl, rfl, fun s g t k h => by
      rw [show esc1 9 = [38, 35, 57, 59] from rfl] at h
      simp [entI, ents, h.sees, hasPre_cons, hasPre_nil]⟩
  by_cases h6 : b.toNat = 10
  · obtain rfl := key 10 h6
    exact .inr ⟨6, [35, 49, 48, 59], rfl, rfl, fun s g t k h => by
      rw [show esc1 10 = [38, 35, 49, 48, 59] from rfl] at h
      simp [entI, ents, h.sees, hasPre_cons, hasPre_nil]⟩
  exact .inl ⟨by unfold esc1; simp [h1, h2, h3, h4, h5, h6], h1, h2, h3, h4, h5, h6⟩
theorem chars_on {s t : Bs} {c : UInt8} {en k : Nat} (hc : c.toNat = en) (hen : en = 34 ∨ en = 60) : ∀ (x : Bs) (f : Nat) (acc : Bs) (g : Rd), On s g (esc x ++ c :: t) k → x.length < f →
    (g.chars s en f acc).1 = acc ++ x ∧ On s (g.chars s en f acc).2 (c :: t) k
  | x, 0, acc, g, h, hf => by omega
  | [], f + 1, acc, g, h, hf => by
    have h : On s g (c :: t) k := h
    simp only [Rd.chars]
    rw [h.head]
    simp only []
    rw [if_pos hc]
    exact ⟨by simp, h⟩
  | b :: x, f + 1, acc, g, h, hf => by
    rw [esc_cons, List.append_assoc] at h
    simp only [List.length_cons] at hf
    rcases esc1_or b with ⟨h1, n1, n2, n3, n4, n5, n6⟩ | ⟨i, r, hi, h1, hI⟩
    · rw [h1] at h
      have h2 : On s g (b :: (esc x ++ c :: t)) k := h
      have ne : ¬ b.toNat = en := by rcases hen with rfl | rfl <;> assumption
      have ih := chars_on hc hen x f (acc ++ [b]) _ h.move (by omega)
      simp only [Rd.chars]
      rw [h2.head]
      simp only []
      rw [if_neg ne, if_neg n2, if_neg n1]
      rw [List.append_assoc] at ih
      exact ih
    · have hI := hI s g _ k h
      have h2 : On s g (38 :: (r ++ (esc x ++ c :: t))) k := by rw [h1] at h; exact h
      have ih := chars_on hc hen x f (acc ++ [b]) _ h.move (by omega)
      simp only [Rd.chars]
      rw [h2.head]
      simp only []
      rw [if_neg (by rcases hen with rfl | rfl <;> decide), if_neg (by decide), if_pos (by decide), hI, if_neg (by omega), Int.toNat_natCast, hi]
      simp only []
      rw [List.append_assoc] at ih
      exact ih
theorem On.charsT {s t x : Bs} {c : UInt8} {g : Rd} {en k : Nat} (h : On s g (esc x ++ c :: t) k) (hc : c.toNat = en) (hen : en = 34 ∨ en = 60) : (g.charsT s en).1 = x ∧ On s (g.charsT s en).2 (c :: t) k := by
  unfold Rd.charsT
  rw [if_neg (by simp [h.e])]
  have := h.len
  rw [List.length_append] at this
  have := esc_ge x
  exact chars_on hc hen x _ [] g h (by omega)
/-! ## Attributes -/
theorem beg_not {c : UInt8} (h : bB begZ c = true) : bB blaZ c = false ∧ c ≠ 47 ∧ c ≠ 62 ∧ c ≠ 33 := by
  have key : ∀ d : UInt8, bB begZ d = false → c ≠ d := fun d hd e => by subst e; rw [h] at hd; cases hd
  refine ⟨?_, key 47 (by decide), key 62 (by decide), key 33 (by decide)⟩
  have := c.toNat_lt
  unfold bB begZ at h
  unfold bB blaZ
  simp only [decide_eq_true_eq, decide_eq_false_iff_not] at *
  omega
theorem dataE_zero {x : Bs} (h : dataE x = 0) : x.length ≤ 4096 ∧ x.all (bB perZ) = true := by
  unfold dataE at h
  split at h
  · cases h
  · split at h
    · exact ⟨by omega, by assumption⟩
    · cases h
theorem attrE_cons {pre l : List (Bs × Bs)} {a : Bs × Bs} (h : attrE pre (a :: l) = 0) : isName a.1 = true ∧ hasA pre a.1 = false ∧ dataE a.2 = 0 ∧ attrE (pre ++ [a]) l = 0 := by
  unfold attrE at h
  split at h
  · cases h
  · rename_i h1
    split at h
    · cases h
    · rename_i h2
      split at h
      · rename_i h3; exact absurd h h3
      · rename_i h3
        exact ⟨by simpa using h1, by simpa using h2, by omega, h⟩
theorem prAs_cons (a : Bs × Bs) (l : List (Bs × Bs)) : prAs (a :: l) = prA a ++ prAs l := by simp [prAs]
theorem attrs_on {s t : Bs} {k : Nat} {d : UInt8} (hd : d = 47 ∨ d = 62) : ∀ (l : List (Bs × Bs)) (f : Nat) (acc : List (Bs × Bs)) (g : Rd), On s g (prAs l ++ d :: t) k → l.length < f → attrE acc l = 0 → acc.length + l.length ≤ 32 →
    ∃ g', g.attrsN s f acc = some (acc ++ l, g', if d = 47 then 1 else 2) ∧ On s g' (d :: t) k
  | l, 0, acc, g, h, hf, _, _ => by omega
  | [], f + 1, acc, g, h, hf, _, _ => by
    have h : On s g (d :: t) k := h
    have hb := h.blanks0 (by rcases hd with rfl | rfl <;> decide)
    refine ⟨g.blanks s, ?_, hb⟩
    simp only [Rd.attrsN]
    rw [if_neg (by simp [h.e]), hb.sees, hb.sees, hasPre_cons, hasPre_cons, hasPre_nil]
    rcases hd with rfl | rfl <;> simp
  | a :: l, f + 1, acc, g, h, hf, hE, hl => by
    obtain ⟨e1, e2, e3, e4⟩ := attrE_cons hE
    obtain ⟨c, r, ec, hlen, hbeg, hin⟩ := name_parts e1
    obtain ⟨nb, n47, n62, -⟩ := beg_not hbeg
    have d3 := dataE_zero e3
    simp only [List.length_cons] at hf hl
    have h0 : On s g ([32] ++ (a.1 ++ (61 :: 34 :: (esc a.2 ++ 34 :: (prAs l ++ d :: t))))) k := by
      have e : prAs (a :: l) ++ d :: t = [32] ++ (a.1 ++ (61 :: 34 :: (esc a.2 ++ 34 :: (prAs l ++ d :: t)))) := by
        rw [prAs_cons]; unfold prA; simp
      rw [← e]; exact h
    obtain ⟨hB, hat⟩ := h0.blanks (by decide) (fun c' r' e => by rw [ec] at e; cases e; exact nb)
    have hB0 : On s (g.blanks s) (c :: (r ++ (61 :: 34 :: (esc a.2 ++ 34 :: (prAs l ++ d :: t))))) k := by rw [ec] at hB; exact hB
    have hlt := hB0.len
    simp only [List.length_cons, List.length_nil] at hlt hat
    obtain ⟨m1, m2⟩ := hB.name e1 (fun c' r' e => by cases e; decide)
    have q2 : On s (Rd.attr2 s ((g.blanks s).name s).2) (34 :: (esc a.2 ++ 34 :: (prAs l ++ d :: t))) k :=
      ((m2.blanks0 (by decide)).expect (n := 61) (by decide)).blanks0 (by decide)
    obtain ⟨q3, q4⟩ := (q2.expect (n := 34) (by decide)).charsT (en := 34) (by decide) (.inl rfl)
    have a1 : (g.blanks s).attr1 s acc = ((g.blanks s).name s).2 := by
      unfold Rd.attr1
      rw [m1, if_neg (by omega), if_neg (by omega), if_neg (by simp [e2])]
    have a3 : (Rd.attr3 s ((g.blanks s).name s).2) = ((Rd.attr2 s ((g.blanks s).name s).2).expect s 34).charsT s 34 := rfl
    have q5 : On s (Rd.attr4 s ((g.blanks s).name s).2) (prAs l ++ d :: t) k := by
      unfold Rd.attr4
      rw [a3, q3, if_neg (by omega)]
      exact q4.expect (by decide)
    obtain ⟨g', i1, i2⟩ := attrs_on hd l f (acc ++ [a]) _ q5 (by omega) e4 (by simp only [List.length_append, List.length_cons, List.length_nil]; omega)
    refine ⟨g', ?_, i2⟩
    simp only [Rd.attrsN]
    rw [if_neg (by simp [h.e]), hB0.sees, hB0.sees, hasPre_cons, hasPre_cons]
    rw [if_neg (by simp [n47]), if_neg (by simp [n62]), if_neg (by omega), if_neg (by omega), a1, m1, a3, q3, i1]
    simp
end Go.Proofs.YtkckpmcpmngiiaaGreatDoor
