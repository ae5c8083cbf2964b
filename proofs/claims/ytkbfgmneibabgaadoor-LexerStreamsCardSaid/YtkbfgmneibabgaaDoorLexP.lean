/- Plain: tokens of a text, by their definition. No program in sight. -/
set_option linter.unusedSimpArgs false
set_option linter.unusedVariables false
namespace LexP
abbrev Bs := List UInt8
abbrev z (c : UInt8) : Int := (c.toNat : Int)
def letZ (n : Int) : Bool := (decide (97 ≤ n) && decide (n ≤ 122)) || (decide (65 ≤ n) && decide (n ≤ 90))
def digZ (n : Int) : Bool := decide (48 ≤ n) && decide (n ≤ 57)
def blkZ (n : Int) : Bool := decide (n = 32) || (decide (n = 9) || (decide (n = 10) || decide (n = 13)))
def inwZ (n : Int) : Bool := letZ n || (digZ n || decide (n = 95))
def stdZ (n : Int) : Bool := decide (32 ≤ n) && (decide (n ≠ 127) && (decide (n ≠ 34) && decide (n ≠ 92)))
def hexZ (n : Int) : Int := if digZ n = true then n - 48 else if 97 ≤ n ∧ n ≤ 102 then n - 87 else -1
def signs : Bs := [33, 35, 36, 38, 39, 40, 41, 42, 43, 44, 45, 46, 47, 58, 59, 60, 61, 62, 63, 64, 91, 92, 93, 94, 95, 123, 124, 125, 126]
def sgnZ (n : Int) : Bool := signs.any fun b => decide (z b = n)
/-- How many bytes of blanks and comments there are; the mark: within a comment. -/
def skp : Bool → Bs → Nat
  | _, [] => 0
  | true, c :: r => if z c = 10 then skp false r + 1 else skp true r + 1
  | false, c :: r => if z c = 37 then skp true r + 1 else if blkZ (z c) = true then skp false r + 1 else 0
def wrd (r : Bs) : Nat := (r.takeWhile fun c => inwZ (z c)).length
def dgs (r : Bs) : Nat := (r.takeWhile fun c => digZ (z c)).length
def valZ (r : Bs) : Int := r.foldl (fun a c => 10 * a + (z c - 48)) 0
inductive ER
  | wrong (n : Nat)
  | ok (n : Nat) (b : UInt8)
def escX : Bs → ER
  | [] => .wrong 1
  | a :: r => if hexZ (z a) < 0 then .wrong 1 else match r with
    | [] => .wrong 2
    | b :: _ => if hexZ (z b) < 0 then .wrong 2 else .ok 3 (UInt8.ofNat (16 * hexZ (z a) + hexZ (z b)).toNat)
/-- What stands behind a backslash. -/
def escL : Bs → ER
  | [] => .wrong 0
  | c :: r => if z c = 110 then .ok 1 10 else if z c = 116 then .ok 1 9 else if z c = 92 then .ok 1 92 else if z c = 34 then .ok 1 34 else if z c = 120 then escX r else .wrong 0
inductive SR
  | short
  | bad (o : Nat)
  | ok (n : Nat) (bs : Bs)
/-- A string from an offset on, of which some bytes are known. -/
def strA : Nat → Nat → Bs → Bs → SR
  | 0, _, _, _ => .short
  | _ + 1, _, _, [] => .short
  | f + 1, i, acc, c :: r => if z c = 34 then .ok (i + 1) acc else if stdZ (z c) = true then strA f (i + 1) (acc ++ [c]) r else if z c = 92 then (match escL r with
    | .wrong n => if n = r.length then .short else .bad (i + 1 + n)
    | .ok n b => strA f (i + 1 + n) (acc ++ [b]) (r.drop n)) else .bad i
inductive Res
  | err (o : Nat) (e : Int)
  | tok (k : Int) (n : Nat) (v : Int) (bs : Bs)
def strT (r : Bs) : Res := match strA (r.length + 1) 1 [] r with
  | .short => .err 0 4
  | .bad o => .err o 6
  | .ok n bs => if 4096 < bs.length then .err 0 5 else .tok 3 n 0 bs
/-- The token at the beginning. -/
def tokL : Bs → Res
  | [] => .err 0 0
  | c :: r => if letZ (z c) = true then (if 64 < wrd (c :: r) then .err 0 5 else .tok 1 (wrd (c :: r)) 0 [])
    else if digZ (z c) = true then (if 15 < dgs (c :: r) then .err 0 5 else .tok 2 (dgs (c :: r)) (valZ ((c :: r).take (dgs (c :: r)))) [])
    else if z c = 34 then strT r
    else if sgnZ (z c) = true then .tok 4 1 0 [] else .err 0 6
structure Tk where
  kind : Int
  text : Bs
  val : Int
  bytes : Bs
  pos : Nat
  joined : Bool
  deriving DecidableEq
abbrev Core := Int × Bs × Int × Bs × Bool
def Tk.core (t : Tk) : Core := (t.kind, t.text, t.val, t.bytes, t.joined)
/-- All tokens from an offset on, or the offset of the error and the error. -/
def scanA : Nat → List Tk → Nat → Bs → Except (Nat × Int) (List Tk)
  | 0, _, _, _ => .error (0, 0)
  | f + 1, acc, pos, rest => match rest.drop (skp false rest) with
    | [] => .ok (acc ++ [⟨0, [], 0, [], pos + skp false rest, decide (skp false rest = 0) && !acc.isEmpty⟩])
    | c :: r => match tokL (c :: r) with
      | .err o e => .error (pos + skp false rest + o, e)
      | .tok kd n v bs => scanA f (acc ++ [⟨kd, (c :: r).take n, v, bs, pos + skp false rest, decide (skp false rest = 0) && !acc.isEmpty⟩]) (pos + skp false rest + n) ((c :: r).drop n)
def scan (s : Bs) : Except (Nat × Int) (List Tk) := scanA (s.length + 1) [] 0 s
/-- Scanning, places apart; the mark: at the beginning. -/
inductive Sc : Bool → Bs → List Core → Prop
  | fin {fi : Bool} {rest : Bs} (h : rest.drop (skp false rest) = []) : Sc fi rest [(0, [], 0, [], decide (skp false rest = 0) && !fi)]
  | tok {fi : Bool} {rest : Bs} {c : UInt8} {r : Bs} {kd : Int} {n : Nat} {v : Int} {bs : Bs} {l : List Core} (hd : rest.drop (skp false rest) = c :: r) (ht : tokL (c :: r) = .tok kd n v bs) (h : Sc false ((c :: r).drop n) l) :
      Sc fi rest ((kd, (c :: r).take n, v, bs, decide (skp false rest = 0) && !fi) :: l)
/-- What may follow a token. -/
def Follow (kd : Int) (r : Bs) : Prop := ∀ d s, r = d :: s → (kd = 1 → inwZ (z d) = false) ∧ (kd = 2 → digZ (z d) = false)
theorem take_while_len {p : UInt8 → Bool} : ∀ (r : Bs), r.take (r.takeWhile p).length = r.takeWhile p
  | [] => rfl
  | c :: r => by
    by_cases h : p c = true
    · simp [h, take_while_len r]
    · simp [h]
theorem take_while_drop {p : UInt8 → Bool} : ∀ (r : Bs) (d : UInt8) (s : Bs), r.drop (r.takeWhile p).length = d :: s → p d = false
  | [], d, s, h => by simp at h
  | c :: r, d, s, h => by
    by_cases hc : p c = true
    · simp [hc] at h
      exact take_while_drop r d s h
    · simp [hc] at h
      rw [← h.1]; simpa using hc
theorem take_while_more {p : UInt8 → Bool} : ∀ (r r' : Bs), (∀ d s, r' = d :: s → p d = false) → (r.takeWhile p ++ r').takeWhile p = r.takeWhile p
  | [], r', h => by
    cases r' with
    | nil => rfl
    | cons d s => simp [h d s rfl]
  | c :: r, r', h => by
    by_cases hc : p c = true
    · simp [hc, take_while_more r r' h]
    · simp [hc]
      cases r' with
      | nil => rfl
      | cons d s => simp [h d s rfl]
theorem take_while_le {p : UInt8 → Bool} : ∀ (r : Bs), (r.takeWhile p).length ≤ r.length
  | [] => by simp
  | c :: r => by
    have := take_while_le (p := p) r
    by_cases hc : p c = true
    · simp [hc]; exact this
    · simp [hc]
theorem take_while_all {p : UInt8 → Bool} : ∀ (r : Bs), ∀ b ∈ r.takeWhile p, p b = true
  | [], b, h => by simp at h
  | c :: r, b, h => by
    by_cases hc : p c = true
    · simp [hc] at h
      rcases h with rfl | h
      · exact hc
      · exact take_while_all r b h
    · simp [hc] at h
/-- Escapes: what they take is all that they look at. -/
theorem esc_local {r : Bs} {n : Nat} {b : UInt8} (h : escL r = .ok n b) : 1 ≤ n ∧ n ≤ r.length ∧ (∀ r', escL (r.take n ++ r') = .ok n b) ∧ ∀ x ∈ r.take n, z x ≠ 10 := by
  cases r with
  | nil => cases h
  | cons c r =>
    have hx : ∀ k : UInt8, z c ≠ 10 → ∀ x ∈ (c :: r).take 1, z x ≠ 10 := fun k hc x hx => by
      simp at hx; subst hx; exact hc
    simp only [escL] at h
    split at h
    · rename_i hc; cases h; exact ⟨by omega, by simp, fun r' => by simp only [List.take_succ_cons, List.cons_append, escL]; rw [if_pos hc], hx c (by omega)⟩
    · split at h
      · rename_i h0 hc; cases h; exact ⟨by omega, by simp, fun r' => by simp only [List.take_succ_cons, List.cons_append, escL]; rw [if_neg h0, if_pos hc], hx c (by omega)⟩
      · split at h
        · rename_i h0 h1 hc; cases h; exact ⟨by omega, by simp, fun r' => by simp only [List.take_succ_cons, List.cons_append, escL]; rw [if_neg h0, if_neg h1, if_pos hc], hx c (by omega)⟩
        · split at h
          · rename_i h0 h1 h2 hc; cases h; exact ⟨by omega, by simp, fun r' => by simp only [List.take_succ_cons, List.cons_append, escL]; rw [if_neg h0, if_neg h1, if_neg h2, if_pos hc], hx c (by omega)⟩
          · split at h
            · rename_i h0 h1 h2 h3 hc
              cases r with
              | nil => cases h
              | cons a r =>
                simp only [escX] at h
                split at h
                · cases h
                · rename_i ha
                  cases r with
                  | nil => cases h
                  | cons b' r =>
                    simp only [] at h
                    split at h
                    · cases h
                    · rename_i hb
                      cases h
                      refine ⟨by omega, by simp, fun r' => ?_, ?_⟩
                      · simp only [List.take_succ_cons, List.take_zero, List.cons_append, List.nil_append, escL]
                        rw [if_neg h0, if_neg h1, if_neg h2, if_neg h3, if_pos hc]
                        simp only [escX]
                        rw [if_neg ha, if_neg hb]
                      · have key : ∀ y : UInt8, ¬ hexZ (z y) < 0 → z y ≠ 10 := fun y hy e => by
                          rw [e] at hy; exact hy (by decide)
                        intro x hx
                        simp at hx
                        rcases hx with rfl | rfl | rfl
                        · omega
                        · exact key _ ha
                        · exact key _ hb
            · cases h
theorem str_local : ∀ (f i : Nat) (acc r : Bs) (n : Nat) (bs : Bs), strA f i acc r = .ok n bs → i < n ∧ n ≤ i + r.length ∧ (∀ f' r', f ≤ f' → strA f' i acc (r.take (n - i) ++ r') = .ok n bs) ∧ ∀ x ∈ r.take (n - i), z x ≠ 10
  | 0, i, acc, r, n, bs, h => by cases h
  | f + 1, i, acc, [], n, bs, h => by cases h
  | f + 1, i, acc, c :: r, n, bs, h => by
    simp only [strA] at h
    have up : ∀ {f' : Nat}, f + 1 ≤ f' → ∃ g, f' = g + 1 ∧ f ≤ g := fun {f'} hf => ⟨f' - 1, by omega, by omega⟩
    split at h
    · rename_i hc
      cases h
      refine ⟨by omega, by simp <;> omega, fun f' r' hf => ?_, fun x hx => ?_⟩
      · obtain ⟨g, rfl, hg⟩ := up hf
        rw [show i + 1 - i = 1 by omega]
        simp only [List.take_succ_cons, List.take_zero, List.cons_append, List.nil_append, strA]
        rw [if_pos hc]
      · rw [show i + 1 - i = 1 by omega] at hx
        simp at hx; subst hx; omega
    · rename_i h0
      split at h
      · rename_i hc
        obtain ⟨a1, a2, a3, a4⟩ := str_local f (i + 1) (acc ++ [c]) r n bs h
        have e : n - i = (n - (i + 1)) + 1 := by omega
        refine ⟨by omega, by simp <;> omega, fun f' r' hf => ?_, fun x hx => ?_⟩
        · obtain ⟨g, rfl, hg⟩ := up hf
          rw [e]
          simp only [List.take_succ_cons, List.cons_append, strA]
          rw [if_neg h0, if_pos hc]
          exact a3 g r' hg
        · rw [e, List.take_succ_cons] at hx
          rcases List.mem_cons.1 hx with rfl | hx
          · intro e'; rw [e'] at hc; exact absurd hc (by decide)
          · exact a4 x hx
      · rename_i h1
        split at h
        · rename_i hc
          split at h
          · split at h <;> cases h
          · rename_i k b he
            obtain ⟨b1, b2, b3, b4⟩ := esc_local he
            obtain ⟨a1, a2, a3, a4⟩ := str_local f (i + 1 + k) (acc ++ [b]) (r.drop k) n bs h
            have hl : (r.drop k).length = r.length - k := by simp
            rw [hl] at a2
            have e : n - i = (k + (n - (i + 1 + k))) + 1 := by omega
            refine ⟨by omega, by simp <;> omega, fun f' r' hf => ?_, fun x hx => ?_⟩
            · obtain ⟨g, rfl, hg⟩ := up hf
              rw [e, List.take_succ_cons, List.cons_append]
              simp only [strA]
              rw [if_neg h0, if_neg h1, if_pos hc]
              have e2 : r.take (k + (n - (i + 1 + k))) ++ r' = r.take k ++ ((r.drop k).take (n - (i + 1 + k)) ++ r') := by
                rw [← List.append_assoc, List.take_add]
              rw [e2, b3]
              simp only []
              have e3 : (r.take k ++ ((r.drop k).take (n - (i + 1 + k)) ++ r')).drop k = (r.drop k).take (n - (i + 1 + k)) ++ r' := by
                rw [List.drop_append_of_le_length (by simp <;> omega)]
                simp [List.drop_take]
              rw [e3]
              exact a3 g r' hg
            · rw [e, List.take_succ_cons] at hx
              rcases List.mem_cons.1 hx with rfl | hx
              · omega
              · rw [List.take_add] at hx
                rcases List.mem_append.1 hx with hx | hx
                · exact b4 x hx
                · exact a4 x hx
        · cases h
theorem let_not {n : Int} (h : letZ n = true) : inwZ n = true ∧ n ≠ 10 ∧ n ≠ 37 ∧ blkZ n = false ∧ digZ n = false ∧ n ≠ 34 := by
  simp [letZ] at h
  simp [inwZ, letZ, blkZ, digZ]
  omega
theorem inw_not {n : Int} (h : inwZ n = true) : n ≠ 10 := by
  intro e; subst e; exact absurd h (by decide)
theorem dig_not {n : Int} (h : digZ n = true) : n ≠ 10 := by
  intro e; subst e; exact absurd h (by decide)
theorem sgn_not {n : Int} (h : sgnZ n = true) : n ≠ 10 := by
  intro e; subst e; exact absurd h (by decide)
/-- A token looks at its text and at the byte behind it alone. -/
theorem tok_local {c : UInt8} {r : Bs} {kd : Int} {n : Nat} {v : Int} {bs : Bs} (h : tokL (c :: r) = .tok kd n v bs) :
    (1 ≤ n ∧ n ≤ (c :: r).length) ∧ Follow kd ((c :: r).drop n) ∧ (∀ r', Follow kd r' → tokL ((c :: r).take n ++ r') = .tok kd n v bs) ∧ ∀ x ∈ (c :: r).take n, z x ≠ 10 := by
  simp only [tokL] at h
  split at h
  · rename_i hc
    split at h
    · cases h
    · rename_i hn
      cases h
      have hl : wrd (c :: r) ≤ (c :: r).length := take_while_le _
      have h1 : 1 ≤ wrd (c :: r) := by unfold wrd; simp [(let_not hc).1]
      have ht : (c :: r).take (wrd (c :: r)) = (c :: r).takeWhile fun c => inwZ (z c) := take_while_len _
      refine ⟨⟨h1, hl⟩, fun d s e => ⟨fun _ => take_while_drop (p := fun c => inwZ (z c)) _ d s e, fun e' => by omega⟩, fun r' hf => ?_, fun x hx => ?_⟩
      · have hw : wrd ((c :: r).take (wrd (c :: r)) ++ r') = wrd (c :: r) := by
          rw [ht]
          unfold wrd
          rw [take_while_more _ _ fun d s e => (hf d s e).1 rfl]
        obtain ⟨k, hk⟩ : ∃ k, wrd (c :: r) = k + 1 := ⟨wrd (c :: r) - 1, by omega⟩
        have e : (c :: r).take (wrd (c :: r)) ++ r' = c :: (r.take k ++ r') := by rw [hk]; rfl
        rw [e] at hw ⊢
        simp only [tokL]
        rw [if_pos hc, hw, if_neg hn]
      · rw [ht] at hx
        exact inw_not (take_while_all _ x hx)
  · rename_i h0
    split at h
    · rename_i hc
      split at h
      · cases h
      · rename_i hn
        cases h
        have hl : dgs (c :: r) ≤ (c :: r).length := take_while_le _
        have h1 : 1 ≤ dgs (c :: r) := by unfold dgs; simp [hc]
        have ht : (c :: r).take (dgs (c :: r)) = (c :: r).takeWhile fun c => digZ (z c) := take_while_len _
        refine ⟨⟨h1, hl⟩, fun d s e => ⟨fun e' => by omega, fun _ => take_while_drop (p := fun c => digZ (z c)) _ d s e⟩, fun r' hf => ?_, fun x hx => ?_⟩
        · have hw : dgs ((c :: r).take (dgs (c :: r)) ++ r') = dgs (c :: r) := by
            rw [ht]
            unfold dgs
            rw [take_while_more _ _ fun d s e => (hf d s e).2 rfl]
          obtain ⟨k, hk⟩ : ∃ k, dgs (c :: r) = k + 1 := ⟨dgs (c :: r) - 1, by omega⟩
          have e : (c :: r).take (dgs (c :: r)) ++ r' = c :: (r.take k ++ r') := by rw [hk]; rfl
          have e2 : ((c :: r).take (dgs (c :: r)) ++ r').take (dgs (c :: r)) = (c :: r).take (dgs (c :: r)) := by
            rw [List.take_append_of_le_length (by rw [List.length_take]; omega), List.take_take, Nat.min_self]
          rw [e] at hw e2 ⊢
          simp only [tokL]
          rw [if_neg h0, if_pos hc, hw, if_neg hn, e2]
        · rw [ht] at hx
          exact dig_not (take_while_all _ x hx)
    · rename_i h1
      split at h
      · rename_i hc
        unfold strT at h
        split at h
        · cases h
        · cases h
        · rename_i n' bs' hs
          split at h
          · cases h
          · rename_i hb
            cases h
            obtain ⟨a1, a2, a3, a4⟩ := str_local _ _ _ _ _ _ hs
            obtain ⟨k, rfl⟩ : ∃ k, n = k + 1 := ⟨n - 1, by omega⟩
            rw [show k + 1 - 1 = k by omega] at a3 a4
            refine ⟨⟨by omega, by simp <;> omega⟩, fun d s e => ⟨fun e' => by omega, fun e' => by omega⟩, fun r' hf => ?_, fun x hx => ?_⟩
            · rw [List.take_succ_cons, List.cons_append]
              simp only [tokL]
              rw [if_neg h0, if_neg h1, if_pos hc]
              unfold strT
              have := str_local _ _ _ _ _ _ hs
              have hlen : (r.take k ++ r').length = k + r'.length := by simp <;> omega
              have main : strA ((r.take k ++ r').length + 1) 1 [] (r.take k ++ r') = .ok (k + 1) bs := by
                have b3 := a3 (max (r.length + 1) ((r.take k ++ r').length + 1)) r' (by omega)
                have fuel : ∀ (f i : Nat) (acc r : Bs) (f' : Nat), r.length < f → f ≤ f' → strA f' i acc r = strA f i acc r := by
                  intro f
                  induction f with
                  | zero => intro i acc r f' h; omega
                  | succ f ih =>
                    intro i acc r f' hr hf'
                    obtain ⟨g, rfl⟩ : ∃ g, f' = g + 1 := ⟨f' - 1, by omega⟩
                    cases r with
                    | nil => rfl
                    | cons c r =>
                      simp at hr
                      simp only [strA]
                      split
                      · rfl
                      · split
                        · exact ih _ _ _ _ (by omega) (by omega)
                        · split
                          · split
                            · rfl
                            · exact ih _ _ _ _ (by simp <;> omega) (by omega)
                          · rfl
                rw [fuel ((r.take k ++ r').length + 1) 1 [] (r.take k ++ r') _ (by omega) (by omega)] at b3
                exact b3
              rw [main]
              simp only []
              rw [if_neg hb]
            · rw [List.take_succ_cons] at hx
              rcases List.mem_cons.1 hx with rfl | hx
              · omega
              · exact a4 x hx
      · rename_i h2
        split at h
        · rename_i hc
          cases h
          refine ⟨⟨by omega, by simp⟩, fun d s e => ⟨fun e' => by omega, fun e' => by omega⟩, fun r' hf => ?_, fun x hx => ?_⟩
          · simp only [List.take_succ_cons, List.take_zero, List.cons_append, List.nil_append, tokL]
            rw [if_neg h0, if_neg h1, if_neg h2, if_pos hc]
          · simp at hx; subst hx; exact sgn_not hc
        · cases h
theorem skp_drop : ∀ (r : Bs) (m : Bool), skp false (r.drop (skp m r)) = 0
  | [], m => by cases m <;> simp [skp]
  | c :: r, true => by
    simp only [skp]
    split
    · rw [List.drop_succ_cons]; exact skp_drop r false
    · rw [List.drop_succ_cons]; exact skp_drop r true
  | c :: r, false => by
    by_cases h1 : z c = 37
    · have e : skp false (c :: r) = skp true r + 1 := by simp only [skp]; rw [if_pos h1]
      rw [e, List.drop_succ_cons]; exact skp_drop r true
    · by_cases h2 : blkZ (z c) = true
      · have e : skp false (c :: r) = skp false r + 1 := by simp only [skp]; rw [if_neg h1, if_pos h2]
        rw [e, List.drop_succ_cons]; exact skp_drop r false
      · have e : skp false (c :: r) = 0 := by simp only [skp]; rw [if_neg h1, if_neg h2]
        rw [e, List.drop_zero, e]
theorem skp_le : ∀ (r : Bs) (m : Bool), skp m r ≤ r.length
  | [], m => by cases m <;> simp [skp]
  | c :: r, true => by
    have h1 := skp_le r true
    have h2 := skp_le r false
    simp only [skp, List.length_cons]
    split <;> omega
  | c :: r, false => by
    have h1 := skp_le r true
    have h2 := skp_le r false
    simp only [skp, List.length_cons]
    split
    · omega
    · split <;> omega
/-- Blanks that are skipped whole, whatever follows. -/
def Sep (s : Bs) : Prop := ∀ r, skp false (s ++ r) = s.length + skp false r
theorem sep_nil : Sep [] := fun r => by simp
/-- Scanning as a function, and as a relation. -/
theorem sc_of_scan : ∀ (f : Nat) (acc : List Tk) (pos : Nat) (rest : Bs) (m : List Tk), scanA f acc pos rest = .ok m → ∃ m', m = acc ++ m' ∧ Sc acc.isEmpty rest (m'.map Tk.core)
  | 0, acc, pos, rest, m, h => by cases h
  | f + 1, acc, pos, rest, m, h => by
    simp only [scanA] at h
    split at h
    · rename_i hd
      cases h
      exact ⟨_, rfl, .fin hd⟩
    · rename_i c r hd
      split at h
      · cases h
      · rename_i kd n v bs ht
        obtain ⟨m', rfl, hs⟩ := sc_of_scan f _ _ _ _ h
        refine ⟨_, List.append_assoc _ _ _, ?_⟩
        have : (acc ++ [(⟨kd, (c :: r).take n, v, bs, pos + skp false rest, decide (skp false rest = 0) && !acc.isEmpty⟩ : Tk)]).isEmpty = false := by cases acc <;> rfl
        rw [this] at hs
        exact .tok hd ht hs
theorem scan_of_sc {fi : Bool} {rest : Bs} {l : List Core} (h : Sc fi rest l) : ∀ (f : Nat) (acc : List Tk) (pos : Nat), acc.isEmpty = fi → rest.length < f → ∃ m', scanA f acc pos rest = .ok (acc ++ m') ∧ m'.map Tk.core = l := by
  induction h with
  | @fin fi rest hd =>
    intro f acc pos ha hf
    obtain ⟨g, rfl⟩ : ∃ g, f = g + 1 := ⟨f - 1, by omega⟩
    refine ⟨_, by simp only [scanA, hd]; rfl, ?_⟩
    subst ha; rfl
  | @tok fi rest c r kd n v bs l hd ht hs ih =>
    intro f acc pos ha hf
    obtain ⟨g, rfl⟩ : ∃ g, f = g + 1 := ⟨f - 1, by omega⟩
    obtain ⟨⟨h1, h2⟩, -⟩ := tok_local ht
    have hlen : (c :: r).length ≤ rest.length := by rw [← hd]; simp
    obtain ⟨m', e1, e2⟩ := ih g (acc ++ [⟨kd, (c :: r).take n, v, bs, pos + skp false rest, decide (skp false rest = 0) && !acc.isEmpty⟩]) (pos + skp false rest + n) (by cases acc <;> rfl) (by rw [List.length_drop]; omega)
    refine ⟨⟨kd, (c :: r).take n, v, bs, pos + skp false rest, decide (skp false rest = 0) && !acc.isEmpty⟩ :: m', ?_, ?_⟩
    · simp only [scanA, hd, ht]
      rw [e1, List.append_assoc]; rfl
    · subst ha
      simp [Tk.core, e2]
/-- A text laid out of tokens and of blanks between them; what its tokens are. -/
inductive Lay : Bool → List Core → Bs → List Core → Prop
  | fin {fi : Bool} {sep : Bs} {j : Bool} (hs : Sep sep) : Lay fi [(0, [], 0, [], j)] sep [(0, [], 0, [], decide (sep = []) && !fi)]
  | tok {fi : Bool} {sep : Bs} {kd : Int} {tx : Bs} {v : Int} {bs : Bs} {j : Bool} {l l' : List Core} {t : Bs} (hs : Sep sep) (hj : fi = false → sep = [] → j = true) (h : Lay false l t l') : Lay fi ((kd, tx, v, bs, j) :: l) (sep ++ (tx ++ t)) ((kd, tx, v, bs, decide (sep = []) && !fi) :: l')
theorem sep_head {s : Bs} (h : Sep s) {d : UInt8} {r : Bs} (e : s = d :: r) : z d = 37 ∨ blkZ (z d) = true := by
  have := h []
  rw [e] at this
  simp only [List.append_nil, skp] at this
  split at this
  · rename_i h; exact .inl h
  · split at this
    · rename_i h; exact .inr h
    · simp at this
theorem head_not {d : UInt8} (h : z d = 37 ∨ blkZ (z d) = true) : inwZ (z d) = false ∧ digZ (z d) = false := by
  generalize z d = n at h
  rcases h with rfl | h
  · decide
  · simp [blkZ] at h
    rcases h with rfl | rfl | rfl | rfl <;> decide
/-- What scanning finds ahead of a laid text. -/
theorem lay_follow {fi : Bool} {r : Bs} {l l' : List Core} {t : Bs} (hs : Sc fi r l) (hl : Lay fi l t l') (hfi : fi = false) {kd : Int} (hf : Follow kd r) : Follow kd t := by
  intro d s e
  cases hl with
  | fin hsep =>
    have := head_not (sep_head hsep e)
    exact ⟨fun _ => this.1, fun _ => this.2⟩
  | @tok fi sep kd2 tx v bs j l l' t hsep hj hl =>
    cases sep with
    | cons d' s' =>
      cases e
      have := head_not (sep_head hsep rfl)
      exact ⟨fun _ => this.1, fun _ => this.2⟩
    | nil =>
      have hjt := hj hfi rfl
      cases hs with
      | fin h0 =>
        cases hl
      | @tok _ _ c r2 _ n _ _ _ hd ht h =>
        simp at hjt
        rw [hjt.1, List.drop_zero] at hd
        obtain ⟨⟨h1, h2⟩, -⟩ := tok_local ht
        obtain ⟨k, rfl⟩ : ∃ k, n = k + 1 := ⟨n - 1, by omega⟩
        rw [List.take_succ_cons] at e
        simp at e
        obtain ⟨rfl, -⟩ := e
        exact hf _ _ hd
theorem sc_lay {fi : Bool} {rest : Bs} {l : List Core} (h : Sc fi rest l) : ∀ {l' : List Core} {t : Bs}, Lay fi l t l' → Sc fi t l' := by
  induction h with
  | @fin fi rest hd =>
    intro l' t hl
    cases hl with
    | fin hs =>
      have e := hs []
      simp only [List.append_nil, skp, Nat.add_zero] at e
      have e2 : (decide (t = []) && !fi) = (decide (skp false t = 0) && !fi) := by
        rw [e]; cases t <;> simp
      rw [e2]
      exact .fin (by rw [e]; simp)
    | tok hs hj hl => cases hl
  | @tok fi rest c r kd n v bs l hd ht hs ih =>
    intro l' t hl
    generalize hx : (c :: r).take n = tx at hl
    cases hl with
    | fin _ => cases hs
    | @tok _ sep _ _ _ _ _ _ l2 t2 hsep hj hl =>
      subst hx
      obtain ⟨⟨h1, h2⟩, h3, h4, -⟩ := tok_local ht
      have hfol : Follow kd t2 := lay_follow hs hl rfl h3
      have htok := h4 t2 hfol
      obtain ⟨k, rfl⟩ : ∃ k, n = k + 1 := ⟨n - 1, by omega⟩
      have e0 : skp false ((c :: r).take (k + 1) ++ t2) = 0 := by
        have h0 := skp_drop rest false
        rw [hd] at h0
        rw [List.take_succ_cons, List.cons_append]
        simp only [skp] at h0 ⊢
        split
        · rename_i hh; rw [if_pos hh] at h0; omega
        · rename_i hh
          rw [if_neg hh] at h0
          split
          · rename_i hh2; rw [if_pos hh2] at h0; omega
          · rfl
      have e := hsep ((c :: r).take (k + 1) ++ t2)
      rw [e0, Nat.add_zero] at e
      have e2 : (decide (sep = []) && !fi) = (decide (skp false (sep ++ ((c :: r).take (k + 1) ++ t2)) = 0) && !fi) := by
        rw [e]; cases sep <;> simp
      rw [e2]
      have hd2 : (sep ++ ((c :: r).take (k + 1) ++ t2)).drop (skp false (sep ++ ((c :: r).take (k + 1) ++ t2))) = c :: (r.take k ++ t2) := by
        rw [e]; simp
      have htk : (c :: (r.take k ++ t2)).take (k + 1) = (c :: r).take (k + 1) := by
        simp at h2 ⊢
        rw [List.take_append_of_le_length (by rw [List.length_take]; omega), List.take_take, Nat.min_self]
      have hdk : (c :: (r.take k ++ t2)).drop (k + 1) = t2 := by
        simp at h2 ⊢
        rw [List.drop_append_of_le_length (by rw [List.length_take]; omega)]
        simp
      have := Sc.tok (fi := fi) hd2 (by rw [← List.cons_append, ← List.take_succ_cons]; exact htok) (by rw [hdk]; exact ih hl)
      rw [htk] at this
      exact this
/-- Quoting. -/
def hexC (n : Nat) : UInt8 := if n < 10 then UInt8.ofNat (48 + n) else UInt8.ofNat (87 + n)
def quo1 (c : UInt8) : Bs := if z c = 10 then [92, 110] else if z c = 9 then [92, 116] else if z c = 92 then [92, 92] else if z c = 34 then [92, 34] else if stdZ (z c) = true then [c] else [92, 120, hexC (c.toNat / 16), hexC (c.toNat % 16)]
def quoB : Bs → Bs
  | [] => []
  | c :: s => quo1 c ++ quoB s
def quoL (s : Bs) : Bs := 34 :: (quoB s ++ [34])
theorem byte_all {p : UInt8 → Prop} [DecidablePred p] (h : ((List.range 256).all fun n => decide (p (UInt8.ofNat n))) = true) (c : UInt8) : p c := by
  have := List.all_eq_true.1 h c.toNat (by simp; exact c.toNat_lt)
  have h2 := of_decide_eq_true this
  simpa using h2
def quoOk (c : UInt8) : Bool := match quo1 c with
  | [a] => decide (a = c) && (stdZ (z c) && decide (z c ≠ 34))
  | [a, b] => decide (z a = 92) && (match escL [b] with
    | .ok n x => decide (n = 1) && decide (x = c)
    | _ => false)
  | [a, b, d, e] => decide (z a = 92) && (match escL [b, d, e] with
    | .ok n x => decide (n = 3) && decide (x = c)
    | _ => false)
  | _ => false
theorem quo_ok (c : UInt8) : quoOk c = true := byte_all (p := fun c => quoOk c = true) (by decide +kernel) c
theorem strA_quo1 (c : UInt8) (f i : Nat) (acc r : Bs) : strA (f + 1) i acc (quo1 c ++ r) = strA f (i + (quo1 c).length) (acc ++ [c]) r := by
  have h := quo_ok c
  unfold quoOk at h
  split at h
  · rename_i a e
    simp only [Bool.and_eq_true, decide_eq_true_eq] at h
    obtain ⟨rfl, h1, h2⟩ := h
    rw [e]
    simp only [List.cons_append, List.nil_append, strA]
    rw [if_neg h2, if_pos h1]; rfl
  · rename_i a b e
    simp only [Bool.and_eq_true, decide_eq_true_eq] at h
    obtain ⟨h1, h⟩ := h
    rw [e]
    split at h
    · rename_i n x he
      simp only [Bool.and_eq_true, decide_eq_true_eq] at h
      obtain ⟨rfl, rfl⟩ := h
      have := (esc_local he).2.2.1 r
      simp only [List.take_succ_cons, List.take_zero, List.cons_append, List.nil_append] at this
      simp only [List.cons_append, List.nil_append, strA]
      rw [if_neg (by omega), if_neg (by rw [h1]; decide), if_pos h1, this]; rfl
    · cases h
  · rename_i a b d e' e
    simp only [Bool.and_eq_true, decide_eq_true_eq] at h
    obtain ⟨h1, h⟩ := h
    rw [e]
    split at h
    · rename_i n x he
      simp only [Bool.and_eq_true, decide_eq_true_eq] at h
      obtain ⟨rfl, rfl⟩ := h
      have := (esc_local he).2.2.1 r
      simp only [List.take_succ_cons, List.take_zero, List.cons_append, List.nil_append] at this
      simp only [List.cons_append, List.nil_append, strA]
      rw [if_neg (by omega), if_neg (by rw [h1]; decide), if_pos h1, this]; rfl
    · cases h
  · cases h
theorem quo1_pos (c : UInt8) : 1 ≤ (quo1 c).length ∧ (quo1 c).length ≤ 4 := by
  unfold quo1; split <;> (try split) <;> (try split) <;> (try split) <;> (try split) <;> simp
theorem quoB_len : ∀ s, s.length ≤ (quoB s).length ∧ (quoB s).length ≤ 4 * s.length
  | [] => by simp [quoB]
  | c :: s => by
    have := quo1_pos c
    have := quoB_len s
    simp only [quoB, List.length_append, List.length_cons]; omega
theorem strA_quo : ∀ (s : Bs) (f i : Nat) (acc r : Bs), s.length < f → strA f i acc (quoB s ++ 34 :: r) = .ok (i + (quoB s).length + 1) (acc ++ s)
  | [], f, i, acc, r, hf => by
    obtain ⟨g, rfl⟩ : ∃ g, f = g + 1 := ⟨f - 1, by simp at hf; omega⟩
    simp only [quoB, List.nil_append, strA]
    rw [if_pos (by decide)]; simp
  | c :: s, f, i, acc, r, hf => by
    simp at hf
    obtain ⟨g, rfl⟩ : ∃ g, f = g + 1 := ⟨f - 1, by omega⟩
    simp only [quoB, List.append_assoc]
    rw [strA_quo1, strA_quo s g _ _ r (by omega)]
    simp; omega
theorem tok_quo (s r : Bs) (hs : s.length ≤ 4096) : tokL (34 :: (quoB s ++ 34 :: r)) = .tok 3 ((quoB s).length + 2) 0 s := by
  simp only [tokL]
  rw [if_neg (by decide), if_neg (by decide), if_pos (by decide)]
  unfold strT
  have := quoB_len s
  rw [strA_quo s _ 1 [] r (by simp; omega)]
  simp only [List.nil_append]
  rw [if_neg (by omega)]
  congr 1; omega
theorem sc_quo (s : Bs) (hs : s.length ≤ 4096) : Sc true (quoL s) [(3, quoL s, 0, s, false), (0, [], 0, [], true)] := by
  have h0 : skp false (quoL s) = 0 := by
    simp only [quoL, skp]; rw [if_neg (by decide), if_neg (by decide)]
  have hd : (quoL s).drop (skp false (quoL s)) = 34 :: (quoB s ++ 34 :: []) := by rw [h0]; rfl
  have ht := tok_quo s [] hs
  have hl : (34 :: (quoB s ++ 34 :: []) : Bs).length = (quoB s).length + 2 := by simp
  have e1 : (34 :: (quoB s ++ 34 :: []) : Bs).take ((quoB s).length + 2) = quoL s := by rw [← hl, List.take_length]; rfl
  have e2 : (34 :: (quoB s ++ 34 :: []) : Bs).drop ((quoB s).length + 2) = [] := by rw [← hl, List.drop_length]
  have hf : Sc false [] [(0, [], 0, [], true)] := Sc.fin (fi := false) (rest := []) rfl
  have := Sc.tok (fi := true) hd ht (by rw [e2]; exact hf)
  rw [e1] at this
  simpa using this
/-- Words. -/
def isW (s : Bs) : Bool := match s with
  | [] => false
  | c :: _ => decide (s.length ≤ 64) && (letZ (z c) && s.all fun d => inwZ (z d))
theorem all_take {p : UInt8 → Bool} : ∀ (s : Bs), s.all p = true → s.takeWhile p = s
  | [], _ => rfl
  | c :: s, h => by simp at h; simp [h.1, all_take s (by simpa using h.2)]
theorem take_all {p : UInt8 → Bool} : ∀ (s : Bs), (s.takeWhile p).length = s.length → s.all p = true
  | [], _ => rfl
  | c :: s, h => by
    by_cases hc : p c = true
    · simp [hc] at h; simp [hc]; simpa using take_all s h
    · simp [hc] at h
theorem sc_word {s : Bs} (h : isW s = true) : Sc true s [(1, s, 0, [], false), (0, [], 0, [], true)] := by
  unfold isW at h
  split at h
  · cases h
  · rename_i c r
    simp only [Bool.and_eq_true, decide_eq_true_eq] at h
    obtain ⟨h1, h2, h3⟩ := h
    obtain ⟨k1, k2, k3, k4, k5, k6⟩ := let_not h2
    have h0 : skp false (c :: r) = 0 := by
      simp only [skp]; rw [if_neg k3, if_neg (by rw [k4]; simp)]
    have hw : wrd (c :: r) = (c :: r).length := by unfold wrd; rw [all_take _ h3]
    have ht : tokL (c :: r) = .tok 1 (c :: r).length 0 [] := by
      simp only [tokL]; rw [if_pos h2, hw, if_neg (by omega)]
    have hf : Sc false [] [(0, [], 0, [], true)] := Sc.fin (fi := false) (rest := []) rfl
    have := Sc.tok (fi := true) (rest := c :: r) (by rw [h0]; rfl) ht (by rw [List.drop_length]; exact hf)
    rw [List.take_length] at this
    simpa using this
theorem word_sc {s tx : Bs} {v : Int} {bs : Bs} {j : Bool} {e : Core} (hx : tx = s) (h : Sc true s [(1, tx, v, bs, j), e]) : isW s = true := by
  cases h with
  | @tok _ _ c r _ n _ _ _ hd ht hs =>
    have hl : ((s.drop (skp false s)).length) ≤ s.length := by simp
    rw [hd] at hl
    have hn := (tok_local ht).1
    have e1 : s.length = n := by
      have := congrArg List.length hx
      rw [List.length_take] at this; omega
    have e2 : (c :: r).take n = c :: r := List.take_of_length_le (by omega)
    rw [e2] at hx
    simp only [tokL] at ht
    split at ht
    · rename_i hc
      split at ht
      · cases ht
      · rename_i hn2
        have hw : wrd (c :: r) = n := by cases ht; rfl
        subst hx
        simp only [isW, Bool.and_eq_true, decide_eq_true_eq]
        refine ⟨by omega, hc, take_all _ ?_⟩
        exact hw.trans e1.symm
    · exfalso
      split at ht
      · split at ht
        · cases ht
        · have := congrArg (fun | Res.tok k _ _ _ => k | _ => 0) ht; simp at this
      · split at ht
        · unfold strT at ht
          split at ht
          · cases ht
          · cases ht
          · split at ht
            · cases ht
            · have := congrArg (fun | Res.tok k _ _ _ => k | _ => 0) ht; simp at this
        · split at ht
          · have := congrArg (fun | Res.tok k _ _ _ => k | _ => 0) ht; simp at this
          · cases ht
/-- Places: a line and a column. -/
def plc : Bs → Int → Int → Int × Int
  | [], l, c => (l, c)
  | b :: r, l, c => if z b = 10 then plc r (l + 1) 1 else plc r l (c + 1)
def place (s : Bs) (n : Nat) : Int × Int := plc (s.take n) 1 1
theorem plc_append : ∀ (a b : Bs) (l c : Int), plc (a ++ b) l c = plc b (plc a l c).1 (plc a l c).2
  | [], b, l, c => rfl
  | x :: a, b, l, c => by
    simp only [List.cons_append, plc]
    split <;> exact plc_append a b _ _
theorem plc_up : ∀ (r : Bs) (l c : Int), 1 ≤ c → (l < (plc r l c).1 ∨ (plc r l c).1 = l ∧ (plc r l c).2 = c + r.length) ∧ 1 ≤ (plc r l c).2
  | [], l, c, h => by simp [plc]; exact h
  | b :: r, l, c, h => by
    simp only [plc, List.length_cons]
    split
    · have := plc_up r (l + 1) 1 (by omega); omega
    · have := plc_up r l (c + 1) (by omega); omega
theorem place_ne {s : Bs} {i j : Nat} (h : i < j) (hj : j ≤ s.length) : place s i ≠ place s j := by
  unfold place
  have e : s.take j = s.take i ++ (s.drop i).take (j - i) := by
    rw [show j = i + (j - i) by omega, List.take_add]
    congr 2; omega
  rw [e, plc_append]
  have h1 := (plc_up (s.take i) 1 1 (by omega)).2
  have h2 := (plc_up ((s.drop i).take (j - i)) (plc (s.take i) 1 1).1 (plc (s.take i) 1 1).2 h1).1
  have hl : ((s.drop i).take (j - i)).length = j - i := by simp; omega
  rw [hl] at h2
  intro e2
  rw [← e2] at h2
  omega
theorem place_succ {s : Bs} {n : Nat} {b : UInt8} (h : s[n]? = some b) : place s (n + 1) = if z b = 10 then ((place s n).1 + 1, 1) else ((place s n).1, (place s n).2 + 1) := by
  unfold place
  rw [List.take_add_one, h, plc_append]
  simp only [Option.toList, plc]
theorem plc_plain : ∀ (r : Bs) (l c : Int), (∀ x ∈ r, z x ≠ 10) → plc r l c = (l, c + r.length)
  | [], l, c, _ => by simp [plc]
  | b :: r, l, c, h => by
    simp only [plc]
    rw [if_neg (h b (by simp)), plc_plain r l (c + 1) fun x hx => h x (by simp [hx])]
    simp; omega
/-- Where tokens stand. -/
inductive Run (s : Bs) : Nat → List Tk → Prop
  | fin {pos : Nat} {j : Bool} (h : pos ≤ s.length) : Run s pos [⟨0, [], 0, [], s.length, j⟩]
  | tok {pos : Nat} {t : Tk} {l : List Tk} (h : pos ≤ t.pos) (h2 : t.pos + t.text.length ≤ s.length) (h3 : 1 ≤ t.text.length) (h4 : t.text = (s.drop t.pos).take t.text.length) (h5 : ∀ x ∈ t.text, z x ≠ 10) (hr : Run s (t.pos + t.text.length) l) : Run s pos (t :: l)
theorem run_of_scan (s : Bs) : ∀ (f : Nat) (acc : List Tk) (pos : Nat) (m : List Tk), pos ≤ s.length → scanA f acc pos (s.drop pos) = .ok m → ∃ m', m = acc ++ m' ∧ Run s pos m'
  | 0, acc, pos, m, _, h => by cases h
  | f + 1, acc, pos, m, hp, h => by
    simp only [scanA] at h
    have hk := skp_le (s.drop pos) false
    rw [List.length_drop] at hk
    rw [List.drop_drop] at h
    split at h
    · rename_i hd
      cases h
      have : s.length ≤ pos + skp false (s.drop pos) := by
        have := congrArg List.length hd
        simp at this; omega
      have e : pos + skp false (s.drop pos) = s.length := by omega
      rw [e]
      exact ⟨_, rfl, .fin hp⟩
    · rename_i c r hd
      split at h
      · cases h
      · rename_i kd n v bs ht
        obtain ⟨⟨n1, n2⟩, -, -, n3⟩ := tok_local ht
        have hl : (c :: r).length = s.length - (pos + skp false (s.drop pos)) := by rw [← hd]; simp
        have hn : ((c :: r).take n).length = n := by rw [List.length_take]; omega
        have e : (c :: r).drop n = s.drop (pos + skp false (s.drop pos) + n) := by rw [← hd, List.drop_drop]
        rw [e] at h
        obtain ⟨m', rfl, hs⟩ := run_of_scan s f _ _ m (by omega) h
        refine ⟨_, List.append_assoc _ _ _, ?_⟩
        refine .tok (by simp only []; omega) (by simp only [hn]; omega) (by simp only [hn]; exact n1) (by simp only [hn]; rw [hd]) n3 ?_
        simp only [hn]
        exact hs
end LexP
