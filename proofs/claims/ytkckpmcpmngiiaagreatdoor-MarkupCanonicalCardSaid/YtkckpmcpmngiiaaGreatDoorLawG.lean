/- The reader answers on every text; what it reads without an error is a valid element. -/
import Derived.Test.YtkckpmcpmngiiaaGreatDoorLawC
set_option linter.unusedSimpArgs false
set_option linter.unusedVariables false
set_option maxRecDepth 1000000
set_option maxHeartbeats 1000000
namespace Go.Proofs.YtkckpmcpmngiiaaGreatDoor
open Go Go.Pm Go.RowKit
/-! ## An answer on every text -/
theorem attrsN_some {s : Bs} : ∀ (f : Nat) (g : Rd) (l : List (Bs × Bs)), g.ok' s → (g.e = 0 → s.length - g.at' + 2 ≤ f) → 1 ≤ f → ∃ r, g.attrsN s f l = some r
  | 0, g, l, _, _, h => by omega
  | f + 1, g, l, hok, hf, _ => by
    simp only [Rd.attrsN]
    by_cases he : g.e ≠ 0
    · rw [if_pos he]; exact ⟨_, rfl⟩
    · rw [if_neg he]
      have he : g.e = 0 := by omega
      have hf := hf he
      have hg := hok he
      have hb := stp_blanks s g
      split
      · exact ⟨_, rfl⟩
      · split
        · exact ⟨_, rfl⟩
        · split
          · exact attrsN_some f _ l (ok_fail (ok_blanks hok) _ _ (by decide)) (fun h => absurd h (fail_bad (by decide))) (by omega)
          · split
            · exact attrsN_some f _ l (ok_fail (ok_blanks hok) _ _ (by decide)) (fun h => absurd h (fail_bad (by decide))) (by omega)
            · rename_i h1
              have st := (stp_attr1 s (g.blanks s) l).trans (stp_attr4 s ((g.blanks s).attr1 s l))
              refine attrsN_some f _ _ (st.ok (ok_blanks hok)) (fun h => ?_) (by omega)
              have u := st.up h
              have := st.ok (ok_blanks hok) h
              omega
theorem el1_zero {s : Bs} {lv : Nat} {g : Rd} (h : (g.el1 s lv).e = 0) : g.e = 0 ∧ lv ≤ 32 ∧ g.n ≠ 65536 ∧ (g.el1 s lv).at' = g.at' + 1 ∧ (g.el1 s lv).n = g.n + 1 := by
  have hx : (g.el1 s lv) = Rd.expect s ⟨(g.el0 s lv).at', (g.el0 s lv).n + 1, (g.el0 s lv).e⟩ 60 := rfl
  have h' := h
  rw [hx] at h'
  obtain ⟨-, u2, b, u3, u4⟩ := expect_up h'
  have e0' := Stp.good (stp_expect s ⟨(g.el0 s lv).at', (g.el0 s lv).n + 1, (g.el0 s lv).e⟩ 60) h'
  have e0 : (g.el0 s lv).e = 0 := e0'
  have hn := (stp_expect s ⟨(g.el0 s lv).at', (g.el0 s lv).n + 1, (g.el0 s lv).e⟩ 60).n
  have hc : ¬ (g.sees s [60] = true ∧ (g.n = 65536 ∨ 32 < lv)) := fun hc => by
    unfold Rd.el0 at e0
    rw [if_pos hc] at e0
    exact fail_bad (by decide) e0
  have e1 : g.el0 s lv = g := by unfold Rd.el0; rw [if_neg hc]
  rw [e1] at e0 u2 u3 hn
  have hb : b = 60 := UInt8.toNat_inj.1 u4
  have hs : g.sees s [60] = true := by
    unfold Rd.sees
    rw [e0]
    have : s.drop g.at' = 60 :: s.drop (g.at' + 1) := by
      obtain ⟨q1, q2⟩ := List.getElem?_eq_some_iff.1 u3
      rw [List.drop_eq_getElem_cons q1, q2, hb]
    rw [this, hasPre_cons, hasPre_nil]; decide
  refine ⟨e0, ?_, ?_, ?_, ?_⟩
  · apply Classical.byContradiction; intro hh; exact hc ⟨hs, .inr (by omega)⟩
  · intro hh; exact hc ⟨hs, .inl hh⟩
  · rw [hx, e1]; exact u2
  · rw [hx, e1]; exact hn
theorem ok_el1 {s : Bs} {lv : Nat} {g : Rd} (h : g.ok' s) : (g.el1 s lv).ok' s := by
  have h0 : (g.el0 s lv).ok' s := (stp_el0 s lv g).ok h
  exact ok_expect (g := ⟨(g.el0 s lv).at', (g.el0 s lv).n + 1, (g.el0 s lv).e⟩) (fun he => h0 he) 60
theorem sees_zero {s p : Bs} {g : Rd} (h : g.sees s p = true) : g.e = 0 := by
  unfold Rd.sees at h
  rw [Bool.and_eq_true, decide_eq_true_eq] at h
  exact h.1
theorem kidsN_some {s : Bs} {E : Rd → Option (Nd × Rd)} (hE : ∀ g, g.ok' s → g.n ≤ 65536 → ∃ nd g', E g = some (nd, g') ∧ g'.ok' s ∧ (g'.e = 0 → g'.n ≤ 65536 ∧ g.at' < g'.at')) :
    ∀ (f : Nat) (g : Rd) (ks : List Nd), g.ok' s → (g.e = 0 → g.n ≤ 65536) → (g.e = 0 → s.length - g.at' + 2 ≤ f) → 1 ≤ f → ∃ r, g.kidsN s E f ks = some r
  | 0, g, ks, _, _, _, h => by omega
  | f + 1, g, ks, hok, hn, hf, _ => by
    simp only [Rd.kidsN]
    split
    · rename_i hc
      obtain ⟨nd, g1, e1, o1, p1⟩ := hE g hok (hn hc.1)
      obtain ⟨g2, e2⟩ := misc_some o1
      have st := stp_misc e2
      have hf := hf hc.1
      rw [e1]
      simp only []
      rw [e2]
      simp only []
      refine kidsN_some hE f g2 _ (st.ok o1) (fun h => ?_) (fun h => ?_) (by omega)
      · rw [st.n]; exact (p1 (st.good h)).1
      · have := (p1 (st.good h)).2
        have := st.up h
        have := st.ok o1 h
        omega
    · exact ⟨_, rfl⟩
theorem elem_some {s : Bs} : ∀ (m lv : Nat) (g : Rd), 34 ≤ lv + m → 1 ≤ m → g.ok' s → g.n ≤ 65536 → ∃ nd g', Rd.elem s m lv g = some (nd, g')
  | 0, lv, g, _, h, _, _ => by omega
  | m + 1, lv, g, hlv, _, hok, hn => by
    have o1 := ok_el1 (lv := lv) hok
    have o2 : ((g.el1 s lv).el2 s).ok' s := (stp_el2 s _).ok o1
    obtain ⟨⟨l, g4, c⟩, h1⟩ := attrsN_some (s.length + 3) _ [] o2 (fun _ => by omega) (by omega)
    have st := stp_attrsN _ h1
    rw [Rd.elem, h1]
    simp only []
    rcases attrsN_code _ h1 with ⟨rfl, -⟩ | ⟨rfl, -⟩ | ⟨rfl, hs⟩
    · exact ⟨_, _, rfl⟩
    · exact ⟨_, _, rfl⟩
    · have e4 := sees_zero hs
      have e1 : (g.el1 s lv).e = 0 := (stp_el2 s _).good (st.good e4)
      obtain ⟨-, z1, z2, -, z4⟩ := el1_zero e1
      have hn4 : g4.n = g.n + 1 := by rw [st.n, (stp_el2 s _).n, z4]
      obtain ⟨on, -⟩ := sees_next hs
      simp only []
      unfold Rd.contN
      by_cases hik : isKids s g4.next = true
      · rw [if_pos hik]
        obtain ⟨g1, m1⟩ := misc_some on
        have sm := stp_misc m1
        rw [m1]
        simp only []
        have hE : ∀ g, g.ok' s → g.n ≤ 65536 → ∃ nd g', Rd.elem s m (lv + 1) g = some (nd, g') ∧ g'.ok' s ∧ (g'.e = 0 → g'.n ≤ 65536 ∧ g.at' < g'.at') := fun g' ho hn' => by
          obtain ⟨nd, g'', h⟩ := elem_some m (lv + 1) g' (by omega) (by omega) ho hn'
          exact ⟨nd, g'', h, elem_ok m (lv + 1) g' g'' nd ho h, fun he => elem_n m (lv + 1) g' g'' nd hn' h he⟩
        obtain ⟨⟨ks, g2⟩, k1⟩ := kidsN_some hE (s.length + 2) g1 [] (sm.ok on) (fun _ => by rw [sm.n]; show g4.n ≤ 65536; omega) (fun _ => by omega) (by omega)
        rw [k1]
        exact ⟨_, _, rfl⟩
      · rw [if_neg hik]; exact ⟨_, _, rfl⟩
theorem start_ok (s : Bs) : (startAt s 0).ok' s ∧ (startAt s 0).n = 0 := by
  unfold startAt
  split
  · exact ⟨fun h => (by cases h), rfl⟩
  · exact ⟨fun _ => Nat.zero_le _, rfl⟩
theorem parse_some (s : Bs) : ∃ n g, parseR s = some (n, g) := by
  obtain ⟨o0, n0⟩ := start_ok s
  obtain ⟨g1, h1⟩ := misc_some o0
  have s1 := stp_misc h1
  obtain ⟨n, g2, h2⟩ := elem_some 40 1 g1 (by omega) (by omega) (s1.ok o0) (by rw [s1.n, n0]; decide)
  have o2 := elem_ok 40 1 g1 g2 n (s1.ok o0) h2
  obtain ⟨g3, h3⟩ := misc_some o2
  unfold parseR
  rw [h1]
  simp only []
  rw [h2]
  simp only []
  rw [h3]
  exact ⟨_, _, rfl⟩
/-! ## What is read is valid -/
theorem take_tw (p : UInt8 → Bool) (l : Bs) : l.take (l.takeWhile p).length = l.takeWhile p := (List.prefix_iff_eq_take.1 (List.takeWhile_prefix p)).symm
theorem name_good {s : Bs} {g : Rd} (h : (g.name s).2.e = 0) : ∃ c r, (g.name s).1 = c :: r ∧ bB begZ c = true ∧ (g.name s).1.all (bB inZ) = true ∧ g.at' + (g.name s).1.length = (g.name s).2.at' := by
  have he : g.e = 0 := (stp_name s g).good h
  cases hb : s[g.at']? with
  | none =>
    unfold Rd.name at h
    rw [if_neg (by simp [he]), hb] at h
    cases h
  | some b =>
    by_cases hbg : bB begZ b = true
    · have e1 : g.name s = ((s.take (skip (bB inZ) s g.at')).drop g.at', ⟨skip (bB inZ) s g.at', g.n, g.e⟩) := by
        unfold Rd.name
        rw [if_neg (by simp [he]), hb]
        simp only []
        rw [if_pos hbg]
      have e2 : (s.take (skip (bB inZ) s g.at')).drop g.at' = (s.drop g.at').takeWhile (bB inZ) := by
        rw [List.drop_take]
        unfold skip
        rw [Nat.add_sub_cancel_left, take_tw]
      obtain ⟨q1, q2⟩ := List.getElem?_eq_some_iff.1 hb
      have hin : bB inZ b = true := by
        unfold bB inZ at *
        rw [hbg]; rfl
      have e3 : (s.drop g.at').takeWhile (bB inZ) = b :: (s.drop (g.at' + 1)).takeWhile (bB inZ) := by
        rw [List.drop_eq_getElem_cons q1, q2, List.takeWhile_cons, if_pos hin]
      rw [e1]
      simp only []
      rw [e2]
      refine ⟨b, _, e3, hbg, List.all_takeWhile, rfl⟩
    · unfold Rd.name at h
      rw [if_neg (by simp [he]), hb] at h
      simp only [] at h
      rw [if_neg hbg] at h
      cases h
theorem name_is {s : Bs} {g : Rd} (h : (g.name s).2.e = 0) (hl : (g.name s).1.length ≤ 32) : isName (g.name s).1 = true := by
  obtain ⟨c, r, e, hb, hi, -⟩ := name_good h
  rw [e] at hl hi ⊢
  unfold isName
  simp only [hl, hb, hi, decide_true, Bool.and_self]
theorem ents_per : ∀ x ∈ ents, x.2.all (bB perZ) = true ∧ x.2.length ≤ x.1.length := by decide
theorem chars_good {s : Bs} {en : Nat} (hs : s.all (bB perZ) = true) : ∀ (f : Nat) (acc : Bs) (g : Rd), acc.all (bB perZ) = true →
    (g.chars s en f acc).1.all (bB perZ) = true ∧ ((g.chars s en f acc).2.e = 0 → (g.chars s en f acc).1.length + g.at' ≤ acc.length + (g.chars s en f acc).2.at')
  | 0, acc, g, ha => by
    simp only [Rd.chars]
    exact ⟨rfl, fun _ => by simp⟩
  | f + 1, acc, g, ha => by
    simp only [Rd.chars]
    split
    · exact ⟨rfl, fun h => by cases h⟩
    · rename_i b hb
      split
      · exact ⟨ha, fun _ => Nat.le_refl _⟩
      · split
        · exact ⟨rfl, fun h => by cases h⟩
        · split
          · split
            · exact ⟨rfl, fun h => by cases h⟩
            · split
              · rename_i x hx
                obtain ⟨p1, p2⟩ := ents_per x (List.mem_of_getElem? hx)
                obtain ⟨i1, i2⟩ := chars_good hs f (acc ++ x.2) ⟨g.at' + x.1.length, g.n, g.e⟩ (by rw [List.all_append, ha, p1]; rfl)
                refine ⟨i1, fun h => ?_⟩
                have := i2 h
                rw [List.length_append] at this
                simp only [] at this
                omega
              · exact ⟨rfl, fun _ => by simp⟩
          · have hp : bB perZ b = true := List.all_eq_true.1 hs b (List.mem_of_getElem? hb)
            obtain ⟨i1, i2⟩ := chars_good hs f (acc ++ [b]) ⟨g.at' + 1, g.n, g.e⟩ (by rw [List.all_append, ha]; simp [hp])
            refine ⟨i1, fun h => ?_⟩
            have := i2 h
            rw [List.length_append] at this
            simp only [List.length_cons, List.length_nil] at this
            omega
theorem charsT_good {s : Bs} {en : Nat} {g : Rd} (hs : s.all (bB perZ) = true) : (g.charsT s en).1.all (bB perZ) = true ∧ ((g.charsT s en).2.e = 0 → (g.charsT s en).1.length + g.at' ≤ (g.charsT s en).2.at') := by
  unfold Rd.charsT
  split
  · exact ⟨rfl, fun h => by simp⟩
  · have := chars_good (en := en) hs (s.length - g.at' + 1) [] g rfl
    simpa using this
theorem dataE_of {x : Bs} (h : x.length ≤ 4096) (hp : x.all (bB perZ) = true) : dataE x = 0 := by
  unfold dataE
  rw [if_neg (by omega), hp]; rfl
def wA : List (Bs × Bs) → Nat
  | [] => 0
  | a :: l => 1 + a.1.length + a.2.length + wA l
theorem if_zero {p : Prop} [Decidable p] {a b : Rd} (ha : a.e ≠ 0) (h : (if p then a else b).e = 0) : ¬ p ∧ (if p then a else b) = b := by
  by_cases hp : p
  · rw [if_pos hp] at h; exact absurd h ha
  · exact ⟨hp, if_neg hp⟩
theorem attr_good {s : Bs} {g : Rd} {l : List (Bs × Bs)} (hs : s.all (bB perZ) = true) (h : (Rd.attr4 s (g.attr1 s l)).e = 0) :
    isName (g.name s).1 = true ∧ l.length ≠ 32 ∧ hasA l (g.name s).1 = false ∧ dataE (Rd.attr3 s (g.attr1 s l)).1 = 0 ∧ g.at' + (1 + (g.name s).1.length + (Rd.attr3 s (g.attr1 s l)).1.length) ≤ (Rd.attr4 s (g.attr1 s l)).at' := by
  have e1 : (g.attr1 s l).e = 0 := (stp_attr4 s _).good h
  have hx : g.attr1 s l = if 32 < (g.name s).1.length then (g.name s).2.fail g.at' 12 else if l.length = 32 then (g.name s).2.fail g.at' 9 else if hasA l (g.name s).1 = true then (g.name s).2.fail g.at' 7 else (g.name s).2 := rfl
  have e1' := e1
  rw [hx] at e1'
  obtain ⟨n1, r1⟩ := if_zero (fail_bad (by decide)) e1'
  rw [r1] at e1' hx
  obtain ⟨n2, r2⟩ := if_zero (fail_bad (by decide)) e1'
  rw [r2] at e1' hx
  obtain ⟨n3, r3⟩ := if_zero (fail_bad (by decide)) e1'
  rw [r3] at e1' hx
  have hlen : (g.name s).1.length ≤ 32 := by omega
  obtain ⟨c, r, -, -, -, ha⟩ := name_good e1'
  generalize hG : g.attr1 s l = G at *
  have h4 : Rd.attr4 s G = ((if 4096 < (Rd.attr3 s G).1.length then (Rd.attr3 s G).2.fail (Rd.attr2 s G).at' 5 else (Rd.attr3 s G).2)).expect s 34 := rfl
  rw [h4] at h ⊢
  have e3 := (stp_expect s _ 34).good h
  obtain ⟨n4, r4⟩ := if_zero (fail_bad (by decide)) e3
  rw [r4] at h e3 ⊢
  have u4 := (expect_up h).2.1
  have h3 : Rd.attr3 s G = ((Rd.attr2 s G).expect s 34).charsT s 34 := rfl
  have cg := charsT_good (en := 34) (g := (Rd.attr2 s G).expect s 34) hs
  rw [← h3] at cg
  have u3 := cg.2 e3
  have e2 : ((Rd.attr2 s G).expect s 34).e = 0 := by rw [h3] at e3; exact (stp_charsT s _ 34).good e3
  have u2 := (expect_up e2).2.1
  have u1 := (stp_attr2 s G).up ((stp_expect s _ 34).good e2)
  have hat : G.at' = (g.name s).2.at' := by rw [hx]
  exact ⟨name_is e1' hlen, n2, by simpa using n3, dataE_of (by omega) cg.1, by omega⟩
theorem attrsN_good {s : Bs} (hs : s.all (bB perZ) = true) : ∀ (f : Nat) {g : Rd} {l l2 : List (Bs × Bs)} {g2 : Rd} {c : Nat}, g.attrsN s f l = some (l2, g2, c) → g2.e = 0 → l.length ≤ 32 → ∃ d, l2 = l ++ d ∧ attrE l d = 0 ∧ l2.length ≤ 32 ∧ g.at' + wA d ≤ g2.at'
  | 0, g, l, l2, g2, c, h, _, _ => by cases h
  | f + 1, g, l, l2, g2, c, h, he, hl => by
    have hst := stp_attrsN _ h
    have hb := stp_blanks s g
    simp only [Rd.attrsN] at h
    split at h
    · rename_i hn; cases h; exact absurd he hn
    · split at h
      · cases h; exact ⟨[], by simp, rfl, hl, by simpa [wA] using hb.up he⟩
      · split at h
        · cases h; exact ⟨[], by simp, rfl, hl, by simpa [wA] using hb.up he⟩
        · split at h
          · exact absurd ((stp_attrsN _ h).good he) (fail_bad (by decide))
          · split at h
            · exact absurd ((stp_attrsN _ h).good he) (fail_bad (by decide))
            · have e4 := (stp_attrsN _ h).good he
              obtain ⟨a1, a2, a3, a4, a5⟩ := attr_good hs e4
              obtain ⟨d, i1, i2, i3, i4⟩ := attrsN_good hs f h he (by rw [List.length_append, List.length_cons, List.length_nil]; omega)
              refine ⟨(((g.blanks s).name s).1, (Rd.attr3 s ((g.blanks s).attr1 s l)).1) :: d, by rw [i1, List.append_assoc]; rfl, ?_, i3, ?_⟩
              · unfold attrE
                simp only []
                rw [if_neg (by simp [a1]), if_neg (by simp [a3]), if_neg (by simp [a4])]
                exact i2
              · simp only [wA]
                have hbe : (g.blanks s).e = 0 := ((stp_attr1 s _ l).trans (stp_attr4 s _)).good e4
                have := hb.up hbe
                omega
mutual
def Nd.w : Nd → Nat
  | .mk nm a t ks => 1 + nm.length + wA a + t.length + wL ks
def wL : List Nd → Nat
  | [] => 0
  | k :: r => k.w + wL r
end
theorem w_eq (n : Nd) : n.w = 1 + n.name.length + wA n.attrs + n.text.length + wL n.kids := by cases n; simp only [Nd.w, Nd.name, Nd.attrs, Nd.text, Nd.kids]
/-- What an element that was read without an error is. -/
structure Good (lv : Nat) (n : Nd) (g g' : Rd) : Prop where
  each : n.eachE = 0
  deep : lv + n.depth ≤ 33
  cnt : g'.n = g.n + n.count
  siz : g.at' + n.w ≤ g'.at'
structure GoodL (lv : Nat) (l : List Nd) (g g' : Rd) : Prop where
  each : eachL l = 0
  deep : lv + depthL l ≤ 33
  cnt : g'.n = g.n + countL l
  siz : g.at' + wL l ≤ g'.at'
theorem kidsN_good {s : Bs} {E : Rd → Option (Nd × Rd)} {lv : Nat} (hlv : lv ≤ 33) (hE : ∀ (g g' : Rd) (nd : Nd), E g = some (nd, g') → g'.e = 0 → Good lv nd g g') (hB : ∀ (g g' : Rd) (nd : Nd), E g = some (nd, g') → g'.e = 0 → g.e = 0) :
    ∀ (f : Nat) {g g2 : Rd} {ks ks2 : List Nd}, g.kidsN s E f ks = some (ks2, g2) → g2.e = 0 → ∃ d, ks2 = ks ++ d ∧ GoodL lv d g g2 ∧ g.e = 0
  | 0, g, g2, ks, ks2, h, _ => by cases h
  | f + 1, g, g2, ks, ks2, h, he => by
    simp only [Rd.kidsN] at h
    split at h
    · split at h
      · cases h
      · rename_i n g1 h1
        split at h
        · cases h
        · rename_i g3 h2
          obtain ⟨d, i1, i2, i3⟩ := kidsN_good hlv hE hB f h he
          have sm := stp_misc h2
          have e1 := sm.good i3
          have gd := hE g g1 n h1 e1
          have u := sm.up i3
          have hn := sm.n
          refine ⟨n :: d, by rw [i1, List.append_assoc]; rfl, ⟨?_, ?_, ?_, ?_⟩, hB g g1 n h1 e1⟩
          · simp only [eachL]; rw [if_neg (by simp [gd.each])]; exact i2.each
          · have := gd.deep; have := i2.deep; simp only [depthL]; omega
          · have := gd.cnt; have := i2.cnt; simp only [countL]; omega
          · have := gd.siz; have := i2.siz; simp only [wL]; omega
    · cases h
      exact ⟨[], by simp, ⟨rfl, by simpa [depthL] using hlv, by simp [countL], by simp [wL]⟩, he⟩
theorem elem_back {s : Bs} {m lv : Nat} {g g' : Rd} {nd : Nd} (h : Rd.elem s m lv g = some (nd, g')) (he : g'.e = 0) : g.e = 0 := by
  cases m with
  | zero => cases h
  | succ m =>
    rw [Rd.elem] at h
    split at h
    · cases h
    · rename_i l g4 c h1
      have st := stp_attrsN _ h1
      have key : g4.e = 0 → g.e = 0 := fun h4 => (el1_zero ((stp_el2 s _).good (st.good h4))).1
      split at h
      · cases h; exact key he
      · cases h; exact key ((stp_expect s g4.next 62).good he)
      · split at h
        · cases h
        · rename_i tx ks g5 h2
          cases h
          rcases attrsN_code _ h1 with ⟨rfl, -⟩ | ⟨rfl, -⟩ | ⟨-, hs⟩
          · rename_i q1 q2; exact absurd rfl q1
          · rename_i q1 q2; exact absurd rfl q2
          · exact key (sees_zero hs)
theorem own_good {n : Nd} (h1 : isName n.name = true) (h2 : n.attrs.length ≤ 32) (h3 : attrE [] n.attrs = 0) (h4 : n.text = [] ∨ n.kids = []) (h5 : dataE n.text = 0) (h6 : eachL n.kids = 0) : n.eachE = 0 := by
  rw [each_eq]
  have : ownE n = 0 := by
    unfold ownE
    rw [if_neg (by simp [h1]), if_neg (by omega), if_neg (by simp [h3]), if_neg]
    · exact h5
    · rintro ⟨a, b⟩
      rcases h4 with h | h
      · exact a h
      · exact b h
  rw [if_neg (by simp [this])]; exact h6
theorem elem_good {s : Bs} (hs : s.all (bB perZ) = true) : ∀ (m lv : Nat) (g g' : Rd) (nd : Nd), Rd.elem s m lv g = some (nd, g') → g'.e = 0 → Good lv nd g g'
  | 0, lv, g, g', nd, h, _ => by cases h
  | m + 1, lv, g, g', nd, h, he => by
    rw [Rd.elem] at h
    split at h
    · cases h
    · rename_i l g4 c h1
      have st := stp_attrsN _ h1
      have key : g4.e = 0 → isName ((g.el1 s lv).name s).1 = true ∧ l.length ≤ 32 ∧ attrE [] l = 0 ∧ lv ≤ 32 ∧ g4.n = g.n + 1 ∧ g.at' + (1 + ((g.el1 s lv).name s).1.length + wA l) ≤ g4.at' := fun h4 => by
        have e2 := st.good h4
        have e1 := (stp_el2 s _).good e2
        obtain ⟨-, z1, z2, z3, z4⟩ := el1_zero e1
        have hx : (g.el1 s lv).el2 s = if 32 < ((g.el1 s lv).name s).1.length then ((g.el1 s lv).name s).2.fail (g.el1 s lv).at' 12 else ((g.el1 s lv).name s).2 := rfl
        have e2' := e2
        rw [hx] at e2'
        obtain ⟨n1, r1⟩ := if_zero (fail_bad (by decide)) e2'
        rw [r1] at e2' hx
        obtain ⟨_, _, -, -, -, hat⟩ := name_good e2'
        obtain ⟨d, i1, i2, i3, i4⟩ := attrsN_good hs _ h1 h4 (by simp)
        rw [List.nil_append] at i1
        subst i1
        have hn : g4.n = g.n + 1 := by rw [st.n, (stp_el2 s _).n, z4]
        rw [hx] at i4
        exact ⟨name_is e2' (by omega), i3, i2, z1, hn, by omega⟩
      split at h
      · cases h
        rcases attrsN_code _ h1 with ⟨-, hb⟩ | ⟨hb, -⟩ | ⟨hb, -⟩
        · exact absurd he hb
        · cases hb
        · cases hb
      · cases h
        have e4 : g4.e = 0 := (stp_expect s g4.next 62).good he
        obtain ⟨k1, k2, k3, k4, k5, k6⟩ := key e4
        have u := (expect_up he).2.1
        have hn : (g4.next.expect s 62).n = g4.n := (stp_expect s g4.next 62).n
        have hx : g4.next.at' = g4.at' + 1 := rfl
        refine ⟨own_good k1 k2 k3 (.inl rfl) (by show dataE [] = 0; decide) rfl, ?_, ?_, ?_⟩
        · simp only [Nd.depth, depthL]; omega
        · simp only [Nd.count, countL]; omega
        · simp only [Nd.w, wL, List.length_nil]; omega
      · rename_i q1 q2
        split at h
        · cases h
        · rename_i tx ks g5 h2
          cases h
          rcases attrsN_code _ h1 with ⟨rfl, -⟩ | ⟨rfl, -⟩ | ⟨-, hsee⟩
          · exact absurd rfl q1
          · exact absurd rfl q2
          · have e4 := sees_zero hsee
            obtain ⟨k1, k2, k3, k4, k5, k6⟩ := key e4
            have hx : g4.next.at' = g4.at' + 1 := rfl
            have hxn : g4.next.n = g4.n := rfl
            unfold Rd.contN at h2
            split at h2
            · split at h2
              · cases h2
              · rename_i g1 m1
                split at h2
                · cases h2
                · rename_i ks' g2 kk
                  cases h2
                  have sc := stp_close s g2 ((g.el1 s lv).name s).1
                  have e2 := sc.good he
                  have sm := stp_misc m1
                  obtain ⟨d, i1, i2, i3⟩ := kidsN_good (lv := lv + 1) (by omega) (fun g g' nd h he => elem_good hs m (lv + 1) g g' nd h he) (fun g g' nd h he => elem_back h he) _ kk e2
                  rw [List.nil_append] at i1
                  subst i1
                  have u1 := sm.up i3
                  have u2 := sc.up he
                  have n1 := sm.n
                  have n2 := sc.n
                  refine ⟨own_good k1 k2 k3 (.inl rfl) (by show dataE [] = 0; decide) i2.each, ?_, ?_, ?_⟩
                  · have := i2.deep; simp only [Nd.depth]; omega
                  · have := i2.cnt; simp only [Nd.count]; omega
                  · have := i2.siz; simp only [Nd.w, List.length_nil]; omega
            · cases h2
              have sc := stp_close s (g4.next.text s) ((g.el1 s lv).name s).1
              have e2 := sc.good he
              have hy : g4.next.text s = if 4096 < (g4.next.charsT s 60).1.length then (g4.next.charsT s 60).2.fail g4.next.at' 5 else (g4.next.charsT s 60).2 := rfl
              have e2' := e2
              rw [hy] at e2'
              obtain ⟨t1, r1⟩ := if_zero (fail_bad (by decide)) e2'
              rw [r1] at e2' hy
              have cg := charsT_good (en := 60) (g := g4.next) hs
              have u1 := cg.2 e2'
              have u2 := sc.up he
              have n1 := (stp_charsT s g4.next 60).n
              have n2 := sc.n
              have y1 : (g4.next.text s).at' = (g4.next.charsT s 60).2.at' := congrArg Rd.at' hy
              have y2 : (g4.next.text s).n = (g4.next.charsT s 60).2.n := congrArg Rd.n hy
              have d5 := dataE_of (x := (g4.next.charsT s 60).1) (by omega) cg.1
              refine ⟨own_good k1 k2 k3 (.inr rfl) d5 rfl, ?_, ?_, ?_⟩
              · simp only [Nd.depth, depthL]; omega
              · simp only [Nd.count, countL]; omega
              · simp only [Nd.w, wL]; omega
theorem parse_good {s : Bs} {n : Nd} {g : Rd} (h : parseR s = some (n, g)) (he : g.e = 0) : chkE n = 0 ∧ n.w ≤ s.length := by
  have hper : s.all (bB perZ) = true ∧ startAt s 0 = ⟨0, 0, 0⟩ := by
    by_cases hp : s.all (bB perZ) = true
    · exact ⟨hp, start_on hp⟩
    · exfalso
      have e0 : (startAt s 0).e ≠ 0 := by
        unfold startAt
        have hlt : skip (bB perZ) s 0 < s.length := by
          unfold skip
          rw [List.drop_zero, Nat.zero_add]
          have h1 : (s.takeWhile (bB perZ)).length ≤ s.length := (List.takeWhile_prefix _).length_le
          rcases Nat.lt_or_ge (s.takeWhile (bB perZ)).length s.length with h2 | h2
          · exact h2
          · exfalso
            apply hp
            have h3 : s.takeWhile (bB perZ) = s := (List.takeWhile_prefix _).eq_of_length (by omega)
            rw [← h3]; exact List.all_takeWhile
        rw [if_pos hlt]; exact (by decide : (6 : Nat) ≠ 0)
      unfold parseR at h
      split at h
      · cases h
      · rename_i g1 h1
        split at h
        · cases h
        · rename_i n2 g2 h2
          split at h
          · cases h
          · rename_i g3 h3
            cases h
            have e3 : g3.e = 0 := by
              by_cases hc : g3.e = 0 ∧ g3.at' < s.length
              · exact hc.1
              · rw [if_neg hc] at he; exact he
            exact e0 ((stp_misc h1).good (elem_back h2 ((stp_misc h3).good e3)))
  obtain ⟨hp, h0⟩ := hper
  unfold parseR at h
  rw [h0] at h
  split at h
  · cases h
  · rename_i g1 h1
    split at h
    · cases h
    · rename_i n2 g2 h2
      split at h
      · cases h
      · rename_i g3 h3
        cases h
        have e3 : g3.e = 0 := by
          by_cases hc : g3.e = 0 ∧ g3.at' < s.length
          · exact hc.1
          · rw [if_neg hc] at he; exact he
        have s3 := stp_misc h3
        have e2 := s3.good e3
        have gd := elem_good hp 40 1 g1 g2 _ h2 e2
        have n1 : g1.n = 0 := (stp_misc h1).n
        have o1 : g1.ok' s := (stp_misc h1).ok (fun _ => Nat.zero_le _)
        obtain ⟨b1, -⟩ := elem_n 40 1 g1 g2 _ (by omega) h2 e2
        have o2 := elem_ok 40 1 g1 g2 _ o1 h2 e2
        have c1 := gd.cnt
        have c2 := gd.deep
        have c3 := gd.siz
        refine ⟨?_, by omega⟩
        unfold chkE
        rw [if_pos ⟨by omega, by omega⟩]
        exact gd.each
end Go.Proofs.YtkckpmcpmngiiaaGreatDoor
