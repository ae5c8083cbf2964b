/- The round trip of an element, of a document: plain. -/
import Derived.Test.YtkckpmcpmngiiaaGreatDoorLawB
set_option linter.unusedSimpArgs false
set_option linter.unusedVariables false
set_option maxRecDepth 1000000
set_option maxHeartbeats 1000000
namespace Go.Proofs.YtkckpmcpmngiiaaGreatDoor
open Go Go.Pm Go.RowKit
/-- An element's line without what stands ahead of it, and without the last line's end. -/
def bodyP (m : Nat) (ind : Bs) (n : Nd) : Bs := 60 :: (n.name ++ (prAs n.attrs ++ (if n.kids ≠ [] then 62 :: 10 :: (n.kids.flatMap (prN m (ind ++ [32, 32])) ++ (ind ++ (60 :: 47 :: (n.name ++ [62])))) else if n.text = [] then [47, 62] else 62 :: (esc n.text ++ (60 :: 47 :: (n.name ++ [62]))))))
theorem prN_body (m : Nat) (ind : Bs) (n : Nd) : prN (m + 1) ind n = ind ++ (bodyP m ind n ++ [10]) := by
  unfold bodyP
  simp only [prN, id]
  by_cases h : n.kids = []
  · by_cases h2 : n.text = []
    · simp [h, h2]
    · simp [h, h2]
  · simp [h]
theorem own_parts {n : Nd} (h : ownE n = 0) : isName n.name = true ∧ n.attrs.length ≤ 32 ∧ attrE [] n.attrs = 0 ∧ (n.kids ≠ [] → n.text = []) ∧ dataE n.text = 0 := by
  unfold ownE at h
  split at h
  · cases h
  · rename_i h1
    split at h
    · cases h
    · rename_i h2
      split at h
      · rename_i h3; exact absurd h h3
      · rename_i h3
        split at h
        · cases h
        · rename_i h4
          refine ⟨by simpa using h1, by omega, by omega, fun hk => ?_, h⟩
          apply Classical.byContradiction
          intro ht; exact h4 ⟨ht, hk⟩
theorem each_parts {n : Nd} (h : n.eachE = 0) : ownE n = 0 ∧ eachL n.kids = 0 := by
  rw [each_eq] at h
  split at h
  · rename_i h1; exact absurd h h1
  · rename_i h1; exact ⟨by omega, h⟩
theorem eachL_cons {c : Nd} {r : List Nd} (h : eachL (c :: r) = 0) : c.eachE = 0 ∧ eachL r = 0 := by
  simp only [eachL] at h
  split at h
  · rename_i h1; exact absurd h h1
  · rename_i h1; exact ⟨by omega, h⟩
/-- An element's end. -/
theorem close_on {s t nm : Bs} {g : Rd} {k : Nat} (h : On s g (60 :: 47 :: (nm ++ (62 :: t))) k) (hn : isName nm = true) : On s (g.close s nm) t k := by
  have h2 := (h.expect (n := 60) (by decide)).expect (n := 47) (by decide)
  obtain ⟨m1, m2⟩ := h2.name hn (fun c' r' e => by cases e; decide)
  have e : Rd.close2 s (g.close1 s) nm = ((g.close1 s).name s).2 := by
    unfold Rd.close2
    rw [if_neg (by rw [show g.close1 s = (g.expect s 60).expect s 47 from rfl, m1]; simp)]
  unfold Rd.close
  rw [e]
  exact (m2.blanks0 (by decide)).expect (by decide)
theorem misc_on {s a t : Bs} {g : Rd} {k : Nat} (h : On s g (a ++ t) k) (ha : ∀ c ∈ a, bB blaZ c = true) (ht : ∀ c r, t = c :: r → bB blaZ c = false) (hc : hasPre t com = false) :
    ∃ g2, g.misc s = some g2 ∧ On s g2 t k := by
  obtain ⟨h1, -⟩ := h.blanks ha ht
  refine ⟨g.blanks s, ?_, h1⟩
  unfold Rd.misc
  simp only [Rd.miscL]
  rw [h1.sees, hc]; simp
/-- Ahead of a text no child begins. -/
theorem text_ahead (x t : Bs) : (hasPre ((esc x ++ 60 :: 47 :: t).dropWhile (blanks3.contains ·)) [60] && !hasPre ((esc x ++ 60 :: 47 :: t).dropWhile (blanks3.contains ·)) [60, 47]) = false := by
  induction x with
  | nil =>
    rw [show esc [] ++ 60 :: 47 :: t = 60 :: 47 :: t from rfl, List.dropWhile_cons, if_neg (by decide)]
    simp [hasPre_cons, hasPre_nil]
  | cons b x ih =>
    rw [esc_cons, List.append_assoc]
    rcases esc1_or b with ⟨h1, n1, n2, n3, n4, n5, n6⟩ | ⟨i, r, hi, h1, -⟩
    · rw [h1, List.singleton_append, List.dropWhile_cons]
      by_cases hb : b = 32
      · subst hb
        rw [if_pos (by decide)]; exact ih
      · have n0 : ¬ b.toNat = 32 := fun e => hb (UInt8.toNat_inj.1 e)
        have hnb : ¬ (blanks3.contains b = true) := by
          intro hc
          simp only [blanks3, List.contains_cons, List.contains_nil, Bool.or_eq_true, beq_iff_eq, Bool.or_false] at hc
          rcases hc with rfl | rfl | rfl
          · exact n0 rfl
          · exact n5 rfl
          · exact n6 rfl
        rw [if_neg hnb, hasPre_cons]
        have : b ≠ 60 := fun e => n2 (by subst e; rfl)
        simp [this]
    · rw [h1, List.cons_append, List.dropWhile_cons, if_neg (by decide), hasPre_cons]
      simp
theorem dw_blank {a t : Bs} (ha : ∀ c ∈ a, bB blaZ c = true) (ht : ∀ c r, t = c :: r → bB blaZ c = false) : (a ++ t).dropWhile (blanks3.contains ·) = t := by
  have key : ∀ c : UInt8, blanks3.contains c = bB blaZ c := by
    intro c
    have e : ∀ d : UInt8, (c = d) ↔ c.toNat = d.toNat := fun d => UInt8.toNat_inj.symm
    rw [Bool.eq_iff_iff]
    unfold bB blaZ
    simp only [blanks3, List.contains_cons, List.contains_nil, Bool.or_false, Bool.or_eq_true, beq_iff_eq, decide_eq_true_eq, e]
    show c.toNat = 32 ∨ c.toNat = 9 ∨ c.toNat = 10 ↔ _
    omega
  rw [show (fun c => blanks3.contains c) = bB blaZ from funext key]
  exact dw_app ha ht
/-- What stands ahead of the next child, or of the end. -/
def kidsT (m : Nat) (ind E : Bs) : List Nd → Bs
  | [] => E
  | c :: r => bodyP m (ind ++ [32, 32]) c ++ (10 :: (r.flatMap (prN (m + 1) (ind ++ [32, 32])) ++ (ind ++ E)))
theorem two_head {nm W Z q : Bs} {b : UInt8} (h : nm = b :: q) : ∃ r, (60 :: (nm ++ W)) ++ Z = 60 :: b :: r := ⟨(q ++ W) ++ Z, by rw [h]; rfl⟩
theorem kidsT_head {m : Nat} {ind t nm : Bs} : ∀ {ks : List Nd}, eachL ks = 0 → ∃ c r, kidsT m ind (60 :: 47 :: t) ks = 60 :: c :: r ∧ c ≠ 33 ∧ (ks ≠ [] → c ≠ 47)
  | [], _ => ⟨47, t, rfl, by decide, fun h => absurd rfl h⟩
  | c :: r, h => by
    obtain ⟨e1, -⟩ := eachL_cons h
    obtain ⟨o1, -⟩ := each_parts e1
    obtain ⟨b, q, ec, -, hb, -⟩ := name_parts (own_parts o1).1
    obtain ⟨-, h1, -, h3⟩ := beg_not hb
    obtain ⟨r', hr⟩ := two_head (W := prAs c.attrs ++ (if c.kids ≠ [] then 62 :: 10 :: (c.kids.flatMap (prN m ((ind ++ [32, 32]) ++ [32, 32])) ++ ((ind ++ [32, 32]) ++ (60 :: 47 :: (c.name ++ [62])))) else if c.text = [] then [47, 62] else 62 :: (esc c.text ++ (60 :: 47 :: (c.name ++ [62])))))
      (Z := 10 :: (r.flatMap (prN (m + 1) (ind ++ [32, 32])) ++ (ind ++ (60 :: 47 :: t)))) ec
    exact ⟨b, r', hr, h3, fun _ => h1⟩
theorem kidsT_misc {s ind t : Bs} {m : Nat} {ks : List Nd} {g : Rd} {k : Nat} (hE : eachL ks = 0) (hind : ∀ c ∈ ind, bB blaZ c = true) (h : On s g (10 :: (ks.flatMap (prN (m + 1) (ind ++ [32, 32])) ++ (ind ++ (60 :: 47 :: t)))) k) :
    ∃ g2, g.misc s = some g2 ∧ On s g2 (kidsT m ind (60 :: 47 :: t) ks) k := by
  obtain ⟨c, r, e, h33, -⟩ := kidsT_head (m := m) (ind := ind) (t := t) (nm := []) hE
  have e1 : 10 :: (ks.flatMap (prN (m + 1) (ind ++ [32, 32])) ++ (ind ++ (60 :: 47 :: t))) = (10 :: (if ks = [] then ind else ind ++ [32, 32])) ++ kidsT m ind (60 :: 47 :: t) ks := by
    cases ks with
    | nil => simp [kidsT]
    | cons c r => simp [kidsT, prN_body]
  rw [e1] at h
  refine misc_on h (fun x hx => ?_) (fun x q hx => ?_) ?_
  · rcases List.mem_cons.1 hx with rfl | hx
    · decide
    · split at hx
      · exact hind x hx
      · rcases List.mem_append.1 hx with hx | hx
        · exact hind x hx
        · simp at hx; subst hx; decide
  · rw [e] at hx; cases hx; decide
  · rw [e]; simp [com, hasPre_cons, h33]
theorem kids_on {s ind t : Bs} {m lv : Nat} (hind : ∀ c ∈ ind, bB blaZ c = true)
    (ih : ∀ (n : Nd) (g : Rd) (t : Bs) (k : Nat), n.depth ≤ m + 1 → lv + n.depth ≤ 33 → n.eachE = 0 → k + n.count ≤ 65536 → On s g (bodyP m (ind ++ [32, 32]) n ++ 10 :: t) k → ∃ g', Rd.elem s (m + 1) lv g = some (n, g') ∧ On s g' (10 :: t) (k + n.count)) :
    ∀ (ks acc : List Nd) (f : Nat) (g : Rd) (k : Nat), ks.length < f → (acc = [] → ks ≠ []) → eachL ks = 0 → depthL ks ≤ m + 1 → lv + depthL ks ≤ 33 → k + countL ks ≤ 65536 → On s g (kidsT m ind (60 :: 47 :: t) ks) k →
    ∃ g', Rd.kidsN s (Rd.elem s (m + 1) lv) f g acc = some (acc ++ ks, g') ∧ On s g' (60 :: 47 :: t) (k + countL ks)
  | ks, acc, 0, g, k, hf, _, _, _, _, _, _ => by omega
  | [], acc, f + 1, g, k, hf, ha, hE, hd, hlv, hk, h => by
    have h : On s g (60 :: 47 :: t) k := h
    refine ⟨g, ?_, by simpa [countL] using h⟩
    simp only [Rd.kidsN]
    rw [if_neg]
    · simp
    · rintro ⟨-, h1 | h1⟩
      · exact ha h1 rfl
      · rw [h.sees] at h1; simp [hasPre_cons, hasPre_nil] at h1
  | c :: r, acc, f + 1, g, k, hf, ha, hE, hd, hlv, hk, h => by
    obtain ⟨e1, e2⟩ := eachL_cons hE
    simp only [depthL] at hd hlv
    simp only [countL] at hk
    simp only [List.length_cons] at hf
    obtain ⟨c1, r1, eh, -, h47⟩ := kidsT_head (m := m) (ind := ind) (t := t) (nm := []) hE
    have hs : g.sees s [60, 47] = false := by rw [h.sees, eh]; simp [hasPre_cons, h47 (by simp)]
    obtain ⟨g1, i1, i2⟩ := ih c g _ k (by omega) (by omega) e1 (by omega) h
    obtain ⟨g2, j1, j2⟩ := kidsT_misc e2 hind i2
    obtain ⟨g', l1, l2⟩ := kids_on hind ih r (acc ++ [c]) f g2 (k + c.count) (by omega) (by simp) e2 (by omega) (by omega) (by omega) j2
    refine ⟨g', ?_, ?_⟩
    · simp only [Rd.kidsN]
      rw [if_pos ⟨h.e, .inr hs⟩, i1]
      simp only []
      rw [j1]
      simp only []
      rw [l1]; simp
    · simp only [countL]; rw [← Nat.add_assoc]; exact l2
theorem flat_len (m : Nat) (ind : Bs) : ∀ ks : List Nd, ks.length ≤ (ks.flatMap (prN (m + 1) ind)).length
  | [] => by simp
  | c :: r => by
    have := flat_len m ind r
    rw [List.flatMap_cons, prN_body, List.length_cons]
    simp only [List.length_append, List.length_cons]
    omega
theorem prAs_len : ∀ l : List (Bs × Bs), l.length ≤ (prAs l).length
  | [] => by simp
  | a :: l => by
    have := prAs_len l
    rw [prAs_cons, List.length_cons, List.length_append]
    have : 1 ≤ (prA a).length := by unfold prA; simp only [List.length_append, List.length_cons]; omega
    omega
theorem front_on {s nm T : Bs} {l : List (Bs × Bs)} {d : UInt8} {g : Rd} {k lv : Nat} (h : On s g (60 :: (nm ++ (prAs l ++ (d :: T)))) k) (hd : d = 47 ∨ d = 62) (hk : k < 65536) (hlv : lv ≤ 32) (hn : isName nm = true) (hl : l.length ≤ 32) (hE : attrE [] l = 0) :
    ∃ g4, ((g.el1 s lv).el2 s).attrsN s (s.length + 3) [] = some (l, g4, if d = 47 then 1 else 2) ∧ On s g4 (d :: T) (k + 1) ∧ ((g.el1 s lv).name s).1 = nm := by
  have e0 : g.el0 s lv = g := by
    unfold Rd.el0
    rw [if_neg]
    rintro ⟨-, h1 | h1⟩
    · rw [h.n] at h1; omega
    · omega
  have h1 : On s (g.el1 s lv) (nm ++ (prAs l ++ (d :: T))) (k + 1) := by
    unfold Rd.el1
    rw [e0]
    have : On s ⟨g.at', g.n + 1, g.e⟩ (60 :: (nm ++ (prAs l ++ (d :: T)))) (k + 1) := ⟨h.e, h.le, h.dr, by show g.n + 1 = _; rw [h.n]⟩
    exact this.expect (by decide)
  have hst : ∀ (c : UInt8) (r : Bs), prAs l ++ (d :: T) = c :: r → bB inZ c = false := fun c r e => by
    cases l with
    | nil =>
      have e : d :: T = c :: r := e
      cases e
      rcases hd with rfl | rfl <;> decide
    | cons a q =>
      rw [prAs_cons] at e
      unfold prA at e
      simp only [List.append_assoc, List.cons_append, List.nil_append] at e
      cases e; decide
  obtain ⟨n1, n2⟩ := h1.name hn hst
  obtain ⟨c, r, -, hlen, -, -⟩ := name_parts hn
  have e2 : (g.el1 s lv).el2 s = ((g.el1 s lv).name s).2 := by
    unfold Rd.el2; rw [n1, if_neg (by omega)]
  have := n2.len
  rw [List.length_append] at this
  have := prAs_len l
  obtain ⟨g4, q1, q2⟩ := attrs_on hd l (s.length + 3) [] _ n2 (by omega) hE (by simpa using hl)
  rw [e2]
  exact ⟨g4, q1, q2, n1⟩
theorem On.next {s t : Bs} {c : UInt8} {g : Rd} {k : Nat} (h : On s g (c :: t) k) : On s g.next t k := On.move (a := [c]) h
def ElOn (s : Bs) (m : Nat) : Prop := ∀ (n : Nd) (ind : Bs) (lv : Nat) (g : Rd) (t : Bs) (k : Nat), (∀ c ∈ ind, bB blaZ c = true) → n.depth ≤ m + 1 → lv + n.depth ≤ 33 → n.eachE = 0 → k + n.count ≤ 65536 →
    On s g (bodyP m ind n ++ 10 :: t) k → ∃ g', Rd.elem s (m + 1) lv g = some (n, g') ∧ On s g' (10 :: t) (k + n.count)
theorem elem_step {s : Bs} (m : Nat) (K : ∀ m', m = m' + 1 → ElOn s m') : ElOn s m := by
  intro n ind lv g t k hind hd hlv hE hk h
  obtain ⟨hO, hL⟩ := each_parts hE
  obtain ⟨o1, o2, o3, o4, o5⟩ := own_parts hO
  have hcnt := count_eq n
  have hdep := depth_eq n
  have en : n = .mk n.name n.attrs n.text n.kids := by cases n; rfl
  by_cases hkid : n.kids = []
  · have hc1 : n.count = 1 := by rw [hcnt, hkid]; rfl
    rw [hc1]
    by_cases htx : n.text = []
    · have h0 : On s g (60 :: (n.name ++ (prAs n.attrs ++ (47 :: (62 :: 10 :: t))))) k := by
        have e : bodyP m ind n ++ 10 :: t = 60 :: (n.name ++ (prAs n.attrs ++ (47 :: (62 :: 10 :: t)))) := by simp [bodyP, hkid, htx]
        rw [← e]; exact h
      obtain ⟨g4, q1, q2, q3⟩ := front_on (lv := lv) h0 (.inl rfl) (by omega) (by omega) o1 o2 o3
      refine ⟨g4.next.expect s 62, ?_, q2.next.expect (by decide)⟩
      rw [Rd.elem]
      rw [q1, if_pos rfl]
      simp only []
      rw [q3]
      exact congrArg some (Prod.ext (by rw [hkid, htx] at en; exact en.symm) rfl)
    · have h0 : On s g (60 :: (n.name ++ (prAs n.attrs ++ (62 :: (esc n.text ++ (60 :: 47 :: (n.name ++ (62 :: 10 :: t)))))))) k := by
        have e : bodyP m ind n ++ 10 :: t = 60 :: (n.name ++ (prAs n.attrs ++ (62 :: (esc n.text ++ (60 :: 47 :: (n.name ++ (62 :: 10 :: t))))))) := by simp [bodyP, hkid, htx]
        rw [← e]; exact h
      obtain ⟨g4, q1, q2, q3⟩ := front_on (lv := lv) h0 (.inr rfl) (by omega) (by omega) o1 o2 o3
      have hN := q2.next
      obtain ⟨c1, c2⟩ := hN.charsT (en := 60) (by decide) (.inr rfl)
      have hik : isKids s g4.next = false := by
        unfold isKids
        rw [hN.dr]; exact text_ahead n.text _
      have ht : g4.next.text s = (g4.next.charsT s 60).2 := by
        unfold Rd.text
        rw [c1, if_neg (by have := (dataE_zero o5).1; omega)]
      refine ⟨((g4.next.text s).close s n.name), ?_, ?_⟩
      · rw [Rd.elem]
        rw [q1, if_neg (by decide)]
        simp only []
        unfold Rd.contN
        rw [hik, if_neg (by decide), q3, c1]
        simp only []
        exact congrArg some (Prod.ext (by rw [hkid] at en; exact en.symm) rfl)
      · rw [ht]
        exact close_on c2 o1
  · obtain ⟨m', rfl⟩ : ∃ m', m = m' + 1 := by
      cases m with
      | zero =>
        cases hq : n.kids with
        | nil => exact absurd hq hkid
        | cons c r => rw [hq] at hdep; simp only [depthL] at hdep; have := depth_eq c; omega
      | succ m => exact ⟨m, rfl⟩
    have htx := o4 hkid
    have h0 : On s g (60 :: (n.name ++ (prAs n.attrs ++ (62 :: (10 :: (n.kids.flatMap (prN (m' + 1) (ind ++ [32, 32])) ++ (ind ++ (60 :: 47 :: (n.name ++ (62 :: 10 :: t)))))))))) k := by
      have e : bodyP (m' + 1) ind n ++ 10 :: t = 60 :: (n.name ++ (prAs n.attrs ++ (62 :: (10 :: (n.kids.flatMap (prN (m' + 1) (ind ++ [32, 32])) ++ (ind ++ (60 :: 47 :: (n.name ++ (62 :: 10 :: t))))))))) := by simp [bodyP, hkid]
      rw [← e]; exact h
    obtain ⟨g4, q1, q2, q3⟩ := front_on (lv := lv) h0 (.inr rfl) (by omega) (by omega) o1 o2 o3
    have hN := q2.next
    have hlen := hN.len
    simp only [List.length_cons, List.length_append] at hlen
    have hfl := flat_len m' (ind ++ [32, 32]) n.kids
    obtain ⟨c, r, eh, -, h47⟩ := kidsT_head (m := m') (ind := ind) (t := n.name ++ (62 :: 10 :: t)) (nm := []) hL
    have h47 := h47 hkid
    have hik : isKids s g4.next = true := by
      unfold isKids
      have e1 : 10 :: (n.kids.flatMap (prN (m' + 1) (ind ++ [32, 32])) ++ (ind ++ (60 :: 47 :: (n.name ++ (62 :: 10 :: t))))) = (10 :: (ind ++ [32, 32])) ++ kidsT m' ind (60 :: 47 :: (n.name ++ (62 :: 10 :: t))) n.kids := by
        cases hq : n.kids with
        | nil => exact absurd hq hkid
        | cons c r => simp [kidsT, prN_body]
      rw [hN.dr, e1, dw_blank (fun x hx => by
        rcases List.mem_cons.1 hx with rfl | hx
        · decide
        · rcases List.mem_append.1 hx with hx | hx
          · exact hind x hx
          · simp at hx; subst hx; decide) (fun x q hx => by rw [eh] at hx; cases hx; decide), eh]
      simp [hasPre_cons, hasPre_nil, h47]
    obtain ⟨g5, j1, j2⟩ := kidsT_misc hL hind hN
    have ih := K m' rfl
    obtain ⟨g6, l1, l2⟩ := kids_on (m := m') (lv := lv + 1) hind (fun c g t k a1 a2 a3 a4 a5 => ih c (ind ++ [32, 32]) (lv + 1) g t k (fun x hx => by
        rcases List.mem_append.1 hx with hx | hx
        · exact hind x hx
        · simp at hx; subst hx; decide) a1 a2 a3 a4 a5) n.kids [] (s.length + 2) g5 (k + 1) (by omega) (fun _ => hkid) hL (by omega) (by omega) (by omega) j2
    refine ⟨g6.close s n.name, ?_, ?_⟩
    · rw [Rd.elem]
      rw [q1, if_neg (by decide)]
      simp only []
      unfold Rd.contN
      rw [hik, if_pos rfl, j1, q3]
      simp only []
      rw [l1]
      simp only [List.nil_append]
      exact congrArg some (Prod.ext (by rw [htx] at en; exact en.symm) rfl)
    · rw [hcnt, ← Nat.add_assoc]
      exact close_on l2 o1
theorem elem_on {s : Bs} : ∀ (m : Nat), ElOn s m
  | 0 => elem_step 0 (fun m' h => by omega)
  | m + 1 => elem_step (m + 1) (fun m' h => (show m' = m by omega) ▸ elem_on m)
/-! ## A document -/
theorem per_bla {c : UInt8} (h : bB blaZ c = true) : bB perZ c = true := by
  have := c.toNat_lt
  unfold bB blaZ at h
  unfold bB perZ
  simp only [decide_eq_true_eq] at *
  omega
theorem per_in {c : UInt8} (h : bB inZ c = true) : bB perZ c = true := by
  have := c.toNat_lt
  unfold bB inZ begZ at h
  unfold bB perZ
  simp only [decide_eq_true_eq, Bool.or_eq_true] at *
  omega
theorem per_esc {x : Bs} (h : x.all (bB perZ) = true) : (esc x).all (bB perZ) = true := by
  induction x with
  | nil => rfl
  | cons b x ih =>
    simp only [List.all_cons, Bool.and_eq_true] at h
    rw [esc_cons, List.all_append, ih h.2, Bool.and_true]
    unfold esc1
    repeat' split
    all_goals first | decide | simp [h.1]
theorem per_name {nm : Bs} (h : isName nm = true) : nm.all (bB perZ) = true := by
  obtain ⟨-, -, -, -, -, hi⟩ := name_parts h
  exact List.all_eq_true.2 fun x hx => per_in (hi x hx)
theorem per_attrs : ∀ (l pre : List (Bs × Bs)), attrE pre l = 0 → (prAs l).all (bB perZ) = true
  | [], _, _ => rfl
  | a :: l, pre, h => by
    obtain ⟨e1, -, e3, e4⟩ := attrE_cons h
    rw [prAs_cons, List.all_append, per_attrs l _ e4, Bool.and_true]
    unfold prA
    simp only [List.all_append, per_name e1, per_esc (dataE_zero e3).2, Bool.and_true, Bool.true_and]
    decide
theorem per_body : ∀ (m : Nat) (ind : Bs) (n : Nd), n.eachE = 0 → (∀ c ∈ ind, bB blaZ c = true) → (prN m ind n).all (bB perZ) = true
  | 0, ind, n, _, _ => rfl
  | m + 1, ind, n, hE, hind => by
    obtain ⟨hO, hL⟩ := each_parts hE
    obtain ⟨o1, o2, o3, o4, o5⟩ := own_parts hO
    have hi : ind.all (bB perZ) = true := List.all_eq_true.2 fun x hx => per_bla (hind x hx)
    have hk : ∀ ks : List Nd, eachL ks = 0 → (ks.flatMap (prN m (ind ++ [32, 32]))).all (bB perZ) = true := by
      intro ks
      induction ks with
      | nil => intro _; rfl
      | cons c r ih =>
        intro h
        obtain ⟨e1, e2⟩ := eachL_cons h
        rw [List.flatMap_cons, List.all_append, ih e2, per_body m _ c e1 (fun x hx => by
          rcases List.mem_append.1 hx with hx | hx
          · exact hind x hx
          · simp at hx; subst hx; decide)]; rfl
    rw [prN_body]
    unfold bodyP
    have c60 : bB perZ 60 = true := by decide
    have c62 : bB perZ 62 = true := by decide
    have c47 : bB perZ 47 = true := by decide
    have c10 : bB perZ 10 = true := by decide
    split
    · simp only [List.all_append, List.all_cons, List.all_nil, hi, per_name o1, per_attrs _ _ o3, hk _ hL, c60, c62, c47, c10, Bool.and_true, Bool.and_self]
    · split
      · simp only [List.all_append, List.all_cons, List.all_nil, hi, per_name o1, per_attrs _ _ o3, c60, c62, c47, c10, Bool.and_true, Bool.and_self]
      · simp only [List.all_append, List.all_cons, List.all_nil, hi, per_name o1, per_attrs _ _ o3, per_esc (dataE_zero o5).2, c60, c62, c47, c10, Bool.and_true, Bool.and_self]
theorem chkE_zero {n : Nd} (h : chkE n = 0) : n.depth ≤ 32 ∧ n.count ≤ 65536 ∧ n.eachE = 0 := by
  unfold chkE at h
  split at h
  · rename_i h1; exact ⟨h1.1, h1.2, h⟩
  · cases h
theorem start_on {s : Bs} (h : s.all (bB perZ) = true) : startAt s 0 = ⟨0, 0, 0⟩ := by
  have e : skip (bB perZ) s 0 = s.length := by
    unfold skip
    have := tw_app (p := bB perZ) (a := s) (t := []) (fun c hc => List.all_eq_true.1 h c hc) (fun c r e => by cases e)
    rw [List.append_nil] at this
    rw [List.drop_zero, this]; omega
  unfold startAt
  rw [e, if_neg (by omega)]
/-- The round trip. -/
theorem round_trip {n : Nd} (h : chkE n = 0) : ∃ g, parseR (prN 40 [] n) = some (n, g) ∧ g.e = 0 := by
  obtain ⟨h1, h2, h3⟩ := chkE_zero h
  have hp := per_body 40 [] n h3 (by simp)
  have hb := prN_body 39 [] n
  rw [List.nil_append] at hb
  have hP : prN 40 [] n = bodyP 39 [] n ++ [10] := hb
  generalize prN 40 [] n = s at *
  have h0 : On s ⟨0, 0, 0⟩ s 0 := ⟨rfl, Nat.zero_le _, rfl, rfl⟩
  obtain ⟨c, r, eh, h33, -⟩ := kidsT_head (m := 39) (ind := []) (t := []) (nm := []) (ks := [n]) (by simp only [eachL, h3]; decide)
  obtain ⟨b, q, ec, -, hbg, -⟩ := name_parts (own_parts (each_parts h3).1).1
  obtain ⟨q', es⟩ : ∃ q', s = 60 :: b :: q' := by rw [hP]; exact two_head ec
  obtain ⟨-, -, -, hb33⟩ := beg_not hbg
  obtain ⟨g1, i1, i2⟩ := misc_on (a := []) (t := s) (by simpa using h0) (by simp) (fun x r hx => by rw [es] at hx; cases hx; decide) (by rw [es]; simp [com, hasPre_cons, hb33])
  have i3 : On s g1 (bodyP 39 [] n ++ 10 :: []) 0 := ⟨i2.e, i2.le, i2.dr.trans hP, i2.n⟩
  obtain ⟨g2, j1, j2⟩ := elem_on 39 n [] 1 g1 [] 0 (by simp) (by omega) (by omega) h3 (by omega) i3
  obtain ⟨g3, l1, l2⟩ := misc_on (a := [10]) (t := []) j2 (by decide) (fun x r hx => by cases hx) (by decide)
  have hl := l2.len
  refine ⟨g3, ?_, l2.e⟩
  unfold parseR
  rw [start_on hp, i1]
  simp only []
  rw [j1]
  simp only []
  rw [l1]
  simp only []
  rw [if_neg (by simp only [List.length_nil] at hl; omega)]
end Go.Proofs.YtkckpmcpmngiiaaGreatDoor
