/- The reader: attributes, elements; their plain form and their walk. -/
import Derived.Test.YtkckpmcpmngiiaaGreatDoorT4
import Derived.Test.YtkckpmcpmngiiaaGreatDoorPmCut
/- The reader in plain Lean: attributes, elements, content; what every step keeps. -/
set_option linter.unusedSimpArgs false
set_option linter.unusedVariables false
set_option maxRecDepth 1000000
set_option maxHeartbeats 400000
namespace Go.Proofs.YtkckpmcpmngiiaaGreatDoor
open Go Go.Pm Go.RowKit
/-- A step of the reader: the number of elements stays, it stays within the text, an error stays, it goes on. -/
structure Stp (s : Bs) (g g' : Rd) : Prop where
  n : g'.n = g.n
  ok : g.ok' s → g'.ok' s
  bad : g.e ≠ 0 → g'.e ≠ 0
  up : g'.e = 0 → g.at' ≤ g'.at'
theorem Stp.refl (s : Bs) (g : Rd) : Stp s g g := ⟨rfl, id, id, fun _ => Nat.le_refl _⟩
theorem Stp.trans {s : Bs} {a b c : Rd} (h : Stp s a b) (k : Stp s b c) : Stp s a c :=
  ⟨k.n.trans h.n, fun x => k.ok (h.ok x), fun x => k.bad (h.bad x), fun x => Nat.le_trans (h.up (by
    apply Classical.byContradiction; intro hb; exact k.bad hb x)) (k.up x)⟩
theorem Stp.good {s : Bs} {a b : Rd} (h : Stp s a b) (he : b.e = 0) : a.e = 0 := Classical.byContradiction fun hb => h.bad hb he
theorem stp_fail (s : Bs) (g : Rd) (p e : Nat) (he : e ≠ 0) : Stp s g (g.fail p e) := by
  refine ⟨?_, fun h => ok_fail h p e he, ?_, ?_⟩
  · unfold Rd.fail; split <;> rfl
  · unfold Rd.fail; split
    · exact fun _ => he
    · exact id
  · unfold Rd.fail; split
    · exact fun h => absurd h he
    · exact fun _ => Nat.le_refl _
theorem fail_bad {g : Rd} {p e : Nat} (he : e ≠ 0) : (g.fail p e).e ≠ 0 := by
  unfold Rd.fail; split
  · exact he
  · assumption
theorem stp_blanks (s : Bs) (g : Rd) : Stp s g (g.blanks s) := by
  refine ⟨?_, ok_blanks, ?_, ?_⟩
  · unfold Rd.blanks; split <;> rfl
  · unfold Rd.blanks; split <;> exact id
  · unfold Rd.blanks; split
    · exact fun _ => skip_ge
    · exact fun _ => Nat.le_refl _
theorem stp_expect (s : Bs) (g : Rd) (c : Nat) : Stp s g (g.expect s c) := by
  refine ⟨?_, fun h => ok_expect h c, ?_, ?_⟩
  · unfold Rd.expect; repeat' split
    all_goals rfl
  · unfold Rd.expect; intro h; rw [if_pos h]; exact h
  · unfold Rd.expect
    split
    · exact fun _ => Nat.le_refl _
    · split
      · intro h; cases h
      · split
        · intro _; exact Nat.le_succ _
        · intro h; cases h
theorem expect_up {s : Bs} {g : Rd} {c : Nat} (h : (g.expect s c).e = 0) : g.at' + 1 ≤ (g.expect s c).at' ∧ (g.expect s c).at' = g.at' + 1 ∧ ∃ b, s[g.at']? = some b ∧ b.toNat = c := by
  unfold Rd.expect at h ⊢
  split at h
  · rename_i hn; exact absurd h hn
  · rename_i hn
    rw [if_neg hn]
    split at h
    · cases h
    · rename_i b hb
      try rw [hb]
      try simp only []
      split at h
      · rename_i hc; rw [if_pos hc]; exact ⟨Nat.le_refl _, rfl, b, rfl, hc⟩
      · cases h
theorem stp_name (s : Bs) (g : Rd) : Stp s g (g.name s).2 := by
  refine ⟨?_, ok_name, ?_, ?_⟩
  · unfold Rd.name; repeat' split
    all_goals rfl
  · unfold Rd.name; intro h; rw [if_pos h]; exact h
  · unfold Rd.name
    split
    · exact fun _ => Nat.le_refl _
    · split
      · intro h; cases h
      · split
        · intro _; exact skip_ge
        · intro h; cases h
theorem chars_n {s : Bs} {en : Nat} : ∀ (f : Nat) (acc : Bs) (g : Rd), (g.chars s en f acc).2.n = g.n
  | 0, acc, g => rfl
  | f + 1, acc, g => by
    simp only [Rd.chars]
    split
    · rfl
    · split
      · rfl
      · split
        · rfl
        · split
          · split
            · rfl
            · split
              · exact chars_n f _ _
              · rfl
          · exact chars_n f _ _
theorem chars_up {s : Bs} {en : Nat} : ∀ (f : Nat) (acc : Bs) (g : Rd), (g.chars s en f acc).2.e = 0 → g.at' ≤ (g.chars s en f acc).2.at'
  | 0, acc, g => fun _ => Nat.le_refl _
  | f + 1, acc, g => by
    simp only [Rd.chars]
    split
    · intro h; cases h
    · split
      · exact fun _ => Nat.le_refl _
      · split
        · intro h; cases h
        · split
          · split
            · intro h; cases h
            · split
              · intro h; exact Nat.le_trans (Nat.le_add_right _ _) (chars_up f _ _ h)
              · exact fun _ => Nat.le_refl _
          · intro h; exact Nat.le_trans (Nat.le_succ _) (chars_up f _ _ h)
theorem stp_charsT (s : Bs) (g : Rd) (en : Nat) : Stp s g (g.charsT s en).2 := by
  refine ⟨?_, ok_charsT, ?_, ?_⟩
  · unfold Rd.charsT; split
    · rfl
    · exact chars_n _ _ _
  · unfold Rd.charsT; intro h; rw [if_pos h]; exact h
  · unfold Rd.charsT; split
    · exact fun _ => Nat.le_refl _
    · exact chars_up _ _ _
theorem stp_if {s : Bs} {g a b : Rd} {p : Prop} [Decidable p] (h : Stp s g a) (k : Stp s g b) : Stp s g (if p then a else b) := by split <;> assumption
theorem stp_attr1 (s : Bs) (g : Rd) (l : List (Bs × Bs)) : Stp s g (g.attr1 s l) := by
  have h := stp_name s g
  unfold Rd.attr1
  exact stp_if (h.trans (stp_fail _ _ _ _ (by decide))) (stp_if (h.trans (stp_fail _ _ _ _ (by decide))) (stp_if (h.trans (stp_fail _ _ _ _ (by decide))) h))
theorem stp_attr2 (s : Bs) (g : Rd) : Stp s g (g.attr2 s) := ((stp_blanks s g).trans (stp_expect s _ 61)).trans (stp_blanks s _)
theorem stp_attr3 (s : Bs) (g : Rd) : Stp s g (g.attr3 s).2 := ((stp_attr2 s g).trans (stp_expect s _ 34)).trans (stp_charsT s _ 34)
theorem stp_attr4 (s : Bs) (g : Rd) : Stp s g (g.attr4 s) := ((stp_attr3 s g).trans (stp_if (stp_fail _ _ _ _ (by decide)) (Stp.refl _ _))).trans (stp_expect s _ 34)
theorem attr1_full {s : Bs} {g : Rd} {l : List (Bs × Bs)} (h : l.length = 32) : (g.attr1 s l).e ≠ 0 := by
  unfold Rd.attr1
  split
  · exact fail_bad (by decide)
  · exact fail_bad (by decide)
theorem stp_to (s : Bs) (g : Rd) (a : Nat) (h : a ≤ s.length) (hu : g.at' ≤ a) : Stp s g (g.to s a) := by
  refine ⟨?_, fun _ => ok_to h, ?_, ?_⟩
  · unfold Rd.to; split
    · unfold Rd.fail; split <;> rfl
    · rfl
  · unfold Rd.to; split
    · intro he; exact fail_bad (by decide)
    · exact id
  · unfold Rd.to; split
    · intro he; exact absurd he (fail_bad (by decide))
    · exact fun _ => hu
theorem stp_miscL {s : Bs} : ∀ (f : Nat) {g g2 : Rd}, g.miscL s f = some g2 → Stp s g g2
  | 0, g, g2, h => by cases h
  | f + 1, g, g2, h => by
    simp only [Rd.miscL] at h
    split at h
    · rename_i hse
      split at h
      · cases h; exact stp_fail _ _ _ _ (by decide)
      · rename_i n hi
        have hfit := index_fit (s := s.drop (g.at' + 4)) (n := n) hi
        rw [List.length_drop] at hfit
        have := sees_len hse
        simp only [com, List.length_cons, List.length_nil] at this
        exact (((stp_to s g _ (by omega) (by omega)).trans (stp_expect s _ 62)).trans (stp_blanks s _)).trans (stp_miscL f h)
    · cases h; exact Stp.refl _ _
theorem stp_misc {s : Bs} {g g2 : Rd} (h : g.misc s = some g2) : Stp s g g2 := (stp_blanks s g).trans (stp_miscL _ h)
/-- Between elements there is always an answer. -/
theorem miscL_some {s : Bs} : ∀ (f : Nat) (g : Rd), g.ok' s → (g.e = 0 → s.length - g.at' < f) → 0 < f → ∃ g2, g.miscL s f = some g2
  | 0, g, _, _, h => by omega
  | f + 1, g, hok, hf, _ => by
    simp only [Rd.miscL]
    by_cases hse : g.sees s com = true
    · rw [if_pos hse]
      split
      · exact ⟨_, rfl⟩
      · rename_i n hi
        have hfit := index_fit (s := s.drop (g.at' + 4)) (n := n) hi
        rw [List.length_drop] at hfit
        have hl := sees_len hse
        simp only [com, List.length_cons, List.length_nil] at hl
        have he := sees_e hse
        have st := ((stp_to s g (g.at' + (4 + n + 2)) (by omega) (by omega)).trans (stp_expect s _ 62)).trans (stp_blanks s _)
        have hf := hf he
        refine miscL_some f _ (st.ok hok) (fun he2 => ?_) (by omega)
        have e1 := (stp_blanks s _).good he2
        obtain ⟨u1, u2, _⟩ := expect_up e1
        have u3 := (stp_blanks s _).up he2
        have e3 := (stp_expect s (g.to s (g.at' + (4 + n + 2))) 62).good e1
        have : g.at' + (4 + n + 2) ≤ (g.to s (g.at' + (4 + n + 2))).at' := by
          unfold Rd.to at e3 ⊢
          split
          · rename_i hc; rw [if_pos hc] at e3; exact absurd e3 (fail_bad (by decide))
          · exact Nat.le_refl _
        omega
    · rw [if_neg hse]; exact ⟨_, rfl⟩
theorem misc_some {s : Bs} {g : Rd} (h : g.ok' s) : ∃ g2, g.misc s = some g2 := miscL_some _ _ (ok_blanks h) (fun _ => by omega) (by omega)
/-- The attributes: with an error, or ahead of the slash, or of the angle. -/
def Rd.attrsN (s : Bs) : Nat → Rd → List (Bs × Bs) → Option (List (Bs × Bs) × Rd × Nat)
  | 0, _, _ => none
  | f + 1, g, l => if g.e ≠ 0 then some (l, g, 0) else if (g.blanks s).sees s [47] = true then some (l, g.blanks s, 1) else if (g.blanks s).sees s [62] = true then some (l, g.blanks s, 2)
      else if (g.blanks s).at' = s.length then Rd.attrsN s f ((g.blanks s).fail (g.blanks s).at' 35) l
      else if ¬ g.at' < (g.blanks s).at' then Rd.attrsN s f ((g.blanks s).fail (g.blanks s).at' 13) l
      else Rd.attrsN s f (Rd.attr4 s ((g.blanks s).attr1 s l)) (l ++ [(((g.blanks s).name s).1, (Rd.attr3 s ((g.blanks s).attr1 s l)).1)])
theorem stp_attrsN {s : Bs} : ∀ (f : Nat) {g : Rd} {l l2 : List (Bs × Bs)} {g2 : Rd} {c : Nat}, g.attrsN s f l = some (l2, g2, c) → Stp s g g2
  | 0, g, l, l2, g2, c, h => by cases h
  | f + 1, g, l, l2, g2, c, h => by
    have hb := stp_blanks s g
    simp only [Rd.attrsN] at h
    split at h
    · cases h; exact Stp.refl _ _
    · split at h
      · cases h; exact hb
      · split at h
        · cases h; exact hb
        · split at h
          · exact (hb.trans (stp_fail _ _ _ _ (by decide))).trans (stp_attrsN f h)
          · split at h
            · exact (hb.trans (stp_fail _ _ _ _ (by decide))).trans (stp_attrsN f h)
            · exact ((hb.trans (stp_attr1 s _ l)).trans (stp_attr4 s _)).trans (stp_attrsN f h)
theorem attrsN_code {s : Bs} : ∀ (f : Nat) {g : Rd} {l l2 : List (Bs × Bs)} {g2 : Rd} {c : Nat}, g.attrsN s f l = some (l2, g2, c) → (c = 0 ∧ g2.e ≠ 0) ∨ (c = 1 ∧ g2.sees s [47] = true) ∨ (c = 2 ∧ g2.sees s [62] = true)
  | 0, g, l, l2, g2, c, h => by cases h
  | f + 1, g, l, l2, g2, c, h => by
    simp only [Rd.attrsN] at h
    split at h
    · rename_i he; cases h; exact .inl ⟨rfl, he⟩
    · split at h
      · rename_i hs; cases h; exact .inr (.inl ⟨rfl, hs⟩)
      · split at h
        · rename_i hs; cases h; exact .inr (.inr ⟨rfl, hs⟩)
        · split at h
          · exact attrsN_code f h
          · split at h
            · exact attrsN_code f h
            · exact attrsN_code f h
/-- An element's end. -/
def Rd.close1 (s : Bs) (g : Rd) : Rd := (g.expect s 60).expect s 47
def Rd.close2 (s : Bs) (g : Rd) (nm : Bs) : Rd := if (g.name s).1 ≠ nm then (g.name s).2.fail g.at' 13 else (g.name s).2
def Rd.close (s : Bs) (g : Rd) (nm : Bs) : Rd := ((Rd.close2 s (g.close1 s) nm).blanks s).expect s 62
theorem stp_close1 (s : Bs) (g : Rd) : Stp s g (g.close1 s) := (stp_expect s g 60).trans (stp_expect s _ 47)
theorem stp_close2 (s : Bs) (g : Rd) (nm : Bs) : Stp s g (g.close2 s nm) := (stp_name s g).trans (stp_if (stp_fail _ _ _ _ (by decide)) (Stp.refl _ _))
theorem stp_close (s : Bs) (g : Rd) (nm : Bs) : Stp s g (g.close s nm) := (((stp_close1 s g).trans (stp_close2 s _ nm)).trans (stp_blanks s _)).trans (stp_expect s _ 62)
/-- Children. -/
def Rd.kidsN (s : Bs) (E : Rd → Option (Nd × Rd)) : Nat → Rd → List Nd → Option (List Nd × Rd)
  | 0, _, _ => none
  | f + 1, g, ks => if g.e = 0 ∧ (ks = [] ∨ g.sees s [60, 47] = false) then
      (match E g with
      | none => none
      | some (n, g1) => match g1.misc s with
        | none => none
        | some g2 => Rd.kidsN s E f g2 (ks ++ [n]))
    else some (ks, g)
def isKids (s : Bs) (g : Rd) : Bool := hasPre ((s.drop g.at').dropWhile (blanks3.contains ·)) [60] && !hasPre ((s.drop g.at').dropWhile (blanks3.contains ·)) [60, 47]
def Rd.text (s : Bs) (g : Rd) : Rd := if 4096 < (g.charsT s 60).1.length then (g.charsT s 60).2.fail g.at' 5 else (g.charsT s 60).2
theorem stp_text (s : Bs) (g : Rd) : Stp s g (g.text s) := (stp_charsT s g 60).trans (stp_if (stp_fail _ _ _ _ (by decide)) (Stp.refl _ _))
/-- The content of an element. -/
def Rd.contN (s : Bs) (E : Rd → Option (Nd × Rd)) (g : Rd) (nm : Bs) : Option (Bs × List Nd × Rd) :=
  if isKids s g = true then
    (match g.misc s with
    | none => none
    | some g1 => match Rd.kidsN s E (s.length + 2) g1 [] with
      | none => none
      | some (ks, g2) => some ([], ks, g2.close s nm))
  else some ((g.charsT s 60).1, [], (g.text s).close s nm)
def Rd.next (g : Rd) : Rd := ⟨g.at' + 1, g.n, g.e⟩
def Rd.el0 (s : Bs) (lv : Nat) (g : Rd) : Rd := if g.sees s [60] = true ∧ (g.n = 65536 ∨ 32 < lv) then g.fail g.at' 9 else g
def Rd.el1 (s : Bs) (lv : Nat) (g : Rd) : Rd := Rd.expect s ⟨(g.el0 s lv).at', (g.el0 s lv).n + 1, (g.el0 s lv).e⟩ 60
def Rd.el2 (s : Bs) (g1 : Rd) : Rd := if 32 < (g1.name s).1.length then (g1.name s).2.fail g1.at' 12 else (g1.name s).2
def Rd.elem (s : Bs) : Nat → Nat → Rd → Option (Nd × Rd)
  | 0, _, _ => none
  | m + 1, lv, g => match ((g.el1 s lv).el2 s).attrsN s (s.length + 3) [] with
    | none => none
    | some (l, g4, c) => match c with
      | 0 => some (.mk ((g.el1 s lv).name s).1 l [] [], g4)
      | 1 => some (.mk ((g.el1 s lv).name s).1 l [] [], g4.next.expect s 62)
      | _ => match Rd.contN s (Rd.elem s m (lv + 1)) g4.next ((g.el1 s lv).name s).1 with
        | none => none
        | some (tx, ks, g5) => some (.mk ((g.el1 s lv).name s).1 l tx ks, g5)
theorem stp_el0 (s : Bs) (lv : Nat) (g : Rd) : Stp s g (g.el0 s lv) := stp_if (stp_fail _ _ _ _ (by decide)) (Stp.refl _ _)
theorem stp_el2 (s : Bs) (g : Rd) : Stp s g (g.el2 s) := (stp_name s g).trans (stp_if (stp_fail _ _ _ _ (by decide)) (Stp.refl _ _))
theorem sees_next {s : Bs} {g : Rd} {c : UInt8} (h : g.sees s [c] = true) : g.next.ok' s ∧ g.at' + 1 ≤ s.length := by
  have := sees_len h
  simp only [List.length_cons, List.length_nil] at this
  have h1 : g.at' + 1 ≤ s.length := by omega
  exact ⟨fun _ => h1, h1⟩
end Go.Proofs.YtkckpmcpmngiiaaGreatDoor
/- An element's attributes and end, by the machine, over a content that is given. -/
set_option linter.unusedSimpArgs false
set_option linter.unusedVariables false
set_option maxRecDepth 1000000
set_option maxHeartbeats 1000000
namespace Go.Proofs.YtkckpmcpmngiiaaGreatDoor
open Go Go.Pm Go.RowKit
/-- An accumulating row of the call's own. -/
def AccN (n0 : Nat) (e : TypeId) (s : Nat) (H : List Blk) (es : List (List PV)) (p : SV) : Prop := Acc e s H es p ∧ ∀ kt v s' es', p = .own kt v s' es' → n0 ≤ kt
theorem AccN.nil {n0 : Nat} {e : TypeId} {s : Nat} {H : List Blk} : AccN n0 e s H [] (.pv .nilSlice) := ⟨.nil, fun _ _ _ _ h => by cases h⟩
theorem AccN.app {t e : TypeId} {y : Ty} {H : List Blk} {es : List (List PV)} {x : List PV} {out : SV} {n0 : Nat} (hk : kindOf Y t = some (.slice e)) (hy : Y e = some y) (h0 : 0 < y.size) (hb : y.bytes ≤ 32768) (hb0 : y.bytes ≠ 0)
    (hl : (es.length + 1) * y.bytes ≤ maxRow) (h : AccN n0 e y.size H es out) (hH : n0 ≤ H.length) :
    ∃ out' H', aAppend Y H t t out (.tight y.size [x]) = some (out', H') ∧ AccN n0 e y.size H' (es ++ [x]) out' ∧ H.length ≤ H'.length ∧ (∀ j, j < n0 → H'[j]? = H[j]?) ∧ (∀ {t0 : Option TypeId} (k : Nat) (cs : List SV), H[k]? = some (.box t0 cs) → H'[k]? = some (.box t0 cs)) := by
  obtain ⟨h, hn⟩ := h
  have hl2 : es.length + 1 ≤ maxRow := Nat.le_trans (Nat.le_mul_of_pos_right _ (Nat.pos_of_ne_zero hb0)) hl
  rcases h with ⟨rfl, rfl⟩ | ⟨hne, k, v, rfl, hkv⟩
  · refine ⟨.own H.length 0 y.size [x], H ++ [.tok 0 e], ?_, ⟨.inr ⟨by simp, _, _, rfl, by simp⟩, fun kt v s' es' h => by cases h; exact hH⟩, by simp, fun j hj => List.getElem?_append_left (by omega), fun k cs hc => ?_⟩
    · simp [-maxRow] at hl hl2
      simp [-kindOf, -maxRow, aAppend, hk, hy, sliceElems, strideOk, h0, hb, hb0, hl, hl2]
    · rw [List.getElem?_append_left (List.getElem?_eq_some_iff.1 hc).1]; exact hc
  · have hkn := hn _ _ _ _ rfl
    refine ⟨.own k (v + 1) y.size (es ++ [x]), H.set k (.tok (v + 1) e), ?_, ⟨.inr ⟨by simp, _, _, rfl, ?_⟩, fun kt v' s' es' h => by cases h; exact hkn⟩, by simp, fun j hj => List.getElem?_set_ne (by omega), fun k' cs hc => ?_⟩
    · simp [-kindOf, -maxRow, aAppend, hk, hy, sliceElems, strideOk, h0, hb, hb0, hl, hl2, hkv]
    · rw [List.getElem?_set_self (List.getElem?_eq_some_iff.1 hkv).1]
    · have : k ≠ k' := by intro e; subst e; rw [hkv] at hc; cases hc
      rw [List.getElem?_set_ne this]; exact hc
theorem app30N {H : List Blk} {l : List (Bs × Bs)} {out : SV} {n0 : Nat} (x : Bs × Bs) (hl : l.length ≤ 1000000) (h : AccN n0 48 2 H (l.map atRow) out) (hH : n0 ≤ H.length) :
    ∃ out' H', aAppend Y H 30 30 out (.tight 2 [[.str x.1, .str x.2]]) = some (out', H') ∧ AccN n0 48 2 H' ((l ++ [x]).map atRow) out' ∧ H.length ≤ H'.length ∧ (∀ j, j < n0 → H'[j]? = H[j]?) ∧ (∀ {t0 : Option TypeId} (k : Nat) (cs : List SV), H[k]? = some (.box t0 cs) → H'[k]? = some (.box t0 cs)) := by
  have := AccN.app (t := 30) (e := 48) (x := atRow x) (hk := rfl) (hy := rfl) (by decide) (by decide) (by decide) (by simp [maxRow]; omega) h hH
  rw [List.map_append]
  exact this
theorem app31N {H : List Blk} {ks : List Nd} {out : SV} {n0 : Nat} (n : Nd) (hl : ks.length ≤ 100000000) (h : AccN n0 33 4 H (encL ks) out) (hH : n0 ≤ H.length) :
    ∃ out' H', aAppend Y H 31 31 out (.tight 4 [n.enc]) = some (out', H') ∧ AccN n0 33 4 H' (encL (ks ++ [n])) out' ∧ H.length ≤ H'.length ∧ (∀ j, j < n0 → H'[j]? = H[j]?) ∧ (∀ {t0 : Option TypeId} (k : Nat) (cs : List SV), H[k]? = some (.box t0 cs) → H'[k]? = some (.box t0 cs)) := by
  have := AccN.app (t := 31) (e := 33) (x := n.enc) (hk := rfl) (hy := rfl) (by decide) (by decide) (by decide) (by rw [encL_len]; simp [maxRow]; omega) h hH
  rw [encL_snoc]
  exact this
/-- Every block but two stays. -/
def Fr2 (k q : Nat) (H0 H : List Blk) : Prop := H0.length ≤ H.length ∧ ∀ j, j < H0.length → j ≠ k → j ≠ q → H[j]? = H0[j]?
theorem FrK.fr2 {k q : Nat} {A B : List Blk} (h : FrK k A B) : Fr2 k q A B := ⟨h.1, fun j hj hk _ => h.2 j hj hk⟩
theorem Fr2.trans {k q : Nat} {A B C : List Blk} (h : Fr2 k q A B) (h' : Fr2 k q B C) : Fr2 k q A C := ⟨Nat.le_trans h.1 h'.1, fun j hj hk hq => by rw [h'.2 j (by have := h.1; omega) hk hq]; exact h.2 j hj hk hq⟩
theorem Fr2.refl (k q : Nat) (A : List Blk) : Fr2 k q A A := ⟨Nat.le_refl _, fun _ _ _ _ => rfl⟩
theorem Fr2.set {k q : Nat} {A : List Blk} (b : Blk) : Fr2 k q A (A.set q b) := ⟨by simp, fun j hj hk hq => List.getElem?_set_ne (Ne.symm hq)⟩
theorem Fr2.setk {k q : Nat} {A : List Blk} (b : Blk) : Fr2 k q A (A.set k b) := ⟨by simp, fun j hj hk hq => List.getElem?_set_ne (Ne.symm hk)⟩
theorem FrK.of2 {k q : Nat} {A B C : List Blk} (h : FrK k A B) (h' : Fr2 k q B C) (hq : A.length ≤ q) : FrK k A C := ⟨Nat.le_trans h.1 h'.1, fun j hj hk => by rw [h'.2 j (by have := h.1; omega) hk (by omega)]; exact h.2 j hj hk⟩
theorem AccN.fr2 {n0 : Nat} {e : TypeId} {s : Nat} {H H' : List Blk} {es : List (List PV)} {p : SV} {k q : Nat} {t t' : Option TypeId} {cs cs' : List SV} (h : AccN n0 e s H es p) (hf : Fr2 k q H H') (hk : H[k]? = some (.box t cs)) (hq : H[q]? = some (.box t' cs')) : AccN n0 e s H' es p := by
  obtain ⟨h, hn⟩ := h
  refine ⟨?_, hn⟩
  rcases h with h | ⟨h0, kt, v, h1, h2⟩
  · exact .inl h
  · refine .inr ⟨h0, kt, v, h1, ?_⟩
    have hlt := (List.getElem?_eq_some_iff.1 h2).1
    rw [hf.2 kt hlt (by intro e; subst e; rw [hk] at h2; cases h2) (by intro e; subst e; rw [hq] at h2; cases h2)]
    exact h2
theorem AccN.frk {n0 : Nat} {e : TypeId} {s : Nat} {H H' : List Blk} {es : List (List PV)} {p : SV} {k : Nat} {t : Option TypeId} {cs : List SV} (h : AccN n0 e s H es p) (hf : FrK k H H') (hk : H[k]? = some (.box t cs)) : AccN n0 e s H' es p := h.fr2 (k := k) (q := k) hf.fr2 hk hk
theorem AccN.low {n0 n1 : Nat} {e : TypeId} {s : Nat} {H : List Blk} {es : List (List PV)} {p : SV} (h : AccN n0 e s H es p) (hn : n1 ≤ n0) : AccN n1 e s H es p := ⟨h.1, fun kt v s' es' hp => Nat.le_trans hn (h.2 kt v s' es' hp)⟩
theorem frk_app {k n0 : Nat} {A B C : List Blk} (h : FrK k A B) (hl : B.length ≤ C.length) (hn : A.length ≤ n0) (hs : ∀ j, j < n0 → C[j]? = B[j]?) : FrK k A C := ⟨Nat.le_trans h.1 hl, fun j hj hk => by rw [hs j (by omega)]; exact h.2 j hj hk⟩
theorem FrK.sets {k q : Nat} {H0 H : List Blk} (h : FrK k H0 H) (hq : H0.length ≤ q) (b : Blk) : FrK k H0 (H.set q b) := ⟨by simpa using h.1, fun j hj hk => by rw [List.getElem?_set_ne (by omega)]; exact h.2 j hj hk⟩
/-- What an element's value is. -/
theorem enc_cells {n0 n1 : Nat} {H H' : List Blk} {nm tx : Bs} {l : List (Bs × Bs)} {ks : List Nd} {p K : SV} (hp : AccN n0 48 2 H (l.map atRow) p) (hK : AccN n1 33 4 H' (encL ks) K) : pcells [.pv (.str nm), p, .pv (.str tx), K] = some (Nd.mk nm l tx ks).enc := by
  have h1 := acc_pcell hp.1
  have h2 := acc_pcell hK.1
  simp only [pcells, pcell_pv, h1, h2, Nd.enc]
noncomputable def T39 (A : List SV → List Blk → Option (SV × List Blk)) : FuncId → Option Pm.Spec := tab [(57, .heap A57), (37, .heap A37), (59, .heap A59), (60, .heap A60), (56, .heap A56), (62, .heap A62), (61, .heap A)]
theorem T39_eq (A : List SV → List Blk → Option (SV × List Blk)) (g : Nat) : T39 A g = tab [(57, .heap A57), (37, .heap A37), (59, .heap A59), (60, .heap A60), (56, .heap A56), (62, .heap A62), (61, .heap A)] g := rfl
abbrev zeroN : Blk := .box (some 33) [.pv (.str []), .pv .nilSlice, .pv (.str []), .pv .nilSlice]
abbrev bxN (nm : Bs) (p : SV) (tx : Bs) (K : SV) : Blk := .box (some 33) [.pv (.str nm), p, .pv (.str tx), K]
theorem loop39 {F : List Fr} {P : SV × List Blk → Prop} {A : List SV → List Blk → Option (SV × List Blk)} {C : Rd → Option (Bs × List Nd × Rd)} {H0 : List Blk} {k kr kn lv : Nat} {s nm : Bs} (hk0 : k < H0.length) (hr : H0.length ≤ kr) (hn : H0.length ≤ kn) (hrn : kr ≠ kn) (hs : s.length ≤ 8000000)
    (hC : ∀ (g g2 : Rd) (tx : Bs) (ks : List Nd) (p : SV) (H : List Blk), g.ok' s → H[k]? = some (rb s g) → H[kn]? = some (bxN nm p [] (.pv .nilSlice)) → C g = some (tx, ks, g2) →
      ∃ H' K, A [.ptr k 0, .ptr kn 0, .i (lv : Nat)] H = some (.tuple [], H') ∧ H'[k]? = some (rb s g2) ∧ H'[kn]? = some (bxN nm p tx K) ∧ AccN H.length 33 4 H' (encL ks) K ∧ Fr2 k kn H H')
    {l2 : List (Bs × Bs)} {g4 : Rd} {c : Nat} 
    (hx : c = 0 → ∀ H' p, FrK k H0 H' → H'[k]? = some (rb s g4) → H'[kr]? = some zeroN → H'[kn]? = some (bxN nm p [] (.pv .nilSlice)) → AccN H0.length 48 2 H' (l2.map atRow) p → X Y (T39 A) [.cell 4 33] F (.exit 0) ⟨mk 119 .J [(4, .ptr kr 0), (5, .ptr kn 0)], H'⟩ P)
    (hp1 : c = 1 → ∀ H' cs, FrK k H0 H' → H'[k]? = some (rb s (g4.next.expect s 62)) → pcells cs = some (Nd.mk nm l2 [] []).enc → P (.agg cs, H'))
    (hp2 : c = 2 → ∃ tx ks g5, C g4.next = some (tx, ks, g5) ∧ ∀ H' cs, FrK k H0 H' → H'[k]? = some (rb s g5) → pcells cs = some (Nd.mk nm l2 tx ks).enc → P (.agg cs, H')) :
    ∀ (f : Nat) (g : Rd) (l : List (Bs × Bs)) (H : List Blk) (p : SV), g.attrsN s f l = some (l2, g4, c) → g.ok' s → (g.e = 0 → l.length ≤ 32) → l.length ≤ 33 → FrK k H0 H → H[k]? = some (rb s g) → H[kr]? = some zeroN → H[kn]? = some (bxN nm p [] (.pv .nilSlice)) → AccN H0.length 48 2 H (l.map atRow) p →
    X Y (T39 A) [.cell 4 33] F (.loop (loopN Tryz.f39 0)) ⟨mk 119 .J [(0, .ptr k 0), (1, .i (lv : Nat)), (4, .ptr kr 0), (5, .ptr kn 0)], H⟩ P := by
  intro f
  induction f with
  | zero => intro g l H p h; cases h
  | succ f ih =>
    intro g l H p hat hok hl1 hl2 hF hk hz hb hA
    have hklt := (List.getElem?_eq_some_iff.1 hk).1
    have hnlt := (List.getElem?_eq_some_iff.1 hb).1
    have hrlt := (List.getElem?_eq_some_iff.1 hz).1
    have n1 : k ≠ kr := by omega
    have n2 : k ≠ kn := by omega
    have hgb := stp_blanks s g
    apply X_loop_of
    · simp only [loopN, Tryz.f39, loopsOf, List.nil_append, List.append_nil, List.cons_append, List.getD_cons_succ, List.getD_cons_zero]; rfl
    simp only [Rd.attrsN] at hat
    by_cases he : g.e = 0
    case neg =>
      rw [if_pos he] at hat
      cases hat
      have c1 : ¬ ((g4.e : Nat) : Int) = 0 := by omega
      simp [-getElem?_pos, List.getElem?_cons_zero, List.getElem?_cons_succ, hk, c1, he, beqZ, bneZ]
      refine X_keep (hx rfl H p hF hk hz hb hA) ?_
      simp
    rw [if_neg (by simp [he])] at hat
    have e1 := all56 hk (by omega) hok
    have okb := hgb.ok hok
    generalize g.blanks s = g1 at *
    have hH1 : H[kn]? = some (bxN nm p [] (.pv .nilSlice)) := hb
    obtain ⟨H1, hH1e⟩ : ∃ H1, H1 = H.set k (rb s g1) := ⟨_, rfl⟩
    have k1 : H1[k]? = some (rb s g1) := by rw [hH1e]; exact get_setk hklt _
    have z1 : H1[kr]? = some zeroN := by rw [hH1e, List.getElem?_set_ne n1]; exact hz
    have b1 : H1[kn]? = some (bxN nm p [] (.pv .nilSlice)) := by rw [hH1e, List.getElem?_set_ne n2]; exact hb
    have A1 : AccN H0.length 48 2 H1 (l.map atRow) p := ⟨by rw [hH1e]; exact hA.1.box hk, hA.2⟩
    have F1 : FrK k H0 H1 := by rw [hH1e]; exact hF.set _
    rw [← hH1e] at e1
    clear hH1e
    have e2 : A57 [.ptr k 0, .str [47]] H1 = some (.bool (g1.sees s [47]), H1) := all57 k1 okb [47]
    have e3 : A57 [.ptr k 0, .str [62]] H1 = some (.bool (g1.sees s [62]), H1) := all57 k1 okb [62]
    have lt1 := (List.getElem?_eq_some_iff.1 k1).1
    have lr1 := (List.getElem?_eq_some_iff.1 z1).1
    have ln1 := (List.getElem?_eq_some_iff.1 b1).1
    have c1 : ((g.e : Nat) : Int) = 0 := by omega
    have k1' : H1[k]? = some (.box (some 66) [.pv (.str s), .i (g1.at' : Nat), .i (g1.n : Nat), .i (g1.e : Nat)]) := k1
    by_cases s1 : g1.sees s [47] = true
    · rw [if_pos s1] at hat
      cases hat
      obtain ⟨okn, hln⟩ := sees_next s1
      rw [s1] at e2
      have q3 := next_i (m := g4.at') (by omega)
      have e4 : A59 [.ptr k 0, .pv (.int .u8 62)] (H1.set k (rb s g4.next)) = some (.tuple [], H1.set k (rb s (g4.next.expect s 62))) := by
        have := all59 (get_setk lt1 (rb s g4.next)) (by omega) okn 62 (by decide)
        rw [List.set_set] at this; exact this
      have e4 : A59 [.ptr k 0, .pv (.int .u8 62)] (H1.set k (.box (some 66) [.pv (.str s), .i (g4.at' + 1 : Nat), .i (g4.n : Nat), .i (g4.e : Nat)])) = some (.tuple [], H1.set k (rb s (g4.next.expect s 62))) := e4
      have b2 : (H1.set k (rb s (g4.next.expect s 62)))[kn]? = some (bxN nm p [] (.pv .nilSlice)) := by rw [List.getElem?_set_ne n2]; exact b1
      have z2 : (H1.set k (rb s (g4.next.expect s 62)))[kr]? = some zeroN := by rw [List.getElem?_set_ne n1]; exact z1
      have z2l : kr < (H1.set k (rb s (g4.next.expect s 62))).length := by simpa using lr1
      have r2 : ∀ b, ((H1.set k (rb s (g4.next.expect s 62))).set kr b)[kr]? = some b := fun b => List.getElem?_set_self z2l
      have hfin := hp1 rfl ((H1.set k (rb s (g4.next.expect s 62))).set kr (bxN nm p [] (.pv .nilSlice))) [.pv (.str nm), p, .pv (.str []), .pv .nilSlice] ((F1.set _).sets hr _) (by rw [List.getElem?_set_ne (Ne.symm n1)]; exact get_setk lt1 _) (enc_cells (n1 := 0) (H' := []) A1 (ks := []) .nil)
      simp [-Int.natCast_add, -getElem?_pos, List.getElem?_cons_zero, List.getElem?_cons_succ, -cellsOf, cells_agg, cells_pv, T39_eq, hk, c1, he, beqZ, bneZ, e1, e2, k1', lt1, q3, e4, b2, z2, z2l, lr1, r2]
      exact hfin
    rw [if_neg s1] at hat
    rw [show g1.sees s [47] = false by simpa using s1] at e2
    by_cases s2 : g1.sees s [62] = true
    · rw [if_pos s2] at hat
      cases hat
      obtain ⟨okn, hln⟩ := sees_next s2
      rw [s2] at e3
      have q3 := next_i (m := g4.at') (by omega)
      obtain ⟨tx, ks, g5, hc, hfin⟩ := hp2 rfl
      have hn2 : (H1.set k (rb s g4.next))[kn]? = some (bxN nm p [] (.pv .nilSlice)) := by rw [List.getElem?_set_ne n2]; exact b1
      obtain ⟨H', K, e4, f1, f2, f3, f4⟩ := hC g4.next g5 tx ks p (H1.set k (rb s g4.next)) okn (get_setk lt1 _) hn2 hc
      have e4 : A [.ptr k 0, .ptr kn 0, .i (lv : Nat)] (H1.set k (.box (some 66) [.pv (.str s), .i (g4.at' + 1 : Nat), .i (g4.n : Nat), .i (g4.e : Nat)])) = some (.tuple [], H') := e4
      have F2 : FrK k H0 H' := (F1.set _).of2 f4 hn
      have z2 : H'[kr]? = some zeroN := by rw [f4.2 kr (by simpa using lr1) (Ne.symm n1) hrn, List.getElem?_set_ne n1]; exact z1
      have z2l := (List.getElem?_eq_some_iff.1 z2).1
      have r2 : ∀ b, (H'.set kr b)[kr]? = some b := fun b => List.getElem?_set_self z2l
      have hA2 : AccN H0.length 48 2 (H1.set k (rb s g4.next)) (l2.map atRow) p := ⟨A1.1.box k1, A1.2⟩
      have hfin := hfin (H'.set kr (bxN nm p tx K)) [.pv (.str nm), p, .pv (.str tx), K] (F2.sets hr _) (by rw [List.getElem?_set_ne (Ne.symm n1)]; exact f1) (enc_cells (hA2.fr2 f4 (get_setk lt1 _) hn2) f3)
      simp [-Int.natCast_add, -getElem?_pos, List.getElem?_cons_zero, List.getElem?_cons_succ, -cellsOf, cells_agg, cells_pv, T39_eq, hk, c1, he, beqZ, bneZ, e1, e2, e3, k1', lt1, q3, e4, f2, z2, z2l, r2]
      exact hfin
    rw [if_neg s2] at hat
    rw [show g1.sees s [62] = false by simpa using s2] at e3
    by_cases s3 : g1.at' = s.length
    · rw [if_pos s3] at hat
      have c3 : ((g1.at' : Nat) : Int) = (s.length : Nat) := by omega
      have e4 : A37 [.ptr k 0, .i (g1.at' : Nat), .i 35] H1 = some (.tuple [], H1.set k (rb s (g1.fail g1.at' 35))) := all37 k1 g1.at' 35
      have st := stp_fail s g1 g1.at' 35 (by decide)
      have next := ih _ l (H1.set k (rb s (g1.fail g1.at' 35))) p hat (st.ok okb) (fun h => absurd h (fail_bad (by decide))) hl2 (F1.set _) (get_setk lt1 _) (by rw [List.getElem?_set_ne n1]; exact z1) (by rw [List.getElem?_set_ne n2]; exact b1) ⟨A1.1.box k1, A1.2⟩
      rw [c3] at e4
      simp [-Int.natCast_add, -getElem?_pos, List.getElem?_cons_zero, List.getElem?_cons_succ, T39_eq, hk, c1, he, beqZ, bneZ, e1, e2, e3, k1', c3, e4]
      refine X_keep next ?_
      simp
    rw [if_neg s3] at hat
    have c3 : ¬ ((g1.at' : Nat) : Int) = (s.length : Nat) := by omega
    by_cases s4 : g.at' < g1.at'
    case neg =>
      rw [if_pos s4] at hat
      rw [decide_eq_false s4] at e1
      have e4 : A37 [.ptr k 0, .i (g1.at' : Nat), .i 13] H1 = some (.tuple [], H1.set k (rb s (g1.fail g1.at' 13))) := all37 k1 g1.at' 13
      have st := stp_fail s g1 g1.at' 13 (by decide)
      have next := ih _ l (H1.set k (rb s (g1.fail g1.at' 13))) p hat (st.ok okb) (fun h => absurd h (fail_bad (by decide))) hl2 (F1.set _) (get_setk lt1 _) (by rw [List.getElem?_set_ne n1]; exact z1) (by rw [List.getElem?_set_ne n2]; exact b1) ⟨A1.1.box k1, A1.2⟩
      simp [-Int.natCast_add, -getElem?_pos, List.getElem?_cons_zero, List.getElem?_cons_succ, T39_eq, hk, c1, he, beqZ, bneZ, e1, e2, e3, k1', c3, s3, e4]
      refine X_keep next ?_
      simp
    rw [if_neg (by simpa using s4)] at hat
    rw [decide_eq_true s4] at e1
    have hll : l.length ≤ 32 := hl1 he
    obtain ⟨H2, e4, f1, f2⟩ := all62 k1 hs okb (AtA.acc A1.1) (by omega)
    have e4' : frameC k H1.length H1 (A62 [.ptr k 0, p] H1) = some (.agg [.pv (.str (g1.name s).1), .pv (.str (Rd.attr3 s (g1.attr1 s l)).1)], H2) := by rw [e4]; exact frameC_some (.inr ⟨Nat.le_refl _, f1⟩)
    have A2 := A1.frk f1 k1
    have F2 : FrK k H0 H2 := ⟨Nat.le_trans F1.1 f1.1, fun j hj hkj => by rw [f1.2 j (by have := F1.1; omega) hkj]; exact F1.2 j hj hkj⟩
    obtain ⟨p2, H3, e5, A3, l3, o3, b3⟩ := app30N ((g1.name s).1, (Rd.attr3 s (g1.attr1 s l)).1) (by omega) A2 F2.1
    have b2 : H2[kn]? = some (bxN nm p [] (.pv .nilSlice)) := by rw [f1.2 kn ln1 (Ne.symm n2)]; exact b1
    have z2 : H2[kr]? = some zeroN := by rw [f1.2 kr lr1 (Ne.symm n1)]; exact z1
    have k3 := b3 _ _ f2
    have b3' := b3 _ _ b2
    have z3 := b3 _ _ z2
    have ln3 := (List.getElem?_eq_some_iff.1 b3').1
    have F3 : FrK k H0 H3 := frk_app F2 l3 (Nat.le_refl _) o3
    have st := (stp_attr1 s g1 l).trans (stp_attr4 s (g1.attr1 s l))
    have bad : l.length = 32 → (Rd.attr4 s (g1.attr1 s l)).e ≠ 0 := fun h => (stp_attr4 s _).bad (attr1_full h)
    have next := ih _ (l ++ [((g1.name s).1, (Rd.attr3 s (g1.attr1 s l)).1)]) (H3.set kn (bxN nm p2 [] (.pv .nilSlice))) p2 hat (st.ok okb) (fun h => by
        rw [List.length_append, List.length_singleton]
        have : l.length ≠ 32 := fun h32 => bad h32 h
        omega) (by rw [List.length_append, List.length_singleton]; omega) (F3.sets hn _) (by rw [List.getElem?_set_ne (Ne.symm n2)]; exact k3) (by rw [List.getElem?_set_ne (Ne.symm hrn)]; exact z3) (List.getElem?_set_self ln3) ⟨A3.1.box b3', A3.2⟩
    have lp := A1.1.live
    have lp2 := A3.1.live
    have cp2 := acc_cells A3.1
    generalize (g1.name s).1 = anm at *
    generalize (Rd.attr3 s (g1.attr1 s l)).1 = avl at *
    simp [-Int.natCast_add, -getElem?_pos, List.getElem?_cons_zero, List.getElem?_cons_succ, -aAppend, -cellsOf, cells_pv, cells_agg, T39_eq, hk, c1, he, beqZ, bneZ, e1, e2, e3, k1', c3, s3, b1, Ne.symm n2, ln1, lp, e4', e5, lp2, cp2, b3', ln3]
    refine X_keep next ?_
    simp
end Go.Proofs.YtkckpmcpmngiiaaGreatDoor
/- An element, by the machine, over a content that is given. -/
set_option linter.unusedSimpArgs false
set_option linter.unusedVariables false
set_option maxRecDepth 1000000
set_option maxHeartbeats 1000000
namespace Go.Proofs.YtkckpmcpmngiiaaGreatDoor
open Go Go.Pm Go.RowKit
def elemS (s : Bs) (E : Rd → Option (Nd × Rd)) (lv : Nat) (g : Rd) : Option (Nd × Rd) := match ((g.el1 s lv).el2 s).attrsN s (s.length + 3) [] with
    | none => none
    | some (l, g4, c) => match c with
      | 0 => some (.mk ((g.el1 s lv).name s).1 l [] [], g4)
      | 1 => some (.mk ((g.el1 s lv).name s).1 l [] [], g4.next.expect s 62)
      | _ => match Rd.contN s E g4.next ((g.el1 s lv).name s).1 with
        | none => none
        | some (tx, ks, g5) => some (.mk ((g.el1 s lv).name s).1 l tx ks, g5)
theorem elem_succ (s : Bs) (m lv : Nat) (g : Rd) : Rd.elem s (m + 1) lv g = elemS s (Rd.elem s m (lv + 1)) lv g := rfl
theorem sees_one {s : Bs} {g : Rd} {b : UInt8} (he : g.e = 0) (hb : s[g.at']? = some b) : g.sees s [b] = true := by
  obtain ⟨h1, h2⟩ := List.getElem?_eq_some_iff.1 hb
  unfold Rd.sees hasPre
  rw [List.drop_eq_getElem_cons h1, h2]
  simp [he]
theorem el1_good {s : Bs} {lv : Nat} {g : Rd} (hn : g.n ≤ 65536) (he : (g.el1 s lv).e = 0) : (g.el1 s lv).n ≤ 65536 ∧ lv ≤ 32 ∧ (g.el1 s lv).at' = g.at' + 1 ∧ g.e = 0 := by
  obtain ⟨u1, u2, b, hb, hbc⟩ := expect_up he
  have e0 := (stp_expect s _ 60).good he
  have nn := (stp_expect s ⟨(g.el0 s lv).at', (g.el0 s lv).n + 1, (g.el0 s lv).e⟩ 60).n
  have hb60 : b = 60 := UInt8.toNat_inj.1 (by simpa using hbc)
  subst hb60
  by_cases hc : g.sees s [60] = true ∧ (g.n = 65536 ∨ 32 < lv)
  · have : (g.el0 s lv).e ≠ 0 := by unfold Rd.el0; rw [if_pos hc]; exact fail_bad (by decide)
    exact absurd e0 this
  · have h0 : g.el0 s lv = g := by unfold Rd.el0; rw [if_neg hc]
    unfold Rd.el1 at *
    rw [h0] at nn e0 hb u2 ⊢
    simp only at nn e0 hb u2 ⊢
    have hs := sees_one (g := g) e0 hb
    have : ¬ (g.n = 65536 ∨ 32 < lv) := fun h => hc ⟨hs, h⟩
    exact ⟨by omega, by omega, u2, e0⟩
noncomputable abbrev c39 : Code := restN 2 (Tryz.f39.body.getD .skip)
/-- What an element leaves. -/
def Left39 (H0 : List Blk) (k : Nat) (s : Bs) (nd : Nd) (g' : Rd) (x : SV × List Blk) : Prop := ∃ cs, x.1 = .agg cs ∧ pcells cs = some nd.enc ∧ FrK k H0 x.2 ∧ x.2[k]? = some (rb s g')
theorem tail39 {A : List SV → List Blk → Option (SV × List Blk)} {E : Rd → Option (Nd × Rd)} {H0 H1 : List Blk} {k kr lv : Nat} {s : Bs} {g g' : Rd} {nd : Nd} (hk0 : k < H0.length) (hr : H0.length ≤ kr) (hs : s.length ≤ 8000000) (hg : g.ok' s) (hn : g.n ≤ 65536) (hlv : lv ≤ 1000)
    (hC : ∀ (nm : Bs) (kn : Nat) (g g2 : Rd) (tx : Bs) (ks : List Nd) (p : SV) (H : List Blk), k ≠ kn → g.ok' s → g.n ≤ 65536 → g.at' ≤ s.length → H[k]? = some (rb s g) → H[kn]? = some (bxN nm p [] (.pv .nilSlice)) → Rd.contN s E g nm = some (tx, ks, g2) →
      ∃ H' K, A [.ptr k 0, .ptr kn 0, .i (lv : Nat)] H = some (.tuple [], H') ∧ H'[k]? = some (rb s g2) ∧ H'[kn]? = some (bxN nm p tx K) ∧ AccN H.length 33 4 H' (encL ks) K ∧ Fr2 k kn H H')
    (h : elemS s E lv g = some (nd, g')) (hF : FrK k H0 H1) (hk : H1[k]? = some (rb s (g.el0 s lv))) (hz : H1[kr]? = some zeroN) :
    X Y (T39 A) [.cell 4 33] [] (Hold c39) ⟨mk 119 .J [(0, .ptr k 0), (1, .i (lv : Nat)), (4, .ptr kr 0)], H1⟩ (Left39 H0 k s nd g') := by
  have hklt := (List.getElem?_eq_some_iff.1 hk).1
  have hrlt := (List.getElem?_eq_some_iff.1 hz).1
  have n1 : k ≠ kr := by omega
  have st0 := stp_el0 s lv g
  have ok0 := st0.ok hg
  have nn0 := st0.n
  have gd := fun he => el1_good (s := s) (lv := lv) hn he
  unfold elemS at h
  have hk' : H1[k]? = some (.box (some 66) [.pv (.str s), .i ((g.el0 s lv).at' : Nat), .i ((g.el0 s lv).n : Nat), .i ((g.el0 s lv).e : Nat)]) := hk
  have q3 := next_i (m := (g.el0 s lv).n) (by omega)
  have f1 : A59 [.ptr k 0, .pv (.int .u8 60)] (H1.set k (.box (some 66) [.pv (.str s), .i ((g.el0 s lv).at' : Nat), .i ((g.el0 s lv).n + 1 : Nat), .i ((g.el0 s lv).e : Nat)])) = some (.tuple [], H1.set k (rb s (g.el1 s lv))) := by
    have := all59 (get_setk hklt (rb s ⟨(g.el0 s lv).at', (g.el0 s lv).n + 1, (g.el0 s lv).e⟩)) (by omega) ok0 60 (by decide)
    rw [List.set_set] at this; exact this
  have ok1 : (g.el1 s lv).ok' s := (stp_expect s ⟨(g.el0 s lv).at', (g.el0 s lv).n + 1, (g.el0 s lv).e⟩ 60).ok ok0
  generalize g.el1 s lv = g1 at *
  have k2 : (H1.set k (rb s g1) ++ [zeroN])[k]? = some (rb s g1) := app_at (get_setk hklt _)
  have f2 := all60 k2 (by omega) ok1
  have hl2 : (H1.set k (rb s g1)).length = H1.length := by simp
  have hnn : k ≠ H1.length := by omega
  obtain ⟨H2, hH2⟩ : ∃ H2, H2 = (H1.set k (rb s g1) ++ [zeroN]).set k (rb s (g1.name s).2) := ⟨_, rfl⟩
  rw [← hH2] at f2
  have k3 : H2[k]? = some (rb s (g1.name s).2) := by rw [hH2]; exact get_setk (by simp; omega) _
  have z3 : H2[kr]? = some zeroN := by rw [hH2, List.getElem?_set_ne n1, List.getElem?_append_left (by simp; omega), List.getElem?_set_ne n1]; exact hz
  have b3 : H2[H1.length]? = some zeroN := by rw [hH2, List.getElem?_set_ne hnn, List.getElem?_append_right (by simp)]; simp
  have F3 : FrK k H0 H2 := by rw [hH2]; exact ((hF.set _).more _).set _
  have l3 : H2.length = H1.length + 1 := by rw [hH2]; simp
  clear hH2
  have b3l : H1.length < H2.length := by omega
  have st2 := stp_el2 s g1
  have f3 : A37 [.ptr k 0, .i (g1.at' : Nat), .i 12] (H2.set H1.length (bxN (g1.name s).1 (.pv .nilSlice) [] (.pv .nilSlice))) = some (.tuple [], (H2.set H1.length (bxN (g1.name s).1 (.pv .nilSlice) [] (.pv .nilSlice))).set k (rb s ((g1.name s).2.fail g1.at' 12))) :=
    all37 (by rw [List.getElem?_set_ne (Ne.symm hnn)]; exact k3) g1.at' 12
  have b4 : ∀ b, (H2.set H1.length b)[H1.length]? = some b := fun b => List.getElem?_set_self b3l
  have hf0 : H0.length ≤ H1.length := hF.1
  -- the loop
  have L : ∀ H4, FrK k H0 H4 → H4[k]? = some (rb s (g1.el2 s)) → H4[kr]? = some zeroN → H4[H1.length]? = some (bxN (g1.name s).1 (.pv .nilSlice) [] (.pv .nilSlice)) →
      ∀ F, (∀ H' p l2 g4, nd = Nd.mk (g1.name s).1 l2 [] [] → g' = g4 → FrK k H0 H' → H'[k]? = some (rb s g4) → H'[kr]? = some zeroN → H'[H1.length]? = some (bxN (g1.name s).1 p [] (.pv .nilSlice)) → AccN H0.length 48 2 H' (l2.map atRow) p → X Y (T39 A) [.cell 4 33] F (.exit 0) ⟨mk 119 .J [(4, .ptr kr 0), (5, .ptr H1.length 0)], H'⟩ (Left39 H0 k s nd g')) →
      X Y (T39 A) [.cell 4 33] F (.loop (loopN Tryz.f39 0)) ⟨mk 119 .J [(0, .ptr k 0), (1, .i (lv : Nat)), (4, .ptr kr 0), (5, .ptr H1.length 0)], H4⟩ (Left39 H0 k s nd g') := by
    intro H4 a1 a2 a3 a4 F hx
    cases hat : (g1.el2 s).attrsN s (s.length + 3) [] with
    | none => rw [hat] at h; cases h
    | some r =>
      obtain ⟨l2, g4, c⟩ := r
      rw [hat] at h
      simp only [] at h
      have stA := stp_attrsN _ hat
      refine loop39 (A := A) (C := fun g => if g.n ≤ 65536 ∧ g.at' ≤ s.length then Rd.contN s E g (g1.name s).1 else none) (nm := (g1.name s).1) (l2 := l2) (g4 := g4) (c := c) hk0 hr hf0 (by omega) hs (fun g g2 tx ks p H h1 h2 h3 h4 => ?_) (fun hc H' p x1 x2 x3 x4 x5 => ?_) (fun hc H' cs x1 x2 x3 => ?_) (fun hc => ?_) _ _ [] H4 (.pv .nilSlice) hat (st2.ok ok1) (by simp) (by simp) a1 a2 a3 a4 .nil
      · split at h4
        · rename_i hnn2
          exact hC (g1.name s).1 H1.length g g2 tx ks p H hnn h1 hnn2.1 hnn2.2 h2 h3 h4
        · cases h4
      · subst hc
        cases h
        exact hx H' p l2 _ rfl rfl x1 x2 x3 x4 x5
      · subst hc
        cases h
        exact ⟨cs, rfl, x3, x1, x2⟩
      · subst hc
        simp only [] at h
        rcases attrsN_code _ hat with ⟨h1, _⟩ | ⟨h1, _⟩ | ⟨_, hse⟩
        · cases h1
        · cases h1
        have e4 := sees_e hse
        have hn4 : g4.next.n ≤ 65536 := by
          show g4.n ≤ 65536
          rw [stA.n, st2.n]
          exact (gd (st2.good (stA.good e4))).1
        cases hco : Rd.contN s E g4.next (g1.name s).1 with
        | none => rw [hco] at h; cases h
        | some r =>
          obtain ⟨tx, ks, g5⟩ := r
          rw [hco] at h
          cases h
          exact ⟨tx, ks, _, if_pos ⟨hn4, (sees_next hse).2⟩, fun H' cs x1 x2 x3 => ⟨cs, rfl, x3, x1, x2⟩⟩
  unfold Hold c39 Tryz.f39
  simp only [restN, Option.getD_some]
  have fin : ∀ H' p l2 g4, nd = Nd.mk (g1.name s).1 l2 [] [] → g' = g4 → FrK k H0 H' → H'[k]? = some (rb s g4) → H'[kr]? = some zeroN → AccN H0.length 48 2 H' (l2.map atRow) p → Left39 H0 k s nd g' (.agg [.pv (.str (g1.name s).1), p, .pv (.str []), .pv .nilSlice], H'.set kr (bxN (g1.name s).1 p [] (.pv .nilSlice))) :=
    fun H' p l2 g4 y1 y2 y3 y4 y5 y6 => ⟨_, rfl, by rw [y1]; exact enc_cells (n1 := 0) (H' := []) y6 (ks := []) .nil, y3.sets hr _, by simp only []; rw [List.getElem?_set_ne (Ne.symm n1), y4, y2]⟩
  by_cases c1 : 32 < (g1.name s).1.length
  · have c1' : (32 : Int) < ((g1.name s).1.length : Nat) := by omega
    have e2 : g1.el2 s = (g1.name s).2.fail g1.at' 12 := by unfold Rd.el2; rw [if_pos c1]
    have hLL := L ((H2.set H1.length (bxN (g1.name s).1 (.pv .nilSlice) [] (.pv .nilSlice))).set k (rb s ((g1.name s).2.fail g1.at' 12))) ((F3.sets hf0 _).set _) (by rw [e2]; exact List.getElem?_set_self (by simp; omega)) (by rw [List.getElem?_set_ne n1, List.getElem?_set_ne (by omega)]; exact z3) (by rw [List.getElem?_set_ne hnn]; exact b4 _)
    generalize (g1.name s).1 = nm at *
    simp [-Int.natCast_add, -Int.not_lt, -getElem?_pos, List.getElem?_cons_zero, List.getElem?_cons_succ, -cellsOf, cells_agg, cells_pv, T39_eq, hk', hklt, q3, f1, f2, hl2, b3, b3l, b4, c1, c1', f3]
    refine X_keep (hLL _ (fun H' p l2 g4 y1 y2 y3 y4 y5 y6 y7 => ?_)) ?_
    · have z5l := (List.getElem?_eq_some_iff.1 y5).1
      have r5 : ∀ b, (H'.set kr b)[kr]? = some b := fun b => List.getElem?_set_self z5l
      have := fin H' p l2 g4 y1 y2 y3 y4 y5 y7
      simp [-getElem?_pos, List.getElem?_cons_zero, List.getElem?_cons_succ, -cellsOf, cells_agg, cells_pv, y5, y6, z5l, r5]
      exact this
    · simp
  · have c1' : ¬ (32 : Int) < ((g1.name s).1.length : Nat) := by omega
    have e2 : g1.el2 s = (g1.name s).2 := by unfold Rd.el2; rw [if_neg c1]
    have hLL := L (H2.set H1.length (bxN (g1.name s).1 (.pv .nilSlice) [] (.pv .nilSlice))) (F3.sets hf0 _) (by rw [e2, List.getElem?_set_ne (Ne.symm hnn)]; exact k3) (by rw [List.getElem?_set_ne (by omega)]; exact z3) (b4 _)
    generalize (g1.name s).1 = nm at *
    simp [-Int.natCast_add, -Int.not_lt, -getElem?_pos, List.getElem?_cons_zero, List.getElem?_cons_succ, -cellsOf, cells_agg, cells_pv, T39_eq, hk', hklt, q3, f1, f2, hl2, b3, b3l, b4, c1, c1']
    refine X_keep (hLL _ (fun H' p l2 g4 y1 y2 y3 y4 y5 y6 y7 => ?_)) ?_
    · have z5l := (List.getElem?_eq_some_iff.1 y5).1
      have r5 : ∀ b, (H'.set kr b)[kr]? = some b := fun b => List.getElem?_set_self z5l
      have := fin H' p l2 g4 y1 y2 y3 y4 y5 y7
      simp [-getElem?_pos, List.getElem?_cons_zero, List.getElem?_cons_succ, -cellsOf, cells_agg, cells_pv, y5, y6, z5l, r5]
      exact this
    · simp
theorem x39 {A : List SV → List Blk → Option (SV × List Blk)} {E : Rd → Option (Nd × Rd)} {H : List Blk} {k lv : Nat} {s : Bs} {g g' : Rd} {nd : Nd} (hs : s.length ≤ 8000000) (hg : g.ok' s) (hn : g.n ≤ 65536) (hlv : lv ≤ 1000)
    (hC : ∀ (nm : Bs) (kn : Nat) (g g2 : Rd) (tx : Bs) (ks : List Nd) (p : SV) (H : List Blk), k ≠ kn → g.ok' s → g.n ≤ 65536 → g.at' ≤ s.length → H[k]? = some (rb s g) → H[kn]? = some (bxN nm p [] (.pv .nilSlice)) → Rd.contN s E g nm = some (tx, ks, g2) →
      ∃ H' K, A [.ptr k 0, .ptr kn 0, .i (lv : Nat)] H = some (.tuple [], H') ∧ H'[k]? = some (rb s g2) ∧ H'[kn]? = some (bxN nm p tx K) ∧ AccN H.length 33 4 H' (encL ks) K ∧ Fr2 k kn H H')
    (h : elemS s E lv g = some (nd, g')) (hk : H[k]? = some (rb s g)) :
    XFn Y (T39 A) Tryz.f39 [.ptr k 0, .i (lv : Nat)] H (Left39 H k s nd g') := by
  have hklt := (List.getElem?_eq_some_iff.1 hk).1
  have k1 : (H ++ [zeroN])[k]? = some (rb s g) := app_at hk
  have k1' : (H ++ [zeroN])[k]? = some (.box (some 66) [.pv (.str s), .i (g.at' : Nat), .i (g.n : Nat), .i (g.e : Nat)]) := k1
  have F1 : FrK k H (H ++ [zeroN]) := FrK.more ⟨Nat.le_refl _, fun _ _ _ => rfl⟩ _
  have z1 : (H ++ [zeroN])[H.length]? = some zeroN := get_last _ _
  have T := fun H1 => tail39 (A := A) (E := E) (H0 := H) (H1 := H1) (kr := H.length) hklt (Nat.le_refl _) hs hg hn hlv hC h
  have f1 : A57 [.ptr k 0, .str [60]] (H ++ [zeroN]) = some (.bool (g.sees s [60]), H ++ [zeroN]) := all57 k1 hg [60]
  have f2 : A37 [.ptr k 0, .i (g.at' : Nat), .i 9] (H ++ [zeroN]) = some (.tuple [], (H ++ [zeroN]).set k (rb s (g.fail g.at' 9))) := all37 k1 g.at' 9
  unfold XFn
  rw [enter_2 _ (by decide)]
  refine X_cut 2 ?_
  generalize htl : Hold (restN 2 (Tryz.f39.body.getD .skip)) = tl
  have htl2 : Hold c39 = tl := htl
  rw [htl2] at T
  clear htl htl2
  unfold Tryz.f39
  simp only [glue, Option.getD_some]
  by_cases hse : g.sees s [60] = true
  · by_cases c1 : g.n = 65536
    · have c1' : ((g.n : Nat) : Int) = 65536 := by omega
      have e0 : g.el0 s lv = g.fail g.at' 9 := by unfold Rd.el0; rw [if_pos ⟨hse, .inl c1⟩]
      have := T ((H ++ [zeroN]).set k (rb s (g.fail g.at' 9))) (F1.set _) (by rw [e0]; exact get_setk (by simp; omega) _) (by rw [List.getElem?_set_ne (by omega)]; exact z1)
      rw [hse] at f1
      simp [-Int.natCast_add, -Int.not_lt, -getElem?_pos, List.getElem?_cons_zero, List.getElem?_cons_succ, T39_eq, f1, k1', c1', beqZ, bneZ, f2]
      refine X_keep this ?_
      simp
    · have c1' : ¬ ((g.n : Nat) : Int) = 65536 := by omega
      rw [hse] at f1
      by_cases c2 : 32 < lv
      · have c2' : (32 : Int) < (lv : Nat) := by omega
        have e0 : g.el0 s lv = g.fail g.at' 9 := by unfold Rd.el0; rw [if_pos ⟨hse, .inr c2⟩]
        have := T ((H ++ [zeroN]).set k (rb s (g.fail g.at' 9))) (F1.set _) (by rw [e0]; exact get_setk (by simp; omega) _) (by rw [List.getElem?_set_ne (by omega)]; exact z1)
        simp [-Int.natCast_add, -Int.not_lt, -getElem?_pos, List.getElem?_cons_zero, List.getElem?_cons_succ, T39_eq, f1, k1', c1', c2, c2', beqZ, bneZ, f2]
        refine X_keep this ?_
        simp
      · have c2' : ¬ (32 : Int) < (lv : Nat) := by omega
        have e0 : g.el0 s lv = g := by unfold Rd.el0; rw [if_neg (fun h => h.2.elim c1 c2)]
        have := T (H ++ [zeroN]) F1 (by rw [e0]; exact k1) z1
        simp [-Int.natCast_add, -Int.not_lt, -getElem?_pos, List.getElem?_cons_zero, List.getElem?_cons_succ, T39_eq, f1, k1', c1', c2, c2', beqZ, bneZ]
        refine X_keep this ?_
        simp
  · have e0 : g.el0 s lv = g := by unfold Rd.el0; rw [if_neg (fun h => hse h.1)]
    have := T (H ++ [zeroN]) F1 (by rw [e0]; exact k1) z1
    rw [show g.sees s [60] = false by simpa using hse] at f1
    simp [-Int.natCast_add, -Int.not_lt, -getElem?_pos, List.getElem?_cons_zero, List.getElem?_cons_succ, T39_eq, f1, k1', beqZ, bneZ]
    refine X_keep this ?_
    simp
end Go.Proofs.YtkckpmcpmngiiaaGreatDoor
/- A child appended in place, by the machine. -/
set_option linter.unusedSimpArgs false
set_option linter.unusedVariables false
set_option maxRecDepth 1000000
set_option maxHeartbeats 1000000
namespace Go.Proofs.YtkckpmcpmngiiaaGreatDoor
open Go Go.Pm Go.RowKit
theorem put_len (tm : List SV) (d : Option Tmp) (v : SV) : (put tm d v).length = tm.length := by cases d <;> simp [put]
theorem aops_len {T : FuncId → Option Pm.Spec} (pl : PL) (full : List Oper) : ∀ (r : List Oper) {s t : St}, aops Y T pl full r s = some t → t.tm.length = s.tm.length
  | [], s, t, h => by simp [aops] at h; subst h; rfl
  | o :: r, s, t, h => by
    simp only [aops] at h
    split at h
    · split at h
      · have := aops_len pl full r h
        simpa [put_len] using this
      · cases h
    · have := aops_len pl full r h
      simpa [put_len] using this
    · cases h
theorem aregN_len {T : FuncId → Option Pm.Spec} {ops : List Oper} {d : Bool} {s t : St} (h : aregN Y T ops d s = some t) : t.tm.length = s.tm.length := by
  unfold aregN at h
  cases hh : held ops d with
  | true =>
    rw [hh] at h
    simp only [cond_true] at h
    have := aops_len _ _ _ h
    exact this
  | false =>
    rw [hh] at h
    simp only [cond_false] at h
    cases hw : watching ops d with
    | false => rw [hw] at h; exact aops_len _ _ _ h
    | true =>
      rw [hw] at h
      simp only [cond_true] at h
      unfold aregW at h
      split at h
      · exact aops_len _ _ _ h
      · cases h
theorem aresults_len {s : St} : ∀ {rs : List ResultVar} {vs : List SV}, aresults Y s rs = some vs → vs.length = rs.length
  | [], vs, h => by simp [aresults] at h; subst h; rfl
  | r :: rs, vs, h => by
    simp only [aresults] at h
    split at h
    · split at h
      · rename_i ws hw
        cases h
        simp [aresults_len hw]
      · cases h
    · cases h
/-- The first operations of a region that appends in place, as a region of their own. -/
theorem first_run {T : FuncId → Option Pm.Spec} {id : Nat} {ops : List Oper} {tm : List SV} {H H1 : List Blk} {rs : List ResultVar} {vs : List SV} (hc : cusD ops true = none) (hv : 2 ≤ rs.length) (h : X Y T rs [] (.region id ops.toArray true) ⟨tm, H⟩ (fun x => x = (.tuple vs, H1))) :
    ∃ s1, aregN Y T ops true ⟨tm, H⟩ = some s1 ∧ s1.H = H1 ∧ s1.tm.length = tm.length ∧ aresults Y s1 rs = some vs := by
  rw [X_region] at h
  obtain ⟨s1, h1, h2⟩ := h
  unfold areg at h1
  rw [hc] at h1
  simp only [] at h1
  unfold X at h2
  obtain ⟨o, res, r1, r2, r3⟩ := h2
  simp only [plug] at r1
  rw [runs_skip] at r1
  subst r1
  subst r3
  simp only [finish, Option.map_eq_some_iff] at r2
  obtain ⟨ws, w1, w2⟩ := r2
  simp only [Prod.mk.injEq] at w2
  refine ⟨s1, h1, w2.2, aregN_len h1, ?_⟩
  rw [w1]
  have w2 := w2.1
  unfold pack at w2
  split at w2
  · have hl := aresults_len w1
    simp at hl
    omega
  · injection w2 with w2
    rw [w2]
theorem aresults_at {s : St} : ∀ {rs : List ResultVar} {vs : List SV} (i : Nat) (t : Tmp) (v : SV), aresults Y s rs = some vs → rs[i]? = some (.tmp t) → vs[i]? = some v → aval s.tm (.tmp t) = some v
  | [], vs, i, t, v, h, h1, h2 => by simp at h1
  | r :: rs, vs, i, t, v, h, h1, h2 => by
    simp only [aresults] at h
    split at h
    · rename_i u hu
      split at h
      · rename_i ws hw
        cases h
        cases i with
        | zero =>
          simp at h1 h2
          subst h1; subst h2
          exact hu
        | succ i => simp at h1 h2; exact aresults_at i t v hw h1 h2
      · cases h
    · cases h
def c5 : Cus := ⟨31, 33, 33, 3, 52, 58, 57, 56, 49, 59, 60, 61, 62⟩
noncomputable def T61 (A : List SV → List Blk → Option (SV × List Blk)) : FuncId → Option Pm.Spec := tab [(76, .pure false F76), (74, .pure false F74), (38, .heap A38g), (57, .heap A57), (39, .heap A), (77, .heap A77), (37, .heap A37), (59, .heap A59), (60, .heap A60), (56, .heap A56)]
theorem T61_eq (A : List SV → List Blk → Option (SV × List Blk)) (g : Nat) : T61 A g = tab [(76, .pure false F76), (74, .pure false F74), (38, .heap A38g), (57, .heap A57), (39, .heap A), (77, .heap A77), (37, .heap A37), (59, .heap A59), (60, .heap A60), (56, .heap A56)] g := rfl
/-- The regions of a code. -/
def regsOf : Code → List Code
  | .region id ops d => [.region id ops d]
  | .loop b => regsOf b
  | .seq a b => regsOf a ++ regsOf b
  | .cond _ a b => regsOf a ++ regsOf b
  | .block _ b => regsOf b
  | .scope b => regsOf b
  | _ => []
def opsOf : Code → Array Oper
  | .region _ ops _ => ops
  | _ => #[]
noncomputable def ops5 : Array Oper := opsOf ((regsOf (Tryz.f61.body.getD .skip)).getD 4 .skip)
theorem reg5_eq : (regsOf (Tryz.f61.body.getD .skip)).getD 4 .skip = .region 5 ops5 true := by kernel_rfl
theorem cus5 : cusD ops5.toList true = some c5 := by kernel_rfl
theorem cus5n : cusD (ops5.toList.take 10) true = none := by kernel_rfl
theorem X_reg5 {A : List SV → List Blk → Option (SV × List Blk)} {F : List Fr} {P : SV × List Blk → Prop} {k kn lv : Nat} {H H1 H2 : List Blk} {nm : Bs} {p K K2 : SV} {ks : List Nd} {cs : List SV} {nd : Nd} {ops : Array Oper} (hops : ops = ops5)
    (hlv : lv ≤ 1000) (hkk : k ≠ kn) (hb : H[kn]? = some (bxN nm p [] K)) (hlive : Pm.live K = some K) (hlen : aLen Y 31 K = some ks.length)
    (hA : frameC k H.length H (A [.ptr k 0, .i (lv + 1 : Nat)] H) = some (.agg cs, H1)) (hp : pcells cs = some nd.enc) (hK : sliceElems K = some (encL ks)) (hst : strideOk 4 K = true)
    (happ : aAppend Y H1 31 31 K (.tight 4 [nd.enc]) = some (K2, H2)) (hc2 : cellsOf K2 = some [K2]) (hb2 : H2[kn]? = some (bxN nm p [] K))
    (hx : X Y (T61 A) [] F .skip ⟨mk 103 .J [(0, .ptr k 0), (1, .ptr kn 0), (2, .i (lv : Nat))], H2.set kn (bxN nm p [] K2)⟩ P) :
    X Y (T61 A) [] F (Hold (.region 5 ops true)) ⟨mk 103 .J [(0, .ptr k 0), (1, .ptr kn 0), (2, .i (lv : Nat))], H⟩ P := by
  subst hops
  unfold Hold
  have hnlt := (List.getElem?_eq_some_iff.1 hb).1
  have q3 := next_i (m := lv) (by omega)
  have hrun : X Y (T61 A) [.tmp 52, .tmp 56, .tmp 57, .tmp 49, .tmp 58, .tmp 0, .tmp 1, .tmp 2] [] (.region 5 (ops5.toList.take 10).toArray true) ⟨mk 103 .J [(0, .ptr k 0), (1, .ptr kn 0), (2, .i (lv : Nat))], H⟩
      (fun x => x = (.tuple [K, .agg cs, .i (ks.length : Nat), .ptr kn 0, .tight 4 [[.str [], .nilSlice, .str [], .nilSlice]], .ptr k 0, .ptr kn 0, .i (lv : Nat)], H1)) := by
    simp only [ops5, Tryz.f61, Option.getD_some, regsOf, List.cons_append, List.nil_append, List.append_nil, List.append_assoc, List.getD_cons_succ, List.getD_cons_zero, opsOf, List.take_succ_cons, List.take_zero]
    simp [-Int.natCast_add, -getElem?_pos, List.getElem?_cons_zero, List.getElem?_cons_succ, -aLen, T61_eq, hb, Ne.symm hkk, hnlt, hlive, hlen, q3, hA]
  obtain ⟨s1, r1, r2, r3, r4⟩ := first_run cus5n (by simp) hrun
  have a0 := aresults_at 0 52 _ r4 rfl rfl
  have a1 := aresults_at 1 56 _ r4 rfl rfl
  have a2 := aresults_at 2 57 _ r4 rfl rfl
  have a3 := aresults_at 3 49 _ r4 rfl rfl
  have a4 := aresults_at 4 58 _ r4 rfl rfl
  have a5 := aresults_at 5 0 _ r4 rfl rfl
  have a6 := aresults_at 6 1 _ r4 rfl rfl
  have a7 := aresults_at 7 2 _ r4 rfl rfl
  have hl : s1.tm.length = 103 := by rw [r3]; exact mk_len _ _ _
  have hen : nd.enc.length = 4 := by rw [enc_eq]; rfl
  have k31 : kindOf Y 31 = some (.slice 33) := rfl
  have hfa : aFieldAddr Y 33 (.ptr kn 0) 3 = some (.ptr kn 3) := rfl
  have hst2 : aStore Y H2 31 (.ptr kn 3) K2 = some (H2.set kn (bxN nm p [] K2)) := by
    have y31 : ∃ y, Y 31 = some y ∧ y.size = 1 := ⟨_, rfl, rfl⟩
    obtain ⟨y, hy, hy1⟩ := y31
    unfold aStore
    rw [hy, hc2]
    simp only [hb2, hy1]
    rfl
  have htail : atail Y c5 s1 = some ⟨(((s1.tm.set 59 K2).set 60 (.cptr [])).set 61 (.ptr kn 0)).set 62 (.ptr kn 3), H2.set kn (bxN nm p [] K2)⟩ := by
    unfold atail
    simp only [c5, k31, a0, a1, a2, a3, a4, hK, hp]
    rw [if_pos ⟨trivial, by rw [encL_len], by rw [hen]; rfl, by rw [hen]; exact hst, by rw [hl]; decide, by rw [hl]; decide, by rw [hl]; decide, by rw [hl]; decide⟩]
    unfold atailR
    simp only [hen, r2, happ, hfa, hst2]
  have hreg : areg Y (T61 A) ops5.toList true ⟨mk 103 .J [(0, .ptr k 0), (1, .ptr kn 0), (2, .i (lv : Nat))], H⟩ = some ⟨(((s1.tm.set 59 K2).set 60 (.cptr [])).set 61 (.ptr kn 0)).set 62 (.ptr kn 3), H2.set kn (bxN nm p [] K2)⟩ := by
    unfold areg
    rw [cus5]
    simp only [r1]
    exact htail
  rw [X_region]
  refine ⟨_, hreg, X_le ?_ hx⟩
  refine ⟨rfl, ?_, ?_⟩
  · simp [mk_len, hl]
  · intro j a b ha hb'
    simp only [mk_get] at ha
    split at ha
    · cases ha
      have slot : ∀ (t : Nat) (v : SV), t < 59 → aval s1.tm (.tmp t) = some v → j = t → b = v := by
        intro t v ht hv hj
        subst hj
        obtain ⟨e1, -⟩ := live_eq hv
        simp only [List.getElem?_set] at hb'
        rw [if_neg (by omega), if_neg (by omega), if_neg (by omega), if_neg (by omega)] at hb'
        rw [List.getD_eq_getElem?_getD, hb'] at e1
        exact e1
      by_cases j0 : j = 0
      · right; subst j0; rw [slot 0 _ (by decide) a5 rfl]; rfl
      · by_cases j1 : j = 1
        · right; subst j1; rw [slot 1 _ (by decide) a6 rfl]; rfl
        · by_cases j2 : j = 2
          · right; subst j2; rw [slot 2 _ (by decide) a7 rfl]; rfl
          · left; simp only [look_cons, look_nil, if_neg j0, if_neg j1, if_neg j2]; rfl
    · cases ha
end Go.Proofs.YtkckpmcpmngiiaaGreatDoor
