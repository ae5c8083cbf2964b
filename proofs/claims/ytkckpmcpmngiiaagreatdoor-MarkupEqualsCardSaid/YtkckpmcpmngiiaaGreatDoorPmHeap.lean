/- The interpreter's operations that make or write memory. -/
import Derived.Test.YtkckpmcpmngiiaaGreatDoorPmRow
namespace Go.Pm

/-- What an operation leaves. -/
structure Good (C C' : Cf) (H' : List Blk) (s : SV) (v : Value) : Prop where
  H : C'.H = H'
  inv : Inv C'
  evo : Evo C C'
  rel : RelS C' s v

theorem Good.same {C : Cf} (I : Inv C) {s : SV} {v : Value} (h : RelS C s v) : Good C C C.H s v := ⟨rfl, I, Evo.refl C, h⟩

theorem newBoxR {C : Cf} (I : Inv C) {w' : World} {arr : Array Value} {T : TypeId} (hw : Pushed C.w w' (.cells arr T (0, 0))) {cs : List SV} (t : Option TypeId) (ht : ∀ T', t = some T' → T = T' ∧ arr.size = cs.length) (hl : cs.length ≤ arr.size) (hr : ∀ (j : Nat) (c : SV) (u : Value), cs[j]? = some c → arr[j]? = some u → RelS C c u)
    (h1 : ∀ (j : Nat) (c : SV), cs[j]? = some c → c.one = true) :
    ∃ C', C'.w = w' ∧ Good C C' (C.H ++ [.box t cs]) (.ptr C.H.length 0) (.pointer (some ⟨C.w.heap.size, 0, none⟩)) := by
  refine ⟨⟨w', C.S, C.H ++ [.box t cs], C.G ++ [⟨C.w.heap.size, 0, 0, 0⟩]⟩, rfl, rfl, ?_, ?_, ?_⟩
  · refine inv_push I hw C.S (fun _ _ h => h) (fun _ _ h => .inl h) _ _ rfl (by simp) (by simp) ?_ ?_ (by simp)
    · intro t' cs' g e1 e2
      simp at e1 e2
      obtain ⟨rfl, rfl⟩ := e1; subst e2
      exact ⟨fun x hx => Nat.lt_irrefl _ (I.inb _ _ hx), arr, T, rfl, hl, hr, h1⟩
    · intro t' cs' g e1 e2
      simp at e1 e2
      obtain ⟨e1, rfl⟩ := e1
      obtain ⟨rfl, h⟩ := ht t' e1
      exact ⟨arr, rfl, h⟩
  · exact evo_push I hw C.S (fun _ _ h => h) (fun _ _ h => .inl h) _ _ (by simp)
  · exact .ptr (t := t) C.H.length 0 cs ⟨C.w.heap.size, 0, 0, 0⟩ (by simp) (by simp only []; rw [I.len]; simp)

theorem newBox {C : Cf} (I : Inv C) {w' : World} {arr : Array Value} {T : TypeId} (hw : Pushed C.w w' (.cells arr T (0, 0))) {cs : List SV} (t : Option TypeId) (ht : ∀ T', t = some T' → T = T') (hr : RelL C cs arr.toList)
    (h1 : ∀ (j : Nat) (c : SV), cs[j]? = some c → c.one = true) :
    ∃ C', C'.w = w' ∧ Good C C' (C.H ++ [.box t cs]) (.ptr C.H.length 0) (.pointer (some ⟨C.w.heap.size, 0, none⟩)) :=
  newBoxR I hw t (fun T' e => ⟨ht T' e, by have := hr.1; simpa using this⟩) (by have := hr.1; simp at this; omega) (fun j c u hj hu => hr.2 j c u hj (by simpa using hu)) h1

/-- A new box at a place that was kept for it. -/
theorem fillBox {C : Cf} (I : Inv C) {w' : World} {arr : Array Value} {T : TypeId} (hw : Pushed C.w w' (.cells arr T (0, 0))) (t : Option TypeId) (ht : ∀ T', t = some T' → T = T') {k : Nat} {cs : List SV} (hk : C.H[k]? = some .hole) (hr : RelL C cs arr.toList)
    (h1 : ∀ (j : Nat) (c : SV), cs[j]? = some c → c.one = true) :
    ∃ C', C'.w = w' ∧ Good C C' (C.H.set k (.box t cs)) (.ptr k 0) (.pointer (some ⟨C.w.heap.size, 0, none⟩)) := by
  have hkH : k < C.H.length := (List.getElem?_eq_some_iff.1 hk).1
  have hkG : k < C.G.length := by rw [← I.len]; exact hkH
  have EV : Evo C ⟨w', C.S, C.H.set k (.box t cs), C.G.set k ⟨C.w.heap.size, 0, 0, 0⟩⟩ := by
    refine ⟨hw.os, hw.tape, hw.output, by rw [hw.size]; omega, fun _ _ h => h, fun b x hb => hw.cell (I.inb _ _ hb), fun b hb _ => hw.old hb, ?_, fun _ _ h => .inl h, ?_, ?_⟩
    · intro i g hi
      rw [List.getElem?_set] at hi
      split at hi
      · first
          | (cases hi; exact .inl (Nat.le_refl _))
          | (split at hi
             · cases hi; exact .inl (Nat.le_refl _)
             · cases hi)
      · exact .inr ⟨i, g, hi, rfl⟩
    · intro _ i ds g e1 e2
      have hne : k ≠ i := by intro e; subst e; rw [hk] at e1; cases e1
      exact ⟨⟨ds, by simp only [List.getElem?_set_ne hne]; exact e1, rfl⟩, by simp only [List.getElem?_set_ne hne]; exact e2⟩
    · intro i v e g e1 e2
      have hne : k ≠ i := by intro e; subst e; rw [hk] at e1; cases e1
      exact ⟨v, g, by simp only [List.getElem?_set_ne hne]; exact e1, Nat.le_refl _, by simp only [List.getElem?_set_ne hne]; exact e2, fun _ => rfl⟩
  have blkLt : ∀ (i : Nat) (g : GB), C.G[i]? = some g → C.H[i]? ≠ some .hole → g.blk < C.w.heap.size := by
    intro i g hi hnh
    have hi' : i < C.H.length := by rw [I.len]; exact (List.getElem?_eq_some_iff.1 hi).1
    cases hH : C.H[i]? with
    | none => simp at hH; omega
    | some b =>
      cases b with
      | box _ cs => obtain ⟨arr, T, h1, _⟩ := I.box i cs g hH hi; exact (Array.getElem?_eq_some_iff.1 h1).1
      | tok v e => obtain ⟨arr, ⟨fz, h1, _⟩, _⟩ := I.tok i v e g hH hi; exact (Array.getElem?_eq_some_iff.1 h1).1
      | hole => exact absurd hH hnh
  have nh : ∀ {k : Nat} {b : Blk}, C.H[k]? = some b → b ≠ .hole → C.H[k]? ≠ some .hole := by
    intro k b h hb e; rw [h] at e; exact hb (Option.some.inj e)
  refine ⟨⟨w', C.S, C.H.set k (.box t cs), C.G.set k ⟨C.w.heap.size, 0, 0, 0⟩⟩, rfl, rfl, ?_, EV, ?_⟩
  · refine ⟨by simp [I.len], fun b x hb => by simp only [hw.size]; have := I.inb _ _ hb; omega, ?_, ?_, ?_, ?_, ?_, ?_⟩
    · intro _ i ds g e1 e2
      simp only [] at e1 e2
      by_cases hne : k = i
      · subst hne
        simp [hkH] at e1
        simp [hkG] at e2
        obtain ⟨rfl, rfl⟩ := e1; subst e2
        exact ⟨arr, T, hw.new, by have := hr.1; simp at this; omega, fun j c u hj hu => EV.rel (hr.2 j c u hj (by simpa using hu)), h1⟩
      · rw [List.getElem?_set_ne hne] at e1 e2
        obtain ⟨a, T', h3, h4, h5, h6⟩ := I.box i ds g e1 e2
        exact ⟨a, T', by simp only [hw.old (blkLt i g e2 (nh e1 (by simp)))]; exact h3, h4, fun j c u hj hu => EV.rel (h5 j c u hj hu), h6⟩
    · intro _ i ds g x e1 e2 hx
      simp only [] at e1 e2 hx
      by_cases hne : k = i
      · subst hne
        simp [hkG] at e2
        subst e2
        exact Nat.lt_irrefl _ (I.inb _ _ hx)
      · rw [List.getElem?_set_ne hne] at e1 e2
        exact I.boxS i ds g x e1 e2 hx
    · intro i v e g e1 e2
      simp only [] at e1 e2
      by_cases hne : k = i
      · subst hne
        simp [hkH] at e1
      · rw [List.getElem?_set_ne hne] at e1 e2
        obtain ⟨a, h3, h4⟩ := I.tok i v e g e1 e2
        exact ⟨a, by simp only [hw.old (blkLt i g e2 (nh e1 (by simp)))]; exact h3, h4⟩
    · intro i v e g x e1 e2 hx
      simp only [] at e1 e2
      by_cases hne : k = i
      · subst hne
        simp [hkH] at e1
      · rw [List.getElem?_set_ne hne] at e1 e2
        exact I.tokS i v e g x e1 e2 hx
    · intro i t' ds g e1 e2
      simp only [] at e1 e2
      by_cases hne : k = i
      · subst hne
        simp [hkH] at e1
        simp [hkG] at e2
        obtain ⟨e1, rfl⟩ := e1; subst e2
        have e3 := ht t' e1; subst e3
        exact ⟨arr, hw.new, by have := hr.1; simpa using this⟩
      · rw [List.getElem?_set_ne hne] at e1 e2
        obtain ⟨a, h3, h4⟩ := I.boxT i t' ds g e1 e2
        exact ⟨a, by simp only [hw.old (blkLt i g e2 (nh e1 (by simp)))]; exact h3, h4⟩
    · intro i i' g g' hne q1 q2 e1 e2
      simp only [] at q1 q2 e1 e2
      by_cases h1 : k = i
      · subst h1
        rw [List.getElem?_set_ne hne] at q2 e2
        simp [hkG] at e1
        subst e1
        have := blkLt i' g' e2 q2
        simp only []; omega
      · rw [List.getElem?_set_ne h1] at q1 e1
        by_cases h2 : k = i'
        · subst h2
          simp [hkG] at e2
          subst e2
          have := blkLt i g e1 q1
          simp only []; omega
        · rw [List.getElem?_set_ne h2] at q2 e2
          exact I.dis i i' g g' hne q1 q2 e1 e2
  · exact .ptr (t := t) k 0 cs ⟨C.w.heap.size, 0, 0, 0⟩ (by simp [hkH]) (by simp [hkG])

/-- Places kept. -/
theorem keep_good {C : Cf} (I : Inv C) (n : Nat) : ∃ C', C'.w = C.w ∧ C'.H = C.H ++ List.replicate n .hole ∧ Inv C' ∧ Evo C C' := by
  have gH : ∀ {i : Nat} {b : Blk}, b ≠ .hole → (C.H ++ List.replicate n .hole)[i]? = some b → C.H[i]? = some b := by
    intro i b hb h
    rw [List.getElem?_append] at h
    split at h
    · exact h
    · rw [List.getElem?_replicate] at h
      split at h
      · cases h; exact absurd rfl hb
      · cases h
  have gG : ∀ {i : Nat} {g : GB}, i < C.H.length → (C.G ++ List.replicate n ⟨C.w.heap.size, 0, 0, 0⟩)[i]? = some g → C.G[i]? = some g := by
    intro i g hi h
    rw [List.getElem?_append_left (by rw [← I.len]; exact hi)] at h
    exact h
  have lt : ∀ {i : Nat} {b : Blk}, C.H[i]? = some b → i < C.H.length := fun h => (List.getElem?_eq_some_iff.1 h).1
  have EV : Evo C ⟨C.w, C.S, C.H ++ List.replicate n .hole, C.G ++ List.replicate n ⟨C.w.heap.size, 0, 0, 0⟩⟩ := by
    refine ⟨rfl, rfl, rfl, Nat.le_refl _, fun _ _ h => h, fun _ _ _ => rfl, fun _ _ _ => rfl, ?_, fun _ _ h => .inl h, ?_, ?_⟩
    · intro i g hi
      simp only [List.getElem?_append] at hi
      split at hi
      · exact .inr ⟨i, g, hi, rfl⟩
      · rw [List.getElem?_replicate] at hi
        split at hi
        · cases hi; exact .inl (Nat.le_refl _)
        · cases hi
    · intro _ i ds g e1 e2
      exact ⟨⟨ds, by simp only [List.getElem?_append_left (lt e1)]; exact e1, rfl⟩, by simp only [List.getElem?_append_left (show i < C.G.length by rw [← I.len]; exact lt e1)]; exact e2⟩
    · intro i v e g e1 e2
      exact ⟨v, g, by simp only [List.getElem?_append_left (lt e1)]; exact e1, Nat.le_refl _, by simp only [List.getElem?_append_left (show i < C.G.length by rw [← I.len]; exact lt e1)]; exact e2, fun _ => rfl⟩
  refine ⟨⟨C.w, C.S, C.H ++ List.replicate n .hole, C.G ++ List.replicate n ⟨C.w.heap.size, 0, 0, 0⟩⟩, rfl, rfl, ?_, EV⟩
  refine ⟨by simp [I.len], I.inb, ?_, ?_, ?_, ?_, ?_, ?_⟩
  · intro _ i ds g e1 e2
    have e1 := gH (by simp) e1
    obtain ⟨a, T', h3, h4, h5, h6⟩ := I.box i ds g e1 (gG (lt e1) e2)
    exact ⟨a, T', h3, h4, fun j c u hj hu => EV.rel (h5 j c u hj hu), h6⟩
  · intro _ i ds g x e1 e2 hx
    have e1 := gH (by simp) e1
    exact I.boxS i ds g x e1 (gG (lt e1) e2) hx
  · intro i v e g e1 e2
    have e1 := gH (by simp) e1
    exact I.tok i v e g e1 (gG (lt e1) e2)
  · intro i v e g x e1 e2 hx
    have e1 := gH (by simp) e1
    exact I.tokS i v e g x e1 (gG (lt e1) e2) hx
  · intro i t' ds g e1 e2
    have e1 := gH (by simp) e1
    exact I.boxT i t' ds g e1 (gG (lt e1) e2)
  · intro i i' g g' hne q1 q2 e1 e2
    have old : ∀ {j : Nat} {gj : GB}, (C.H ++ List.replicate n .hole)[j]? ≠ some .hole → (C.G ++ List.replicate n ⟨C.w.heap.size, 0, 0, 0⟩)[j]? = some gj → j < C.H.length := by
      intro j gj hq hg
      rcases Nat.lt_or_ge j C.H.length with h | h
      · exact h
      · exfalso
        apply hq
        have hl := (List.getElem?_eq_some_iff.1 hg).1
        simp at hl
        rw [List.getElem?_append_right h, List.getElem?_replicate, if_pos (by rw [I.len] at h ⊢; omega)]
    have l1 := old q1 e1
    have l2 := old q2 e2
    refine I.dis i i' g g' hne ?_ ?_ (gG l1 e1) (gG l2 e2)
    · simp only [List.getElem?_append_left l1] at q1; exact q1
    · simp only [List.getElem?_append_left l2] at q2; exact q2

/-- A new row whose first cells are stable; no token. -/
theorem newTight {C : Cf} (I : Inv C) {w' : World} {news : List Value} {T : TypeId} (hw : Pushed C.w w' (.cells news.toArray T (0, 0))) {s : Nat} {es : List (List PV)} (hr : Row C.w C.S s es news) :
    ∃ C', C'.w = w' ∧ Good C C' C.H (.tight s es) (.slice (some ⟨C.w.heap.size, 0, none⟩) es.length es.length) := by
  have hS : ∀ b x, C.S b x → (fun b x => C.S b x ∨ b = C.w.heap.size) b x := fun b x h => .inl h
  have EV := evo_push I hw (fun b x => C.S b x ∨ b = C.w.heap.size) hS (fun _ _ h => h) [] [] (by simp)
  have IV := inv_push I hw (fun b x => C.S b x ∨ b = C.w.heap.size) hS (fun _ _ h => h) [] [] rfl (by simp) (by simp) (by simp) (by simp) (by simp)
  simp only [List.append_nil] at EV IV
  refine ⟨⟨w', fun b x => C.S b x ∨ b = C.w.heap.size, C.H, C.G⟩, rfl, rfl, IV, EV, ?_⟩
  refine .tight s es _ 0 ((hr.mono EV.S EV.cell).rel_at _ 0 _ (Nat.le_refl _) (fun q v hq => ⟨?_, .inr rfl⟩))
  simp only [Nat.zero_add]
  rw [cell_of_row w' _ _ _ _ _ hw.new]
  simpa using hq

/-- A new row with a token. -/
theorem newTok {C : Cf} (I : Inv C) {w' : World} {news rest : List Value} {e : TypeId} {cap s : Nat} {es : List (List PV)} (hw : Pushed C.w w' (.cells (news ++ rest).toArray e (0, 0)))
    (hr : Row C.w C.S s es news) (hsz : (news ++ rest).length = cap * s) (hcap : es.length ≤ cap) (hm : cap ≤ maxLen) :
    ∃ C', C'.w = w' ∧ Good C C' (C.H ++ [.tok 0 e]) (.own C.H.length 0 s es) (.slice (some ⟨C.w.heap.size, 0, none⟩) es.length cap) := by
  have hS : ∀ b x, C.S b x → (fun b x => C.S b x ∨ (b = C.w.heap.size ∧ x < news.length)) b x := fun b x h => .inl h
  have hN : ∀ b x, (fun b x => C.S b x ∨ (b = C.w.heap.size ∧ x < news.length)) b x → C.S b x ∨ b = C.w.heap.size := fun b x h => h.imp id (·.1)
  have EV := evo_push I hw _ hS hN [.tok 0 e] [⟨C.w.heap.size, es.length, cap, s⟩] (by simp)
  refine ⟨⟨w', _, C.H ++ [.tok 0 e], C.G ++ [⟨C.w.heap.size, es.length, cap, s⟩]⟩, rfl, rfl, ?_, EV, ?_⟩
  · refine inv_push I hw _ hS hN _ _ rfl (by simp) (by simp) (by simp) (by simp) ?_
    intro v e' g e1 e2
    simp at e1 e2
    obtain ⟨rfl, rfl⟩ := e1
    subst e2
    refine ⟨fun x hx hx' => ?_, _, rfl, by simpa using hsz, hcap, hm⟩
    rcases hx' with h | ⟨_, h⟩
    · exact Nat.lt_irrefl _ (I.inb _ _ h)
    · rw [hr.len] at h; simp at hx; omega
  · have hp : RelP w' (fun b x => C.S b x ∨ (b = C.w.heap.size ∧ x < news.length)) (.slice s es) (.slice (some ⟨C.w.heap.size, 0, none⟩) es.length cap) := by
      refine (hr.mono EV.S EV.cell).rel_at _ 0 _ hcap (fun q v hq => ⟨?_, .inr ⟨rfl, ?_⟩⟩)
      · simp only [Nat.zero_add]
        rw [cell_of_row w' _ _ _ _ _ hw.new]
        have := (List.getElem?_eq_some_iff.1 hq).1
        simp [List.getElem?_append_left this, hq]
      · simp; exact (List.getElem?_eq_some_iff.1 hq).1
    exact .own C.H.length 0 s es 0 e ⟨C.w.heap.size, es.length, cap, s⟩ _ (by simp) (by simp only []; rw [I.len]; simp) (Nat.le_refl _) hp (fun _ => ⟨rfl, rfl, rfl⟩)

/-- A row of a token's or a box's block is written. -/
theorem evo_set {C : Cf} {k : Nat} {g : GB} (hG : C.G[k]? = some g) {old arr : Array Value} {T : TypeId} {fz : Nat × Nat} (hg : C.w.heap[g.blk]? = some (.cells old T fz))
    (hkeep : ∀ x, C.S g.blk x → arr[x]? = old[x]?) (S' : Nat → Nat → Prop) (hS : ∀ b x, C.S b x → S' b x) (hN : ∀ b x, S' b x → C.S b x ∨ b = g.blk)
    {B B' : Blk} (hH : C.H[k]? = some B) (hB : (∃ t cs cs', B = .box t cs ∧ B' = .box t cs' ∧ cs'.length = cs.length) ∨ (∃ v e, B = .tok v e ∧ B' = .tok (v + 1) e)) (g' : GB) (hgb : g'.blk = g.blk)
    (hbx : ∀ t cs, B = .box t cs → g' = g) :
    Evo C ⟨C.w.setRow g.blk arr, S', C.H.set k B', C.G.set k g'⟩ := by
  have hkH : k < C.H.length := (List.getElem?_eq_some_iff.1 hH).1
  have hkG : k < C.G.length := (List.getElem?_eq_some_iff.1 hG).1
  refine ⟨rfl, rfl, rfl, by simp, hS, ?_, ?_, ?_, ?_, ?_, ?_⟩
  · intro b x hb
    by_cases e : b = g.blk
    · subst e
      simp only []
      rw [cell_setRow_same _ _ _ _ _ _ _ hg, cell_of_row _ _ _ _ _ _ hg]
      exact hkeep x hb
    · exact cell_setRow_other _ _ _ _ e
  · intro b hb hn
    exact setRow_other _ _ _ _ (fun e => hn k g hG e.symm)
  · intro i gi hi
    simp only [List.getElem?_set] at hi
    split at hi
    · rename_i e
      cases hi; exact .inr ⟨k, g, hG, hgb.symm⟩
    · exact .inr ⟨i, gi, hi, rfl⟩
  · intro b x hb
    rcases hN b x hb with h | h
    · exact .inl h
    · exact .inr (.inr ⟨k, g, hG, h.symm⟩)
  · intro _ i cs gi h1 h2
    by_cases e : i = k
    · subst e
      rw [hH] at h1; cases h1
      rw [hG] at h2; cases h2
      rcases hB with ⟨t1, cs1, cs', e1, e2, hl⟩ | ⟨v, e', e1, _⟩
      · cases e1; subst e2
        have := hbx _ cs rfl
        subst this
        exact ⟨⟨cs', by simp [hkH], hl⟩, by simp [hkG]⟩
      · cases e1
    · exact ⟨⟨cs, by simp only [List.getElem?_set, if_neg (Ne.symm e)]; exact h1, rfl⟩, by simp only [List.getElem?_set, if_neg (Ne.symm e)]; exact h2⟩
  · intro i v e' gi h1 h2
    by_cases e : i = k
    · subst e
      rw [hH] at h1; cases h1
      rw [hG] at h2; cases h2
      rcases hB with ⟨t1, cs1, cs', e1, _⟩ | ⟨v1, e1', e1, e2⟩
      · cases e1
      · cases e1; subst e2
        exact ⟨v + 1, g', by simp [hkH], by omega, by simp [hkG], fun h => by omega⟩
    · exact ⟨v, gi, by simp only [List.getElem?_set, if_neg (Ne.symm e)]; exact h1, Nat.le_refl _, by simp only [List.getElem?_set, if_neg (Ne.symm e)]; exact h2, fun _ => rfl⟩

theorem inv_set {C : Cf} (I : Inv C) {k : Nat} {g : GB} (hG : C.G[k]? = some g) {old arr : Array Value} {T : TypeId} {fz : Nat × Nat} (hg : C.w.heap[g.blk]? = some (.cells old T fz))
    (S' : Nat → Nat → Prop) (hN : ∀ b x, S' b x → C.S b x ∨ b = g.blk)
    {B B' : Blk} (hH : C.H[k]? = some B) (hBn : B ≠ .hole) (g' : GB) (hgb : g'.blk = g.blk) (EV : Evo C ⟨C.w.setRow g.blk arr, S', C.H.set k B', C.G.set k g'⟩)
    (hbox : ∀ t cs', B' = .box t cs' → fz = (0, 0) ∧ g' = g ∧ (∀ x, ¬ S' g.blk x) ∧ cs'.length ≤ arr.size ∧
      (∀ (j : Nat) (c : SV) (u : Value), cs'[j]? = some c → arr[j]? = some u → RelS ⟨C.w.setRow g.blk arr, S', C.H.set k B', C.G.set k g'⟩ c u) ∧ (∀ (j : Nat) (c : SV), cs'[j]? = some c → c.one = true))
    (hboxT : ∀ t cs', B' = .box (some t) cs' → fz = (0, 0) ∧ T = t ∧ arr.size = cs'.length)
    (htok : ∀ v e, B' = .tok v e → T = e ∧ (fz.2 ≤ g'.len * g'.stride ∧ (e ≠ 5 → fz = (0, 0))) ∧ arr.size = g'.cap * g'.stride ∧ g'.len ≤ g'.cap ∧ g'.cap ≤ maxLen ∧ (∀ x, g'.len * g'.stride ≤ x → ¬ S' g.blk x)) :
    Inv ⟨C.w.setRow g.blk arr, S', C.H.set k B', C.G.set k g'⟩ := by
  have hkH : k < C.H.length := (List.getElem?_eq_some_iff.1 hH).1
  have hkG : k < C.G.length := (List.getElem?_eq_some_iff.1 hG).1
  have glt : g.blk < C.w.heap.size := (Array.getElem?_eq_some_iff.1 hg).1
  have getH : ∀ (i : Nat) (b : Blk), (C.H.set k B')[i]? = some b → (i = k ∧ b = B') ∨ (i ≠ k ∧ C.H[i]? = some b) := by
    intro i b hi
    rw [List.getElem?_set] at hi
    split at hi
    · rename_i e
      cases hi; exact .inl ⟨e.symm, rfl⟩
    · rename_i e; exact .inr ⟨fun h => e h.symm, hi⟩
  have getG : ∀ (i : Nat) (b : GB), (C.G.set k g')[i]? = some b → (i = k ∧ b = g') ∨ (i ≠ k ∧ C.G[i]? = some b) := by
    intro i b hi
    rw [List.getElem?_set] at hi
    split at hi
    · rename_i e
      cases hi; exact .inl ⟨e.symm, rfl⟩
    · rename_i e; exact .inr ⟨fun h => e h.symm, hi⟩
  have other : ∀ (i : Nat) (gi : GB), i ≠ k → C.H[i]? ≠ some .hole → C.G[i]? = some gi → gi.blk ≠ g.blk := fun i gi hne hh h => I.dis i k gi g hne hh (by rw [hH]; intro e; exact hBn (Option.some.inj e)) h hG
  have notS : ∀ (i : Nat) (gi : GB) (x : Nat), i ≠ k → C.H[i]? ≠ some .hole → C.G[i]? = some gi → S' gi.blk x → C.S gi.blk x := by
    intro i gi x hne hh h hx
    rcases hN _ _ hx with h' | h'
    · exact h'
    · exact absurd h' (other i gi hne hh h)
  have nh : ∀ {k : Nat} {b : Blk}, C.H[k]? = some b → b ≠ .hole → C.H[k]? ≠ some .hole := by
    intro k b h hb e; rw [h] at e; exact hb (Option.some.inj e)
  refine ⟨by simp [I.len], ?_, ?_, ?_, ?_, ?_, ?_, ?_⟩
  · intro b x hb
    simp only [setRow_size]
    rcases hN _ _ hb with h | h
    · exact I.inb _ _ h
    · omega
  · intro _ i cs gi h1 h2
    rcases getH _ _ h1 with ⟨rfl, e⟩ | ⟨hne, h1⟩
    · rcases getG _ _ h2 with ⟨_, e2⟩ | ⟨hne, _⟩
      · subst e2
        obtain ⟨ef, e3, _, h3, h4, h5⟩ := hbox _ cs e.symm
        subst ef
        exact ⟨arr, T, by simp only [hgb]; exact setRow_heap _ _ _ _ _ _ hg, h3, h4, h5⟩
      · exact absurd rfl hne
    · rcases getG _ _ h2 with ⟨e, _⟩ | ⟨_, h2⟩
      · exact absurd e hne
      · obtain ⟨a, T', h3, h4, h5, h6⟩ := I.box i cs gi h1 h2
        exact ⟨a, T', by simp only [setRow_other _ _ _ _ (other i gi hne (nh h1 (by simp)) h2)]; exact h3, h4, fun j c u hj hu => EV.rel (h5 j c u hj hu), h6⟩
  · intro _ i cs gi x h1 h2 hx
    rcases getH _ _ h1 with ⟨rfl, e⟩ | ⟨hne, h1⟩
    · rcases getG _ _ h2 with ⟨_, e2⟩ | ⟨hne, _⟩
      · subst e2
        obtain ⟨_, e3, h3, _⟩ := hbox _ cs e.symm
        rw [hgb] at hx
        exact h3 x hx
      · exact absurd rfl hne
    · rcases getG _ _ h2 with ⟨e, _⟩ | ⟨_, h2⟩
      · exact absurd e hne
      · exact I.boxS i cs gi x h1 h2 (notS i gi x hne (nh h1 (by simp)) h2 hx)
  · intro i v e gi h1 h2
    rcases getH _ _ h1 with ⟨rfl, e1⟩ | ⟨hne, h1⟩
    · rcases getG _ _ h2 with ⟨_, e2⟩ | ⟨hne, _⟩
      · subst e2
        obtain ⟨e3, h0, h3, h4, h5, h6⟩ := htok v e e1.symm
        subst e3
        exact ⟨arr, ⟨fz, by simp only [hgb]; exact setRow_heap _ _ _ _ _ _ hg, h0⟩, h3, h4, h5⟩
      · exact absurd rfl hne
    · rcases getG _ _ h2 with ⟨e', _⟩ | ⟨_, h2⟩
      · exact absurd e' hne
      · obtain ⟨a, h3, h4⟩ := I.tok i v e gi h1 h2
        exact ⟨a, by simp only [setRow_other _ _ _ _ (other i gi hne (nh h1 (by simp)) h2)]; exact h3, h4⟩
  · intro i v e gi x h1 h2 hx hS
    rcases getH _ _ h1 with ⟨rfl, e1⟩ | ⟨hne, h1⟩
    · rcases getG _ _ h2 with ⟨_, e2⟩ | ⟨hne, _⟩
      · subst e2
        obtain ⟨e3, _, h3, h4, h5, h6⟩ := htok v e e1.symm
        rw [hgb] at hS
        exact h6 x hx hS
      · exact absurd rfl hne
    · rcases getG _ _ h2 with ⟨e', _⟩ | ⟨_, h2⟩
      · exact absurd e' hne
      · exact I.tokS i v e gi x h1 h2 hx (notS i gi x hne (nh h1 (by simp)) h2 hS)
  · intro i t' cs gi h1 h2
    rcases getH _ _ h1 with ⟨rfl, e1⟩ | ⟨hne, h1⟩
    · rcases getG _ _ h2 with ⟨_, e2⟩ | ⟨hne, _⟩
      · subst e2
        obtain ⟨ef, e3, h3⟩ := hboxT t' cs e1.symm
        subst ef; subst e3
        exact ⟨arr, by simp only [hgb]; exact setRow_heap _ _ _ _ _ _ hg, h3⟩
      · exact absurd rfl hne
    · rcases getG _ _ h2 with ⟨e', _⟩ | ⟨_, h2⟩
      · exact absurd e' hne
      · obtain ⟨a, h3, h4⟩ := I.boxT i t' cs gi h1 h2
        exact ⟨a, by simp only [setRow_other _ _ _ _ (other i gi hne (nh h1 (by simp)) h2)]; exact h3, h4⟩
  · intro i i' gi gi' hne hk1 hk2 h1 h2
    have back : ∀ {j : Nat}, j ≠ k → (C.H.set k B')[j]? = C.H[j]? := by
      intro j hj; rw [List.getElem?_set_ne (Ne.symm hj)]
    rcases getG _ _ h1 with ⟨q1, e1⟩ | ⟨hn1, h1'⟩ <;> rcases getG _ _ h2 with ⟨q2, e2⟩ | ⟨hn2, h2'⟩
    · exact absurd (q1.trans q2.symm) hne
    · rw [e1, hgb]; exact (other i' gi' hn2 (by rw [← back hn2]; exact hk2) h2').symm
    · rw [e2, hgb]; exact other i gi hn1 (by rw [← back hn1]; exact hk1) h1'
    · exact I.dis i i' gi gi' hne (by rw [← back hn1]; exact hk1) (by rw [← back hn2]; exact hk2) h1' h2'

end Go.Pm
