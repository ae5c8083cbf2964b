/- Rows of cells; new blocks. -/
import Derived.Test.YtkckpmcpmngiiaaGreatDoorPmBin
namespace Go.Pm

/-- The cells of a slice's elements, in a row. -/
structure Row (w : World) (S : Nat → Nat → Prop) (s : Nat) (es : List (List PV)) (news : List Value) : Prop where
  len : news.length = es.length * s
  each : ∀ (i : Nat) (e : List PV), es[i]? = some e → e.length = s
  one : ∀ (q : Nat) (v : Value), news[q]? = some v → v.oneCell' = true
  rel : ∀ (i : Nat) (e : List PV) (j : Nat) (p : PV), es[i]? = some e → e[j]? = some p → ∃ v, news[i * s + j]? = some v ∧ RelP w S p v

theorem idx_lt {i n j s : Nat} (hi : i < n) (hj : j < s) : i * s + j < n * s := by
  have : (i + 1) * s ≤ n * s := Nat.mul_le_mul_right _ hi
  rw [Nat.add_mul] at this; omega

theorem row_of {w : World} {S : Nat → Nat → Prop} {s : Nat} {es : List (List PV)} {b off n cap : Nat} (h : RelP w S (.slice s es) (.slice (some ⟨b, off, none⟩) n cap)) (hs0 : 0 < s) :
    ∃ news, Row w S s es news ∧ n = es.length ∧ n ≤ cap ∧ (∀ q v, news[q]? = some v → w.cell? ⟨b, off + q, none⟩ = some v ∧ S b (off + q)) := by
  cases h with | slice _ _ _ _ _ u hcap hs hS hc hr =>
  refine ⟨(List.range (es.length * s)).map fun q => u (q / s) (q % s), ⟨by simp, hs, ?_, ?_⟩, rfl, hcap, ?_⟩
  · intro q v hq
    rw [List.getElem?_map] at hq
    by_cases hl : q < es.length * s
    · rw [List.getElem?_range hl] at hq
      simp at hq
      have hi : q / s < es.length := Nat.div_lt_of_lt_mul (by rw [Nat.mul_comm]; exact hl)
      have he : es[q / s]? = some es[q / s] := by simp [hi]
      have hj : q % s < es[q / s].length := by rw [hs _ _ he]; exact Nat.mod_lt _ hs0
      have := hr _ _ (q % s) _ he (List.getElem?_eq_getElem hj)
      rw [← hq]; exact this.oneV
    · rw [List.getElem?_eq_none (by simpa using hl)] at hq; cases hq
  · intro i e j p he hp
    have hi : i < es.length := (List.getElem?_eq_some_iff.1 he).1
    have hj : j < s := by have := (List.getElem?_eq_some_iff.1 hp).1; rw [hs i e he] at this; exact this
    refine ⟨u i j, ?_, hr i e j p he hp⟩
    rw [List.getElem?_map, List.getElem?_range (idx_lt hi hj)]
    simp only [Option.map_some, Option.some.injEq]
    rw [show (i * s + j) / s = i by rw [Nat.mul_comm, Nat.mul_add_div hs0, Nat.div_eq_of_lt hj]; rfl, show (i * s + j) % s = j by rw [Nat.mul_comm, Nat.mul_add_mod, Nat.mod_eq_of_lt hj]]
  · intro q v hq
    rw [List.getElem?_map] at hq
    by_cases hl : q < es.length * s
    · rw [List.getElem?_range hl] at hq
      simp at hq
      have hi : q / s < es.length := Nat.div_lt_of_lt_mul (by rw [Nat.mul_comm]; exact hl)
      have he : es[q / s]? = some es[q / s] := by simp [hi]
      have hj : q % s < es[q / s].length := by rw [hs _ _ he]; exact Nat.mod_lt _ hs0
      have h1 := hc _ _ (q % s) _ he (List.getElem?_eq_getElem hj)
      have h2 := hS _ _ (q % s) _ he (List.getElem?_eq_getElem hj)
      have e1 : off + q / s * s + q % s = off + q := by
        have := Nat.div_add_mod q s
        rw [Nat.mul_comm] at this; omega
      rw [e1] at h1 h2
      rw [← hq]; exact ⟨h1, h2⟩
    · rw [List.getElem?_eq_none (by simpa using hl)] at hq; cases hq

theorem Row.mono {w w' : World} {S S' : Nat → Nat → Prop} {s : Nat} {es : List (List PV)} {news : List Value} (h : Row w S s es news) (hS : ∀ b o, S b o → S' b o)
    (hc : ∀ b o, S b o → w'.cell? ⟨b, o, none⟩ = w.cell? ⟨b, o, none⟩) : Row w' S' s es news :=
  ⟨h.len, h.each, h.one, fun i e j p he hp => let ⟨v, h1, h2⟩ := h.rel i e j p he hp; ⟨v, h1, h2.mono hS hc⟩⟩

theorem Row.rel_at {w : World} {S : Nat → Nat → Prop} {s : Nat} {es : List (List PV)} {news : List Value} (h : Row w S s es news) (b off cap : Nat) (hcap : es.length ≤ cap)
    (hc : ∀ q v, news[q]? = some v → w.cell? ⟨b, off + q, none⟩ = some v ∧ S b (off + q)) : RelP w S (.slice s es) (.slice (some ⟨b, off, none⟩) es.length cap) := by
  have hget : ∀ (i : Nat) (e : List PV) (j : Nat) (p : PV), es[i]? = some e → e[j]? = some p → news[i * s + j]? = some (news.getD (i * s + j) Go.undef) ∧ RelP w S p (news.getD (i * s + j) Go.undef) := by
    intro i e j p he hp
    obtain ⟨v, h1, h2⟩ := h.rel i e j p he hp
    have : news.getD (i * s + j) Go.undef = v := by simp [List.getD, h1]
    rw [this]; exact ⟨h1, h2⟩
  refine .slice s es b off cap (fun i j => news.getD (i * s + j) Go.undef) hcap h.each ?_ ?_ ?_
  · intro i e j p he hp
    rw [Nat.add_assoc]; exact (hc _ _ (hget i e j p he hp).1).2
  · intro i e j p he hp
    rw [Nat.add_assoc]; exact (hc _ _ (hget i e j p he hp).1).1
  · intro i e j p he hp
    exact (hget i e j p he hp).2

theorem Row.append {w : World} {S : Nat → Nat → Prop} {s : Nat} {es es' : List (List PV)} {news news' : List Value} (h : Row w S s es news) (h' : Row w S s es' news') :
    Row w S s (es ++ es') (news ++ news') := by
  refine ⟨by simp [h.len, h'.len, Nat.add_mul], ?_, ?_, ?_⟩
  · intro i e he
    rw [List.getElem?_append] at he
    split at he
    · exact h.each i e he
    · exact h'.each _ e he
  · intro q v hq
    rw [List.getElem?_append] at hq
    split at hq
    · exact h.one q v hq
    · exact h'.one _ v hq
  · intro i e j p he hp
    rw [List.getElem?_append] at he
    split at he
    · rename_i hi
      obtain ⟨v, h1, h2⟩ := h.rel i e j p he hp
      exact ⟨v, by rw [List.getElem?_append_left (List.getElem?_eq_some_iff.1 h1).1]; exact h1, h2⟩
    · rename_i hi
      obtain ⟨v, h1, h2⟩ := h'.rel _ e j p he hp
      refine ⟨v, ?_, h2⟩
      have e1 : i * s + j = news.length + ((i - es.length) * s + j) := by
        rw [h.len, Nat.sub_mul]
        have : es.length * s ≤ i * s := Nat.mul_le_mul_right _ (by omega)
        omega
      rw [e1, List.getElem?_append_right (by omega)]
      rw [Nat.add_sub_cancel_left]; exact h1

theorem Row.nil (w : World) (S : Nat → Nat → Prop) (s : Nat) : Row w S s [] [] :=
  ⟨by simp, fun i e h => by simp at h, fun q v h => by simp at h, fun i e j p h => by simp at h⟩

/-- The world w' is w with one more block. -/
structure Pushed (w w' : World) (o : Obj) : Prop where
  os : w'.os = w.os
  tape : w'.tape = w.tape
  output : w'.output = w.output
  heap : w'.heap = w.heap.push o

theorem Pushed.alloc (w : World) (o : Obj) : Pushed w (w.alloc o) o := ⟨rfl, rfl, rfl, rfl⟩
theorem Pushed.drew (w : World) (o : Obj) : Pushed w (w.drew.alloc o) o := ⟨rfl, rfl, rfl, rfl⟩

section
variable {w w' : World} {o : Obj} (h : Pushed w w' o)
include h
theorem Pushed.size : w'.heap.size = w.heap.size + 1 := by rw [h.heap]; simp
theorem Pushed.old {b : Nat} (hb : b < w.heap.size) : w'.heap[b]? = w.heap[b]? := by
  rw [h.heap, Array.getElem?_push, if_neg (by omega)]
theorem Pushed.new : w'.heap[w.heap.size]? = some o := by rw [h.heap]; simp
theorem Pushed.cell {b x : Nat} (hb : b < w.heap.size) : w'.cell? ⟨b, x, none⟩ = w.cell? ⟨b, x, none⟩ := World.cell?_of_block (a := ⟨b, x, none⟩) (h.old hb)
end

/-- One more block, and what is laid to it. -/
theorem evo_push {C : Cf} (I : Inv C) {w' : World} {o : Obj} (hw : Pushed C.w w' o) (S' : Nat → Nat → Prop) (hS : ∀ b x, C.S b x → S' b x) (hN : ∀ b x, S' b x → C.S b x ∨ b = C.w.heap.size)
    (hs : List Blk) (gs : List GB) (hg : ∀ g ∈ gs, g.blk = C.w.heap.size) : Evo C ⟨w', S', C.H ++ hs, C.G ++ gs⟩ := by
  refine ⟨hw.os, hw.tape, hw.output, by rw [hw.size]; omega, hS, fun b x hb => hw.cell (I.inb _ _ hb), fun b hb _ => hw.old hb, ?_, ?_, ?_, ?_⟩
  · intro k g hk
    simp only [List.getElem?_append] at hk
    split at hk
    · exact .inr ⟨k, g, hk, rfl⟩
    · have := hg g (List.mem_of_getElem? hk)
      exact .inl (by omega)
  · intro b x hb
    rcases hN b x hb with h | h
    · exact .inl h
    · exact .inr (.inl (by omega))
  · intro _ k cs g h1 h2
    have hk : k < C.H.length := (List.getElem?_eq_some_iff.1 h1).1
    have hk' : k < C.G.length := (List.getElem?_eq_some_iff.1 h2).1
    exact ⟨⟨cs, by simp only [List.getElem?_append_left hk]; exact h1, rfl⟩, by simp only [List.getElem?_append_left hk']; exact h2⟩
  · intro k v e g h1 h2
    have hk : k < C.H.length := (List.getElem?_eq_some_iff.1 h1).1
    have hk' : k < C.G.length := (List.getElem?_eq_some_iff.1 h2).1
    exact ⟨v, g, by simp only [List.getElem?_append_left hk]; exact h1, Nat.le_refl _, by simp only [List.getElem?_append_left hk']; exact h2, fun _ => rfl⟩

/-- What the old blocks owe still holds behind one more block. -/
theorem inv_push {C : Cf} (I : Inv C) {w' : World} {o : Obj} (hw : Pushed C.w w' o) (S' : Nat → Nat → Prop) (hS : ∀ b x, C.S b x → S' b x) (hN : ∀ b x, S' b x → C.S b x ∨ b = C.w.heap.size)
    (hs : List Blk) (gs : List GB) (hlen : hs.length = gs.length) (hone : gs.length ≤ 1) (hg : ∀ g ∈ gs, g.blk = C.w.heap.size)
    (hbox : ∀ t cs g, hs = [.box t cs] → gs = [g] → (∀ x, ¬ S' C.w.heap.size x) ∧ ∃ (arr : Array Value) (T : TypeId), o = .cells arr T (0, 0) ∧ cs.length ≤ arr.size ∧ (∀ (j : Nat) (c : SV) (u : Value), cs[j]? = some c → arr[j]? = some u → RelS C c u) ∧ (∀ (j : Nat) (c : SV), cs[j]? = some c → c.one = true))
    (hboxT : ∀ t cs g, hs = [.box (some t) cs] → gs = [g] → ∃ (arr : Array Value), o = .cells arr t (0, 0) ∧ arr.size = cs.length)
    (htok : ∀ v e g, hs = [.tok v e] → gs = [g] → (∀ x, g.len * g.stride ≤ x → ¬ S' C.w.heap.size x) ∧ ∃ (arr : Array Value), o = .cells arr e (0, 0) ∧ arr.size = g.cap * g.stride ∧ g.len ≤ g.cap ∧ g.cap ≤ maxLen) :
    Inv ⟨w', S', C.H ++ hs, C.G ++ gs⟩ := by
  have EV := evo_push I hw S' hS hN hs gs hg
  have blkLt : ∀ (k : Nat) (g : GB), C.G[k]? = some g → C.H[k]? ≠ some .hole → g.blk < C.w.heap.size := by
    intro k g hk hnh
    have hk' : k < C.H.length := by rw [I.len]; exact (List.getElem?_eq_some_iff.1 hk).1
    cases hH : C.H[k]? with
    | none => simp at hH; omega
    | some b =>
      cases b with
      | box _ cs => obtain ⟨arr, T, h1, _⟩ := I.box k cs g hH hk; exact (Array.getElem?_eq_some_iff.1 h1).1
      | tok v e => obtain ⟨arr, ⟨fz, h1, _⟩, _⟩ := I.tok k v e g hH hk; exact (Array.getElem?_eq_some_iff.1 h1).1
      | hole => exact absurd hH hnh
  have notS : ∀ (k : Nat) (g : GB) (x : Nat), C.G[k]? = some g → C.H[k]? ≠ some .hole → S' g.blk x → C.S g.blk x := by
    intro k g x hk hnh hx
    rcases hN _ _ hx with h | h
    · exact h
    · have := blkLt k g hk hnh; omega
  have nh : ∀ {k : Nat} {b : Blk}, C.H[k]? = some b → b ≠ .hole → C.H[k]? ≠ some .hole := by
    intro k b h hb e; rw [h] at e; exact hb (Option.some.inj e)
  have split1 : ∀ {α : Type} (l : List α) (r : List α) (k : Nat) (a : α), (l ++ r)[k]? = some a → l[k]? = some a ∨ (l.length ≤ k ∧ r[k - l.length]? = some a) := by
    intro α l r k a hk
    rw [List.getElem?_append] at hk
    split at hk
    · exact .inl hk
    · rename_i hl; exact .inr ⟨by omega, hk⟩
  have single : ∀ {α : Type} (r : List α) (i : Nat) (a : α), r.length ≤ 1 → r[i]? = some a → r = [a] ∧ i = 0 := by
    intro α r i a hr hi
    match r, i, hr, hi with
    | [x], 0, _, hi => simp at hi; exact ⟨by rw [hi], rfl⟩
    | [x], i + 1, _, hi => simp at hi
    | x :: y :: r, _, hr, _ => simp at hr
  refine ⟨by simp [I.len, hlen], ?_, ?_, ?_, ?_, ?_, ?_, ?_⟩
  · intro b x hb
    simp only [hw.size]
    rcases hN _ _ hb with h | h
    · have := I.inb _ _ h; omega
    · omega
  · intro _ k cs g h1 h2
    rcases split1 _ _ _ _ h1 with h1 | ⟨hl, h1⟩
    · rcases split1 _ _ _ _ h2 with h2 | ⟨hl2, h2⟩
      · obtain ⟨arr, T, h3, h4, h5, h6⟩ := I.box k cs g h1 h2
        exact ⟨arr, T, by simp only [hw.old (blkLt k g h2 (nh h1 (by simp)))]; exact h3, h4, fun j c u hj hu => EV.rel (h5 j c u hj hu), h6⟩
      · have := (List.getElem?_eq_some_iff.1 h1).1; rw [I.len] at this; omega
    · rcases split1 _ _ _ _ h2 with h2 | ⟨hl2, h2⟩
      · have := (List.getElem?_eq_some_iff.1 h2).1; rw [← I.len] at this; omega
      · obtain ⟨e1, _⟩ := single _ _ _ (by omega) h1
        obtain ⟨e2, _⟩ := single _ _ _ hone h2
        obtain ⟨_, arr, T, ho, hl3, h3, h4⟩ := hbox _ cs g e1 e2
        refine ⟨arr, T, ?_, hl3, fun j c u hj hu => EV.rel (h3 j c u hj hu), h4⟩
        rw [hg g (by rw [e2]; simp)]; simp only []; rw [hw.new, ho]
  · intro _ k cs g x h1 h2 hx
    rcases split1 _ _ _ _ h2 with h2 | ⟨hl2, h2⟩
    · rcases split1 _ _ _ _ h1 with h1 | ⟨hl, h1⟩
      · exact I.boxS k cs g x h1 h2 (notS k g x h2 (nh h1 (by simp)) hx)
      · have := (List.getElem?_eq_some_iff.1 h2).1; rw [← I.len] at this; omega
    · rcases split1 _ _ _ _ h1 with h1 | ⟨hl, h1⟩
      · have := (List.getElem?_eq_some_iff.1 h1).1; rw [I.len] at this; omega
      · obtain ⟨e1, _⟩ := single _ _ _ (by omega) h1
        obtain ⟨e2, _⟩ := single _ _ _ hone h2
        have := (hbox _ cs g e1 e2).1 x
        rw [hg g (by rw [e2]; simp)] at hx
        exact this hx
  · intro k v e g h1 h2
    rcases split1 _ _ _ _ h1 with h1 | ⟨hl, h1⟩
    · rcases split1 _ _ _ _ h2 with h2 | ⟨hl2, h2⟩
      · obtain ⟨arr, h3, h4⟩ := I.tok k v e g h1 h2
        exact ⟨arr, by simp only [hw.old (blkLt k g h2 (nh h1 (by simp)))]; exact h3, h4⟩
      · have := (List.getElem?_eq_some_iff.1 h1).1; rw [I.len] at this; omega
    · rcases split1 _ _ _ _ h2 with h2 | ⟨hl2, h2⟩
      · have := (List.getElem?_eq_some_iff.1 h2).1; rw [← I.len] at this; omega
      · obtain ⟨e1, _⟩ := single _ _ _ (by omega) h1
        obtain ⟨e2, _⟩ := single _ _ _ hone h2
        obtain ⟨_, arr, ho, h3⟩ := htok v e g e1 e2
        refine ⟨arr, ⟨(0, 0), ?_, Nat.zero_le _, fun _ => rfl⟩, h3⟩
        rw [hg g (by rw [e2]; simp)]; simp only []; rw [hw.new, ho]
  · intro k v e g x h1 h2 hx hS'
    rcases split1 _ _ _ _ h2 with h2 | ⟨hl2, h2⟩
    · rcases split1 _ _ _ _ h1 with h1 | ⟨hl, h1⟩
      · exact I.tokS k v e g x h1 h2 hx (notS k g x h2 (nh h1 (by simp)) hS')
      · have := (List.getElem?_eq_some_iff.1 h2).1; rw [← I.len] at this; omega
    · rcases split1 _ _ _ _ h1 with h1 | ⟨hl, h1⟩
      · have := (List.getElem?_eq_some_iff.1 h1).1; rw [I.len] at this; omega
      · obtain ⟨e1, _⟩ := single _ _ _ (by omega) h1
        obtain ⟨e2, _⟩ := single _ _ _ hone h2
        have := (htok v e g e1 e2).1 x hx
        rw [hg g (by rw [e2]; simp)] at hS'
        exact this hS'
  · intro k t cs g h1 h2
    rcases split1 _ _ _ _ h1 with h1 | ⟨hl, h1⟩
    · rcases split1 _ _ _ _ h2 with h2 | ⟨hl2, h2⟩
      · obtain ⟨arr, h3, h4⟩ := I.boxT k t cs g h1 h2
        exact ⟨arr, by simp only [hw.old (blkLt k g h2 (nh h1 (by simp)))]; exact h3, h4⟩
      · have := (List.getElem?_eq_some_iff.1 h1).1; rw [I.len] at this; omega
    · rcases split1 _ _ _ _ h2 with h2 | ⟨hl2, h2⟩
      · have := (List.getElem?_eq_some_iff.1 h2).1; rw [← I.len] at this; omega
      · obtain ⟨e1, _⟩ := single _ _ _ (by omega) h1
        obtain ⟨e2, _⟩ := single _ _ _ hone h2
        obtain ⟨arr, ho, h3⟩ := hboxT t cs g e1 e2
        refine ⟨arr, ?_, h3⟩
        rw [hg g (by rw [e2]; simp)]; simp only []; rw [hw.new, ho]
  · intro k k' g g' hne hk1 hk2 h1 h2
    have back : ∀ {i : Nat} {gi : GB}, C.G[i]? = some gi → (C.H ++ hs)[i]? = C.H[i]? := by
      intro i gi hi
      rw [List.getElem?_append_left (by rw [I.len]; exact (List.getElem?_eq_some_iff.1 hi).1)]
    rcases split1 _ _ _ _ h1 with h1 | ⟨hl, h1⟩ <;> rcases split1 _ _ _ _ h2 with h2 | ⟨hl2, h2⟩
    · exact I.dis k k' g g' hne (by rw [← back h1]; exact hk1) (by rw [← back h2]; exact hk2) h1 h2
    · have := blkLt k g h1 (by rw [← back h1]; exact hk1); have := hg g' (List.mem_of_getElem? h2); omega
    · have := blkLt k' g' h2 (by rw [← back h2]; exact hk2); have := hg g (List.mem_of_getElem? h1); omega
    · obtain ⟨_, e1⟩ := single _ _ _ hone h1
      obtain ⟨_, e2⟩ := single _ _ _ hone h2
      omega

end Go.Pm
