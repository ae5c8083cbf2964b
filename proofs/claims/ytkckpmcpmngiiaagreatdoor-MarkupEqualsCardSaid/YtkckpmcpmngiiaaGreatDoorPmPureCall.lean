/- A contract without a heap, out of a run on the empty heap. -/
import Derived.Test.YtkckpmcpmngiiaaGreatDoorPmRun
set_option linter.unusedSimpArgs false
set_option linter.unusedVariables false
set_option linter.unusedSectionVars false
namespace Go.Pm

/-- The configuration in which a pure call begins. -/
def Cf.bare (C : Cf) : Cf := ⟨C.w, C.S, [], []⟩

theorem Inv.bare {C : Cf} (I : Inv C) : Inv C.bare :=
  ⟨rfl, I.inb, fun k cs g h => by simp [Cf.bare] at h, fun k cs g o h => by simp [Cf.bare] at h, fun k v e g h => by simp [Cf.bare] at h, fun k v e g o h => by simp [Cf.bare] at h,
    fun k t cs g h => by simp [Cf.bare] at h, fun k k' g g' _ _ _ h => by simp [Cf.bare] at h⟩

theorem pcells_agg {C C' : Cf} (hw : C'.w = C.w) (hS : C'.S = C.S) {cs : List SV} {ps : List PV} {v : Value} (h : pcells cs = some ps) (hr : RelS C (.agg cs) v) : RelS C' (.agg (ps.map .pv)) v := by
  cases hr with | agg _ us hl h1 h2 =>
  obtain ⟨h3, h4⟩ := pcells_rel h ⟨hl, h2⟩
  refine .agg _ us (by simp [h3]) (fun j c hj => ?_) (fun j c u hj hu => ?_)
  · rw [List.getElem?_map] at hj
    cases hp : ps[j]? with
    | none => simp [hp] at hj
    | some p => simp [hp] at hj; subst hj; rfl
  · rw [List.getElem?_map] at hj
    cases hp : ps[j]? with
    | none => simp [hp] at hj
    | some p => simp [hp] at hj; subst hj; exact .pv _ _ (by rw [hw, hS]; exact h4 j p u hp hu)

theorem pcells_agg2 {C C' : Cf} (hm : ∀ {p : PV} {v : Value}, RelP C.w C.S p v → RelP C'.w C'.S p v) {cs : List SV} {ps : List PV} {v : Value} (h : pcells cs = some ps) (hr : RelS C (.agg cs) v) : RelS C' (.agg (ps.map .pv)) v := by
  cases hr with | agg _ us hl h1 h2 =>
  obtain ⟨h3, h4⟩ := pcells_rel h ⟨hl, h2⟩
  refine .agg _ us (by simp [h3]) (fun j c hj => ?_) (fun j c u hj hu => ?_)
  · rw [List.getElem?_map] at hj
    cases hp : ps[j]? with
    | none => simp [hp] at hj
    | some p => simp [hp] at hj; subst hj; rfl
  · rw [List.getElem?_map] at hj
    cases hp : ps[j]? with
    | none => simp [hp] at hj
    | some p => simp [hp] at hj; subst hj; exact .pv _ _ (hm (h4 j p u hp hu))

theorem pur_rel {C : Cf} {s p : SV} {v : Value} (h : pur s = some p) (hr : RelS C s v) : RelS C.bare p v := by
  unfold pur at h
  split at h
  · cases h; cases hr with | pv _ _ hp => exact .pv _ _ hp
  · cases h; cases hr with | own _ _ _ _ _ _ _ _ _ _ _ hp _ => exact .pv _ _ hp
  · cases h; cases hr with | tight _ _ _ _ hp => exact .pv _ _ hp
  · split at h
    · rename_i ps hps; cases h; exact pcells_agg (C := C) (C' := C.bare) rfl rfl hps hr
    · cases h
  · cases h

theorem purL_rel {C : Cf} : ∀ {l as : List SV} {vs : List Value}, purL l = some as → RelL C l vs → RelL C.bare as vs
  | [], as, vs, h, hr => by
    simp [purL] at h; subst h
    have : vs = [] := by simpa using hr.1
    subst this; exact RelL.nil _
  | c :: r, as, vs, h, hr => by
    simp only [purL] at h
    split at h
    · rename_i p hp
      split at h
      · rename_i ps hps
        cases h
        obtain ⟨u, us, rfl, h1, h2⟩ := hr.uncons
        exact RelL.cons (pur_rel hp h1) (purL_rel hps h2)
      · cases h
    · cases h

/-- The caller's configuration behind a pure call: some of the callee's tokens are laid to the caller's. -/
def back (C D : Cf) (hs : List Blk) (gs : List GB) : Cf := ⟨D.w, fun b x => D.S b x ∨ ∃ (t : Option TypeId) (k : Nat) (cs : List SV) (g : GB), D.H[k]? = some (.box t cs) ∧ D.G[k]? = some g ∧ g.blk = b, C.H ++ hs, C.G ++ gs⟩
theorem back_rel {C D : Cf} {hs : List Blk} {gs : List GB} {p : PV} {v : Value} (h : RelP D.w D.S p v) : RelP (back C D hs gs).w (back C D hs gs).S p v := h.mono (fun _ _ h => .inl h) (fun _ _ _ => rfl)

theorem back_evo {C D : Cf} (I : Inv C) (EV : Evo C.bare D) (hs : List Blk) (gs : List GB) (hg : ∀ g ∈ gs, C.w.heap.size ≤ g.blk) : Evo C (back C D hs gs) := by
  refine ⟨EV.os, EV.tape, EV.output, EV.size, fun b o h => .inl (EV.S b o h), EV.cell, ?_, ?_, ?_, ?_, ?_⟩
  · intro b hb _
    exact EV.frame b hb (fun k g h => by simp [Cf.bare] at h)
  · intro k g hk
    simp only [back, List.getElem?_append] at hk
    split at hk
    · exact .inr ⟨k, g, hk, rfl⟩
    · exact .inl (hg g (List.mem_of_getElem? hk))
  · intro b o hb
    rcases hb with hb | ⟨_, k, cs, g, h1, h2, rfl⟩
    · rcases EV.newS b o hb with h | h | ⟨k, g, h, _⟩
      · exact .inl h
      · exact .inr (.inl h)
      · simp [Cf.bare] at h
    · rcases EV.blks k g h2 with h | ⟨k0, g0, h0, _⟩
      · exact .inr (.inl h)
      · simp [Cf.bare] at h0
  · intro _ k cs g h1 h2
    have hk : k < C.H.length := (List.getElem?_eq_some_iff.1 h1).1
    have hk' : k < C.G.length := (List.getElem?_eq_some_iff.1 h2).1
    exact ⟨⟨cs, by simp only [back, List.getElem?_append_left hk]; exact h1, rfl⟩, by simp only [back, List.getElem?_append_left hk']; exact h2⟩
  · intro k v e g h1 h2
    have hk : k < C.H.length := (List.getElem?_eq_some_iff.1 h1).1
    have hk' : k < C.G.length := (List.getElem?_eq_some_iff.1 h2).1
    exact ⟨v, g, by simp only [back, List.getElem?_append_left hk]; exact h1, Nat.le_refl _, by simp only [back, List.getElem?_append_left hk']; exact h2, fun _ => rfl⟩

/-- The tokens that are laid to the caller's: each is one of the callee's, all of different blocks. -/
structure Laid (D : Cf) (hs : List Blk) (gs : List GB) : Prop where
  len : hs.length = gs.length
  tok : ∀ (i : Nat) (g : GB), gs[i]? = some g → ∃ (k v : Nat) (e : TypeId), D.H[k]? = some (Blk.tok v e) ∧ D.G[k]? = some g ∧ hs[i]? = some (Blk.tok 0 e)
  dis : ∀ (i j : Nat) (g g' : GB), i ≠ j → gs[i]? = some g → gs[j]? = some g' → g.blk ≠ g'.blk

theorem Laid.nil (D : Cf) : Laid D [] [] := ⟨rfl, fun i g h => by simp at h, fun i j g g' _ h => by simp at h⟩

theorem tok_new {C D : Cf} (EV : Evo C.bare D) {k : Nat} {g : GB} (h : D.G[k]? = some g) : C.w.heap.size ≤ g.blk := by
  rcases EV.blks k g h with h | ⟨k0, g0, h0, _⟩
  · exact h
  · simp [Cf.bare] at h0

theorem back_inv {C D : Cf} (I : Inv C) (J : Inv D) (EV : Evo C.bare D) {hs : List Blk} {gs : List GB} (L : Laid D hs gs) : Inv (back C D hs gs) := by
  have hgn : ∀ g ∈ gs, C.w.heap.size ≤ g.blk := by
    intro g hg
    obtain ⟨i, hi⟩ := List.getElem?_of_mem hg
    obtain ⟨k, v, e, _, h2, _⟩ := L.tok i g hi
    exact tok_new EV h2
  have EB := back_evo I EV hs gs hgn
  have blkLt : ∀ (k : Nat) (g : GB), C.G[k]? = some g → C.H[k]? ≠ some .hole → g.blk < C.w.heap.size := by
    intro k g hk hnh
    have hk' : k < C.H.length := by rw [I.len]; exact (List.getElem?_eq_some_iff.1 hk).1
    cases hH : C.H[k]? with
    | none => simp at hH; omega
    | some b =>
      cases b with
      | box _ cs => obtain ⟨arr, T, h1, _⟩ := I.box k cs g hH hk; exact (Array.getElem?_eq_some_iff.1 h1).1
      | tok v e => obtain ⟨arr, ⟨fz, h1, _⟩, _⟩ := I.tok k v e g hH hk; exact (Array.getElem?_eq_some_iff.1 h1).1
      | hole => exact absurd hH hnh
  have old : ∀ (b : Nat), b < C.w.heap.size → D.w.heap[b]? = C.w.heap[b]? := fun b hb => EV.frame b hb (fun k g h => by simp [Cf.bare] at h)
  have nh : ∀ {k : Nat} {b : Blk}, C.H[k]? = some b → b ≠ .hole → C.H[k]? ≠ some .hole := by
    intro k b h hb e; rw [h] at e; exact hb (Option.some.inj e)
  have notS : ∀ (k : Nat) (g : GB) (x : Nat), C.G[k]? = some g → C.H[k]? ≠ some .hole → (back C D hs gs).S g.blk x → C.S g.blk x := by
    intro k g x hk hnh hx
    have hx : D.S g.blk x := by
      rcases hx with hx | ⟨_, k1, cs1, g1, h1, h2, e1⟩
      · exact hx
      · have := tok_new EV h2; have := blkLt k g hk hnh; omega
    rcases EV.newS _ _ hx with h | h | ⟨k0, g0, h, _⟩
    · exact h
    · have := blkLt k g hk hnh; simp [Cf.bare] at h; omega
    · simp [Cf.bare] at h
  have split1 : ∀ {α : Type} (l : List α) (r : List α) (k : Nat) (a : α), (l ++ r)[k]? = some a → l[k]? = some a ∨ (l.length ≤ k ∧ r[k - l.length]? = some a) := by
    intro α l r k a hk
    rw [List.getElem?_append] at hk
    split at hk
    · exact .inl hk
    · rename_i hl; exact .inr ⟨by omega, hk⟩
  have newH : ∀ (i : Nat) (b : Blk), hs[i]? = some b → ∃ (e : TypeId) (g : GB), b = Blk.tok 0 e ∧ gs[i]? = some g ∧ ∃ (k v : Nat), D.H[k]? = some (Blk.tok v e) ∧ D.G[k]? = some g := by
    intro i b hi
    have hlt : i < gs.length := by rw [← L.len]; exact (List.getElem?_eq_some_iff.1 hi).1
    obtain ⟨k, v, e, h1, h2, h3⟩ := L.tok i gs[i] (by simp [hlt])
    rw [h3] at hi; cases hi
    exact ⟨e, gs[i], rfl, by simp [hlt], k, v, h1, h2⟩
  refine ⟨by simp [back, I.len, L.len], ?_, ?_, ?_, ?_, ?_, ?_, ?_⟩
  · intro b o hb
    rcases hb with hb | ⟨_, k1, cs1, g1, h1, h2, rfl⟩
    · exact J.inb b o hb
    · obtain ⟨arr, T, h3, _⟩ := J.box k1 cs1 g1 h1 h2
      exact (Array.getElem?_eq_some_iff.1 h3).1
  · intro _ k cs g h1 h2
    rcases split1 _ _ _ _ h1 with h1 | ⟨hl, h1⟩
    · rcases split1 _ _ _ _ h2 with h2 | ⟨hl2, h2⟩
      · obtain ⟨arr, T, h3, h4, h5, h6⟩ := I.box k cs g h1 h2
        exact ⟨arr, T, by simp only [back, old _ (blkLt k g h2 (nh h1 (by simp)))]; exact h3, h4, fun j c u hj hu => EB.rel (h5 j c u hj hu), h6⟩
      · have := (List.getElem?_eq_some_iff.1 h1).1; rw [I.len] at this; omega
    · obtain ⟨e, g', e1, _⟩ := newH _ _ h1; cases e1
  · intro _ k cs g x h1 h2 hx
    rcases split1 _ _ _ _ h1 with h1 | ⟨hl, h1⟩
    · rcases split1 _ _ _ _ h2 with h2 | ⟨hl2, h2⟩
      · exact I.boxS k cs g x h1 h2 (notS k g x h2 (nh h1 (by simp)) hx)
      · have := (List.getElem?_eq_some_iff.1 h1).1; rw [I.len] at this; omega
    · obtain ⟨e, g', e1, _⟩ := newH _ _ h1; cases e1
  · intro k v e g h1 h2
    rcases split1 _ _ _ _ h1 with h1 | ⟨hl, h1⟩
    · rcases split1 _ _ _ _ h2 with h2 | ⟨hl2, h2⟩
      · obtain ⟨arr, h3, h4⟩ := I.tok k v e g h1 h2
        exact ⟨arr, by simp only [back, old _ (blkLt k g h2 (nh h1 (by simp)))]; exact h3, h4⟩
      · have := (List.getElem?_eq_some_iff.1 h1).1; rw [I.len] at this; omega
    · rcases split1 _ _ _ _ h2 with h2 | ⟨hl2, h2⟩
      · have := (List.getElem?_eq_some_iff.1 h2).1; rw [← I.len] at this; omega
      · obtain ⟨e', g', e1, e2, k', v', h3, h4⟩ := newH _ _ h1
        cases e1
        rw [I.len, h2] at e2; cases e2
        exact J.tok k' v' _ g h3 h4
  · intro k v e g x h1 h2 hx hS
    rcases split1 _ _ _ _ h1 with h1 | ⟨hl, h1⟩
    · rcases split1 _ _ _ _ h2 with h2 | ⟨hl2, h2⟩
      · exact I.tokS k v e g x h1 h2 hx (notS k g x h2 (nh h1 (by simp)) hS)
      · have := (List.getElem?_eq_some_iff.1 h1).1; rw [I.len] at this; omega
    · rcases split1 _ _ _ _ h2 with h2 | ⟨hl2, h2⟩
      · have := (List.getElem?_eq_some_iff.1 h2).1; rw [← I.len] at this; omega
      · obtain ⟨e', g', e1, e2, k', v', h3, h4⟩ := newH _ _ h1
        cases e1
        rw [I.len, h2] at e2; cases e2
        rcases hS with hS | ⟨_, k1, cs1, g1, h5, h6, e5⟩
        · exact J.tokS k' v' _ g x h3 h4 hx hS
        · by_cases hk : k1 = k'
          · subst hk; rw [h5] at h3; cases h3
          · exact J.dis k1 k' g1 g hk (by rw [h5]; simp) (by rw [h3]; simp) h6 h4 e5
  · intro k t cs g h1 h2
    rcases split1 _ _ _ _ h1 with h1 | ⟨hl, h1⟩
    · rcases split1 _ _ _ _ h2 with h2 | ⟨hl2, h2⟩
      · obtain ⟨arr, h3, h4⟩ := I.boxT k t cs g h1 h2
        exact ⟨arr, by simp only [back, old _ (blkLt k g h2 (nh h1 (by simp)))]; exact h3, h4⟩
      · have := (List.getElem?_eq_some_iff.1 h1).1; rw [I.len] at this; omega
    · obtain ⟨e, g', e1, _⟩ := newH _ _ h1; cases e1
  · intro k k' g g' hne hk1 hk2 h1 h2
    have bk : ∀ {i : Nat} {gi : GB}, C.G[i]? = some gi → (C.H ++ hs)[i]? = C.H[i]? := by
      intro i gi hi
      rw [List.getElem?_append_left (by rw [I.len]; exact (List.getElem?_eq_some_iff.1 hi).1)]
    rcases split1 _ _ _ _ h1 with h1 | ⟨hl, h1⟩ <;> rcases split1 _ _ _ _ h2 with h2 | ⟨hl2, h2⟩
    · exact I.dis k k' g g' hne (by rw [← bk h1]; exact hk1) (by rw [← bk h2]; exact hk2) h1 h2
    · have := blkLt k g h1 (by rw [← bk h1]; exact hk1); have := hgn g' (List.mem_of_getElem? h2); omega
    · have := blkLt k' g' h2 (by rw [← bk h2]; exact hk2); have := hgn g (List.mem_of_getElem? h1); omega
    · exact L.dis _ _ g g' (by omega) h1 h2

/-- A component of a result that holds no current token: it says the same in the caller. -/
theorem out_plain {C D : Cf} (J : Inv D) {c p p' : SV} {v : Value} {fr : Bool} {H H' : List Blk} (hr : RelS D c v) (ho : outP D.H c = some p) (hp : place fr H p = some (p', H')) (hn : isOwn c = false) (hs : List Blk) (gs : List GB) :
    H' = H ∧ RelS (back C D hs gs) p' v := by
  unfold outP at ho
  split at ho
  · cases ho; simp only [place] at hp; cases hp
    cases hr with | pv _ _ h => exact ⟨rfl, .pv _ _ (back_rel h)⟩
  · cases ho; simp only [place] at hp; cases hp
    cases hr with | tight _ _ _ _ h => exact ⟨rfl, .tight _ _ _ _ (back_rel h)⟩
  · simp [isOwn] at hn
  · rename_i cs
    cases hps : pcells cs with
    | none => simp [hps] at ho
    | some ps =>
      simp [hps] at ho; subst ho
      have hq : pcells (ps.map SV.pv) = some ps := by
        clear hps hp hr
        induction ps with
        | nil => rfl
        | cons a r ih => simp [pcells, pcell, ih]
      simp only [place, hq] at hp
      cases hp
      exact ⟨rfl, pcells_agg2 (C := D) (C' := back C D hs gs) (fun h => back_rel h) hps hr⟩
  · rename_i k off len st
    split at ho
    · rename_i cs hH
      split at ho
      · rename_i hc
        obtain ⟨hpos, hfit⟩ := hc
        cases hps : pcells ((cs.drop off).take (len * st)) with
        | none => simp [hps] at ho
        | some ps =>
          simp [hps] at ho; subst ho
          simp only [place] at hp
          cases hp
          refine ⟨rfl, .pv _ _ ?_⟩
          cases hr with | bsl _ _ _ _ cap cs' g hH' hG hcap =>
          have e1 : cs' = cs := by rw [hH] at hH'; cases hH'; rfl
          subst e1
          obtain ⟨arr, T, hg, hsz, hrel, hone⟩ := J.box k cs' g hH hG
          have hR : RelL D ((cs'.drop off).take (len * st)) ((arr.toList.drop off).take (len * st)) := by
            refine ⟨by simp; omega, fun j c u hj hu => ?_⟩
            rw [List.getElem?_take] at hj hu
            split at hj
            · rename_i hlt
              rw [if_pos hlt] at hu
              rw [List.getElem?_drop] at hj hu
              exact hrel _ c u hj (by simpa using hu)
            · cases hj
          obtain ⟨hl1, hr1⟩ := pcells_rel hps hR
          have hpl : ps.length = len * st := by rw [← hl1]; simp; omega
          have hrow := chunks_row (w := (back C D hs gs).w) (S := (back C D hs gs).S) st len ps _ hpl hl1 (fun j p u h1 h2 => back_rel (hr1 j p u h1 h2))
          have hcells : ∀ (q : Nat) (v : Value), ((arr.toList.drop off).take (len * st))[q]? = some v → (back C D hs gs).w.cell? ⟨g.blk, off + q, none⟩ = some v := by
            intro q v hq
            rw [show (back C D hs gs).w = D.w from rfl, cell_of_row _ _ _ _ _ _ hg]
            rw [List.getElem?_take] at hq
            split at hq
            · rw [List.getElem?_drop] at hq; simpa using hq
            · cases hq
          have := hrow.rel_at g.blk off cap (by rw [chunks_length]; exact hcap) (fun q v hq => ⟨hcells q v hq, .inr ⟨_, k, cs', g, hH, hG, rfl⟩⟩)
          rw [chunks_length] at this
          exact this
      · cases ho
    · cases ho
  · cases ho

/-- The one that holds a token. -/
theorem out_own {C D : Cf} (I : Inv C) {k v s : Nat} {es : List (List PV)} {p p' : SV} {u : Value} {fr : Bool} {H' : List Blk} (hr : RelS D (.own k v s es) u) (ho : outP D.H (.own k v s es) = some p)
    (hp : place fr C.H p = some (p', H')) : ∃ hs gs, H' = C.H ++ hs ∧ Laid D hs gs ∧ RelS (back C D hs gs) p' u := by
  cases hr with | own _ _ _ _ vc e g _ hH hG hv h hcur =>
  simp only [outP, hH] at ho
  split at ho
  · rename_i hvc
    cases ho
    simp only [place] at hp
    split at hp
    · cases hp
      obtain ⟨e1, e2, e3⟩ := hcur hvc
      refine ⟨[.tok 0 e], [g], rfl, ⟨rfl, ?_, ?_⟩, ?_⟩
      · intro i g' hi
        cases i with
        | zero => simp at hi; subst hi; exact ⟨k, vc, e, hH, hG, rfl⟩
        | succ i => simp at hi
      · intro i j g1 g2 hij h1 h2
        cases i <;> cases j <;> simp at h1 h2
        exact absurd rfl hij
      · refine .own C.H.length 0 s es 0 e g u (by simp [back]) (by simp [back, I.len]) (Nat.le_refl _) (back_rel h) (fun _ => ⟨e1, e2, e3⟩)
    · cases hp
      exact ⟨[], [], by simp, Laid.nil D, .pv _ _ (back_rel h)⟩
  · cases ho
    simp only [place] at hp
    cases hp
    exact ⟨[], [], by simp, Laid.nil D, .pv _ _ (back_rel h)⟩

theorem out_list {C D : Cf} (I : Inv C) (J : Inv D) {fr : Bool} : ∀ {cs ps ps' : List SV} {us : List Value} {H' : List Blk}, RelL D cs us → outL D.H cs = some ps → placeL fr C.H ps = some (ps', H') →
    (cs.filter isOwn).length ≤ 1 → ∃ hs gs, H' = C.H ++ hs ∧ Laid D hs gs ∧ RelL (back C D hs gs) ps' us := by
  -- without a token
  have none_ : ∀ {cs ps ps' : List SV} {us : List Value} {H H' : List Blk}, RelL D cs us → outL D.H cs = some ps → placeL fr H ps = some (ps', H') → (cs.filter isOwn).length = 0 →
      H' = H ∧ ∀ hs gs, RelL (back C D hs gs) ps' us := by
    intro cs
    induction cs with
    | nil =>
      intro ps ps' us H H' hr ho hp _
      simp [outL] at ho; subst ho
      simp [placeL] at hp
      obtain ⟨rfl, rfl⟩ := hp
      have : us = [] := by simpa using hr.1
      subst this
      exact ⟨rfl, fun _ _ => RelL.nil _⟩
    | cons c r ih =>
      intro ps ps' us H H' hr ho hp hn
      obtain ⟨u, us', rfl, h1, h2⟩ := hr.uncons
      have hc : isOwn c = false := by
        cases hcc : isOwn c with
        | true => simp [hcc] at hn
        | false => rfl
      have hn' : (r.filter isOwn).length = 0 := by simpa [hc] using hn
      simp only [outL] at ho
      split at ho
      · rename_i p hpp
        split at ho
        · rename_i ps1 hps1
          cases ho
          simp only [placeL] at hp
          split at hp
          · rename_i c' H1 hpl
            split at hp
            · rename_i r' H2 hpr
              cases hp
              have hx := fun hs gs => out_plain (C := C) J h1 hpp hpl hc hs gs
              have e1 : H1 = H := (hx [] []).1
              subst e1
              obtain ⟨e2, h3⟩ := ih h2 hps1 hpr hn'
              exact ⟨e2, fun hs gs => RelL.cons (hx hs gs).2 (h3 hs gs)⟩
            · cases hp
          · cases hp
        · cases ho
      · cases ho
  intro cs
  induction cs with
  | nil =>
    intro ps ps' us H' hr ho hp hn
    obtain ⟨e, h⟩ := none_ hr ho hp (by simp)
    exact ⟨[], [], by simp [e], Laid.nil D, h [] []⟩
  | cons c r ih =>
    intro ps ps' us H' hr ho hp hn
    obtain ⟨u, us', rfl, h1, h2⟩ := hr.uncons
    simp only [outL] at ho
    split at ho
    · rename_i p hpp
      split at ho
      · rename_i ps1 hps1
        cases ho
        simp only [placeL] at hp
        split at hp
        · rename_i c' H1 hpl
          split at hp
          · rename_i r' H2 hpr
            cases hp
            cases hc : isOwn c with
            | false =>
              have hx := fun hs gs => out_plain (C := C) J h1 hpp hpl hc hs gs
              have e1 : H1 = C.H := (hx [] []).1
              subst e1
              obtain ⟨hs, gs, e2, L, h3⟩ := ih h2 hps1 hpr (by simpa [hc] using hn)
              exact ⟨hs, gs, e2, L, RelL.cons (hx hs gs).2 h3⟩
            | true =>
              have hn0 : (r.filter isOwn).length = 0 := by simpa [hc] using hn
              cases c <;> simp [isOwn] at hc
              obtain ⟨hs, gs, e1, L, h3⟩ := out_own I h1 hpp hpl
              obtain ⟨e2, h4⟩ := none_ h2 hps1 hpr hn0
              exact ⟨hs, gs, e2.trans e1, L, RelL.cons h3 (h4 hs gs)⟩
          · cases hp
        · cases hp
      · cases ho
    · cases ho

theorem out_rel {C D : Cf} (I : Inv C) (J : Inv D) {fr : Bool} {r1 r r' : SV} {v : Value} {H' : List Blk} (hr : RelS D r1 v) (ho : outR D.H r1 = some r) (hp : placeR fr C.H r = some (r', H')) :
    ∃ hs gs, H' = C.H ++ hs ∧ Laid D hs gs ∧ RelS (back C D hs gs) r' v := by
  unfold outR at ho
  split at ho
  · rename_i l
    split at ho
    · rename_i hn
      cases hl : outL D.H l with
      | none => simp [hl] at ho
      | some ps =>
        simp [hl] at ho; subst ho
        simp only [placeR] at hp
        split at hp
        · rename_i ps' H1 hpl
          cases hp
          cases hr with | tuple _ us hlen hrr =>
          obtain ⟨hs, gs, e, L, h⟩ := out_list I J ⟨hlen, hrr⟩ hl hpl hn
          exact ⟨hs, gs, e, L, .tuple _ us h.1 h.2⟩
        · cases hp
    · cases ho
  · rename_i hnt
    have hp' : place fr C.H r = some (r', H') := by
      unfold placeR at hp
      split at hp
      · rename_i l
        unfold outP at ho
        split at ho <;> first
          | (cases ho; done)
          | (split at ho <;> (first | (cases ho; done) | (split at ho <;> cases ho)))
          | (rename_i cs; cases hc : pcells cs <;> simp [hc] at ho)
          | (split at ho
             · split at ho
               · generalize pcells _ = q at ho; cases q <;> simp at ho
               · cases ho
             · cases ho)
      · exact hp
    cases hc : isOwn r1 with
    | false =>
      have hx := out_plain (C := C) J hr ho hp' hc [] []
      exact ⟨[], [], by simp [hx.1], Laid.nil D, hx.2⟩
    | true =>
      cases r1 <;> simp [isOwn] at hc
      exact out_own I hr ho hp'

section
variable {P : Program} {Y : TypeId → Option Ty} (E : Env P Y) {W0 : World} {T : FuncId → Option Spec} (hT : TOk P W0 T)
include E hT

theorem meets_pure (hm : P.follows .mixedOrders = true) {f : FuncId} {fn : Func} {c : Code} (hf : P.funcs[f]? = some fn) (hb : fn.body = some c) (hc : codeOk T c = true)
    {fr : Bool} {F : List SV → Option SV} (hF : ∀ args r, F args = some r → ∃ fuel r1 H1, arun Y T fn fuel args [] = some (r1, H1) ∧ outR H1 r1 = some r) : Meets P W0 f (specFn (.pure fr F)) := by
  intro C args vs r' H' h I J hr
  simp only [specFn] at h
  split at h
  · rename_i as has
    split at h
    · rename_i r hFr
      obtain ⟨fuel, r1, H1, ha, ho⟩ := hF as r hFr
      have hs := arun_sound E hT hm hf hb hc (fuel := fuel) C.bare as vs r1 H1 ha I.bare ⟨J.size, J.heap, J.S, fun k g h => by simp [Cf.bare] at h⟩ (purL_rel has hr)
      refine hs.mono ?_
      rintro e w' ⟨v, D, rfl, rfl, hg⟩
      rw [← hg.H] at ho
      obtain ⟨hs, gs, e, L, hrel⟩ := out_rel I hg.inv hg.rel ho h
      have hgn : ∀ g ∈ gs, C.w.heap.size ≤ g.blk := by
        intro g hgm
        obtain ⟨i, hi⟩ := List.getElem?_of_mem hgm
        obtain ⟨k, v, e, _, h2, _⟩ := L.tok i g hi
        exact tok_new hg.evo h2
      exact ⟨v, back C D hs gs, rfl, rfl, e.symm, back_inv I hg.inv hg.evo L, back_evo I hg.evo hs gs hgn, hrel⟩
    · cases h
  · cases h
end

end Go.Pm
