/- A region whose order is drawn: the interpreter comes to one end, whatever the order. No program in sight. -/
import Derived.Test.YtkckpmcpmngiiaaGreatDoorPmCore
set_option linter.unusedSimpArgs false
set_option linter.unusedVariables false
set_option linter.unusedSectionVars false
namespace Go.Pm

section
variable {Y : TypeId → Option Ty} {T : FuncId → Option Spec}

theorem avals_congr {ρ ρ' : Operand → Option SV} : ∀ {l : List Operand}, (∀ x ∈ l, ρ x = ρ' x) → avals ρ l = avals ρ' l
  | [], _ => rfl
  | x :: r, h => by
    simp only [avals]
    rw [h x (by simp), avals_congr (l := r) fun y hy => h y (by simp [hy])]

theorem layAll_congr {ρ ρ' : Operand → Option SV} (pl : Nat → Option (Nat × Nat)) : ∀ (ps : List (Nat × Operand)) (cs : List SV), (∀ p ∈ ps, ρ p.2 = ρ' p.2) → layAll pl ρ cs ps = layAll pl ρ' cs ps
  | [], _, _ => rfl
  | (i, o) :: r, cs, h => by
    simp only [layAll]
    rw [h (i, o) (by simp)]
    cases pl i with
    | none => rfl
    | some q =>
      obtain ⟨off, size⟩ := q
      cases ρ' o with
      | none => rfl
      | some x =>
        simp only []
        cases lay cs off size x with
        | none => rfl
        | some cs' => exact layAll_congr pl r cs' fun p hp => h p (by simp [hp])

theorem aBuild_congr {ρ ρ' : Operand → Option SV} (t : TypeId) (ps : List (Nat × Operand)) (h : ∀ p ∈ ps, ρ p.2 = ρ' p.2) : aBuild Y t ρ ps = aBuild Y t ρ' ps := by
  unfold aBuild
  split
  · rw [layAll_congr _ ps _ h]
  · split
    · rw [layAll_congr _ ps _ h]
    · rfl
  · rfl

theorem aBuildSlice_congr {ρ ρ' : Operand → Option SV} (t : TypeId) (n : Nat) (ps : List (Nat × Operand)) (h : ∀ p ∈ ps, ρ p.2 = ρ' p.2) : aBuildSlice Y t n ρ ps = aBuildSlice Y t n ρ' ps := by
  unfold aBuildSlice
  split
  · split
    · split
      · rw [layAll_congr _ ps _ h]
      · rfl
    · rfl
  · rfl

theorem aBound_congr {ρ ρ' : Operand → Option SV} (d : Nat) (o : Option Operand) (h : ∀ x, o = some x → ρ x = ρ' x) : aBound d ρ o = aBound d ρ' o := by
  cases o with
  | none => rfl
  | some x => simp only [aBound, h x rfl]

theorem aSlice_congr {ρ ρ' : Operand → Option SV} (t : TypeId) (x : SV) (lo hi mx : Option Operand) (h1 : ∀ x, lo = some x → ρ x = ρ' x) (h2 : ∀ x, hi = some x → ρ x = ρ' x) (h3 : ∀ x, mx = some x → ρ x = ρ' x) : aSlice Y t x ρ lo hi mx = aSlice Y t x ρ' lo hi mx := by
  unfold aSlice aSlice3
  simp only [aBound_congr _ lo h1, aBound_congr _ hi h2, aBound_congr _ mx h3]

theorem aop_congr {ρ ρ' : Operand → Option SV} {op : Op} {H : List Blk} (h : ∀ x ∈ op.operands, ρ x = ρ' x) : aop Y T H ρ op = aop Y T H ρ' op := by
  cases op <;> simp only [Op.operands] at h <;> simp only [aop]
  case build t ps => rw [aBuild_congr t ps.toList fun p hp => h p.2 (by simp; exact ⟨p.1, by simpa using hp⟩)]
  case buildSlice t n ps => rw [aBuildSlice_congr t n ps.toList fun p hp => h p.2 (by simp; exact ⟨p.1, by simpa using hp⟩)]
  case makeFunc fn first captured =>
    unfold aMakeFunc
    rw [avals_congr (l := captured.toList) fun x hx => h x (by simp at hx; simp [hx])]
  case call c =>
    unfold aCallOp
    rw [avals_congr (l := c.args.toList) fun x hx => h x (by simp at hx; simp [Call.operands, hx])]
    cases hc : c.callee with
    | value f =>
      have := h f (by simp [Call.operands, hc])
      cases avals ρ' c.args.toList with
      | none => rfl
      | some vs => simp only [this]
    | invoke r m => cases avals ρ' c.args.toList <;> rfl
    | builtin b => cases avals ρ' c.args.toList <;> rfl
  case slice t x lo hi mx =>
    have hx : ρ x = ρ' x := h x (by simp)
    rw [hx]
    cases ρ' x with
    | none => rfl
    | some u =>
      simp only []
      rw [aSlice_congr t u lo hi mx (fun y hy => h y (by subst hy; simp)) (fun y hy => h y (by subst hy; simp)) (fun y hy => h y (by subst hy; simp))]
  all_goals (first | rfl | (simp_all; done))

def SameBox (H H1 : List Blk) : Prop := ∀ (k : Nat) (t : Option TypeId) (cs : List SV), H[k]? = some (.box t cs) ↔ H1[k]? = some (.box t cs)
theorem SameBox.refl (H : List Blk) : SameBox H H := fun _ _ _ => Iff.rfl
theorem SameBox.symm {H H1 : List Blk} (h : SameBox H H1) : SameBox H1 H := fun k t cs => (h k t cs).symm
theorem SameBox.trans {H H1 H2 : List Blk} (h : SameBox H H1) (h' : SameBox H1 H2) : SameBox H H2 := fun k t cs => (h k t cs).trans (h' k t cs)

theorem SameBox.push (H : List Blk) (v : Nat) (e : TypeId) : SameBox H (H ++ [.tok v e]) := by
  intro k _ cs
  rcases Nat.lt_trichotomy k H.length with h | h | h
  · rw [List.getElem?_append_left h]
  · subst h; simp
  · rw [List.getElem?_eq_none (by omega), List.getElem?_eq_none (by simp; omega)]

theorem SameBox.set {H : List Blk} {k0 v0 v : Nat} {e0 e : TypeId} (h0 : H[k0]? = some (.tok v0 e0)) : SameBox H (H.set k0 (.tok v e)) := by
  intro k _ cs
  rw [List.getElem?_set]
  split
  · rename_i hk; subst hk
    rw [h0]; split <;> simp
  · exact Iff.rfl

/-- What was a box still is. -/
def ExtBox (H H1 : List Blk) : Prop := ∀ (k : Nat) (t : Option TypeId) (cs : List SV), H[k]? = some (.box t cs) → H1[k]? = some (.box t cs)
theorem SameBox.ext {H H1 : List Blk} (h : SameBox H H1) : ExtBox H H1 := fun k t cs => (h k t cs).1

theorem place_same {fr : Bool} {H H' : List Blk} {r v : SV} (h : place fr H r = some (v, H')) : SameBox H H' ∧ (fr = false → H' = H ∧ ∀ H1, place fr H1 r = some (v, H1)) := by
  unfold place at h ⊢
  split at h
  · cases h; exact ⟨.refl _, fun _ => ⟨rfl, fun _ => rfl⟩⟩
  · cases h; exact ⟨.refl _, fun _ => ⟨rfl, fun _ => rfl⟩⟩
  · rename_i cs
    cases hp : pcells cs with
    | none => simp [hp] at h
    | some ps => simp [hp] at h; obtain ⟨rfl, rfl⟩ := h; exact ⟨.refl _, fun _ => ⟨rfl, fun _ => by simp [hp]⟩⟩
  · split at h
    · cases h; rename_i hf; exact ⟨SameBox.push _ _ _, fun e => by rw [e] at hf; cases hf⟩
    · cases h; rename_i hf; exact ⟨.refl _, fun _ => ⟨rfl, fun _ => by simp [hf]⟩⟩
  · cases h

theorem placeL_same {fr : Bool} : ∀ {l : List SV} {H H' : List Blk} {vs : List SV}, placeL fr H l = some (vs, H') → SameBox H H' ∧ (fr = false → H' = H ∧ ∀ H1, placeL fr H1 l = some (vs, H1))
  | [], H, H', vs, h => by simp [placeL] at h; obtain ⟨rfl, rfl⟩ := h; exact ⟨.refl _, fun _ => ⟨rfl, fun _ => rfl⟩⟩
  | c :: r, H, H', vs, h => by
    simp only [placeL] at h
    split at h
    · rename_i c' H1 hc
      split at h
      · rename_i r' H2 hr
        cases h
        obtain ⟨a1, a2⟩ := place_same hc
        obtain ⟨b1, b2⟩ := placeL_same hr
        refine ⟨a1.trans b1, fun e => ?_⟩
        obtain ⟨e1, a3⟩ := a2 e
        obtain ⟨e2, b3⟩ := b2 e
        exact ⟨e2.trans e1, fun H3 => by simp [placeL, a3, b3]⟩
      · cases h
    · cases h

theorem placeR_same {fr : Bool} {H H' : List Blk} {r v : SV} (h : placeR fr H r = some (v, H')) : SameBox H H' ∧ (fr = false → H' = H ∧ ∀ H1, placeR fr H1 r = some (v, H1)) := by
  unfold placeR at h ⊢
  split at h
  · rename_i l
    split at h
    · rename_i l' H2 hl
      cases h
      obtain ⟨a1, a2⟩ := placeL_same hl
      exact ⟨a1, fun e => ⟨(a2 e).1, fun H1 => by simp [(a2 e).2]⟩⟩
    · cases h
  · rename_i hne
    obtain ⟨a1, a2⟩ := place_same h
    refine ⟨a1, fun e => ⟨(a2 e).1, fun H1 => ?_⟩⟩
    exact (a2 e).2 H1

theorem aLoad_same {H H1 : List Blk} (hb : ExtBox H H1) {t : TypeId} {a v : SV} (h : aLoad Y H t a = some v) : aLoad Y H1 t a = some v := by
  unfold aLoad at h ⊢
  split at h
  · cases h
  · split at h
    · rename_i k off
      split at h
      · rename_i cs hk
        rw [hb k _ cs hk]; exact h
      · cases h
    · exact h
    · exact h
    · cases h

theorem spec_same {g : FuncId} {fr : Bool} {F : Option SV} {as : List SV} {H H' : List Blk} {v : SV} (h : specFn (.pure fr fun _ => F) as H = some (v, H')) : True := trivial

theorem specPure_same {fr : Bool} {F : List SV → Option SV} {as : List SV} {H H' : List Blk} {v : SV} (h : specFn (.pure fr F) as H = some (v, H')) :
    SameBox H H' ∧ (fr = false → H' = H ∧ ∀ H1, specFn (.pure fr F) as H1 = some (v, H1)) := by
  simp only [specFn] at h ⊢
  split at h
  · rename_i as' ha
    split at h
    · rename_i r hr
      obtain ⟨a1, a2⟩ := placeR_same h
      exact ⟨a1, fun e => ⟨(a2 e).1, fun H1 => by simp [hr, (a2 e).2]⟩⟩
    · cases h
  · cases h

theorem aAppend_same {H H' : List Blk} {t t2 : TypeId} {x s v : SV} (h : aAppend Y H t t2 x s = some (v, H')) : SameBox H H' := by
  unfold aAppend at h
  split at h
  · cases h
  · split at h
    · split at h
      · cases h
      · split at h
        · cases h; exact .refl _
        · split at h
          · split at h
            · cases h; exact SameBox.push _ _ _
            · cases h; exact SameBox.push _ _ _
            · split at h
              · rename_i hk
                split at h
                · cases h; exact SameBox.set hk
                · cases h
              · cases h
            · cases h
          · cases h
    · cases h

theorem aAppendX_same {H H' : List Blk} {t t2 : TypeId} {x s v : SV} (h : aAppendX Y H t t2 x s = some (v, H')) : SameBox H H' := by
  unfold aAppendX at h
  split at h
  · exact aAppend_same h
  · exact aAppend_same h
theorem aConvX_ext {H H1 : List Blk} {s d : TypeId} {x v : SV} (hb : bslOk T = true → ExtBox H H1) (h : aConvX Y T H s d x = some v) : aConvX Y T H1 s d x = some v := by
  unfold aConvX at h ⊢
  cases hn : aConv Y s d x with
  | some r => rw [hn] at h; exact h
  | none =>
    rw [hn] at h
    simp only [] at h ⊢
    unfold aConvY at h ⊢
    split at h
    · exact h
    · split at h
      · rename_i hc
        rw [if_pos hc]
        simp only [Bool.and_eq_true] at hc
        split at h
        · rename_i k off len st
          split at h
          · rename_i t cs hk
            rw [hb hc.2 k t cs hk]
            exact h
          · cases h
        · cases h
      · cases h
    · cases h
theorem resCs_mono {f g : SV → Option SV} (h : ∀ s r, f s = some r → g s = some r) : ∀ {l rs : List SV}, resCs f l = some rs → resCs g l = some rs
  | [], rs, e => e
  | c :: r, rs, e => by
    simp only [resCs] at e ⊢
    split at e
    · rename_i p hp
      split at e
      · rename_i ps hps
        rw [h _ _ hp, resCs_mono h hps]; exact e
      · cases e
    · cases e
theorem resC_ext {H H1 : List Blk} (hb : ExtBox H H1) : ∀ (n : Nat) (s r : SV), resC H n s = some r → resC H1 n s = some r
  | 0, s, r, e => by cases s <;> simp [resC] at e ⊢ <;> exact e
  | n + 1, s, r, e => by
    have ih := resC_ext hb n
    have key : ∀ (cs : List SV) (k : List SV → SV) (x : SV), (resCs (resC H n) cs).map k = some x → (resCs (resC H1 n) cs).map k = some x := fun cs k x hx => by
      cases hc : resCs (resC H n) cs with
      | none => simp [hc] at hx
      | some ps => rw [hc] at hx; rw [resCs_mono ih hc]; exact hx
    cases s <;> simp only [resC] at e ⊢ <;> try (first | exact e | (cases e; done))
    case ptr k off =>
      split at e
      · rename_i h0
        rw [if_pos h0]
        split at e
        · rename_i cs hk
          rw [hb k _ cs hk]; exact key _ _ _ e
        · cases e
      · cases e
    case agg cs => exact key _ _ _ e
    case clo g cs => exact key _ _ _ e
theorem specRead_same {F : List SV → Option PV} {as : List SV} {H H' : List Blk} {v : SV} (h : specFn (.read F) as H = some (v, H')) :
    H' = H ∧ ∀ H1, ExtBox H H1 → specFn (.read F) as H1 = some (v, H1) := by
  simp only [specFn] at h ⊢
  split at h
  · rename_i rs hr
    split at h
    · rename_i p hp
      cases h
      refine ⟨rfl, fun H1 hb => ?_⟩
      rw [resCs_mono (resC_ext hb 4) hr]
      simp only [hp]
    · cases h
  · cases h
theorem aCallD_tame {g : FuncId} {as : List SV} {H H' : List Blk} {v : SV} (ht : tame T = true) (h : aCallD T H g as = some (v, H')) :
    H' = H ∧ ∀ H1, ExtBox H H1 → aCallD T H1 g as = some (v, H1) := by
  unfold aCallD at h ⊢
  rw [ht] at h ⊢
  simp only [] at h ⊢
  split at h
  · exact specRead_same h
  · obtain ⟨_, a2⟩ := specPure_same h
    exact ⟨(a2 rfl).1, fun H1 _ => (a2 rfl).2 H1⟩
  · cases h
/-- What an operation does to the heap. -/
theorem aop_heap {ρ : Operand → Option SV} (hf : ∀ g, ρ (.func g) = some (.pv (.fn g))) {op : Op} {H H' : List Blk} {v : SV} (h : aop Y T H ρ op = some (v, H')) :
    (boxOp T op = false → SameBox H H') ∧ (effOp T op = false → H' = H ∧ ∀ H1, (lookOp T op = true → ExtBox H H1) → aop Y T H1 ρ op = some (v, H1)) := by
  have val : ∀ {o : Option SV}, o.map (·, H) = some (v, H') → H' = H ∧ ∀ H1 : List Blk, o.map (·, H1) = some (v, H1) := by
    intro o ho
    cases o with
    | none => simp at ho
    | some u => simp at ho; obtain ⟨rfl, rfl⟩ := ho; exact ⟨rfl, fun H1 => rfl⟩
  have fin : ∀ {p : Prop}, H' = H ∧ p → SameBox H H' := fun hp => by rw [hp.1]; exact .refl _
  cases op <;> simp only [aop] at h ⊢ <;> try (cases h; done)
  case call c =>
    unfold aCallOp at h ⊢
    have dyn : ∀ {vs : List SV} (o : Option SV), (match o with
        | some u => aCallee T H u vs
        | none => none) = some (v, H') → tame T = true → H' = H ∧ ∀ H1, ExtBox H H1 → (match o with
        | some u => aCallee T H1 u vs
        | none => none) = some (v, H1) := fun {vs} o ho ht => by
      cases o with
      | none => cases ho
      | some u =>
        simp only [] at ho ⊢
        unfold aCallee at ho ⊢
        split at ho
        · exact aCallD_tame ht ho
        · exact aCallD_tame ht ho
        · cases ho
    split at h
    · rename_i b vs hc hv
      unfold aBuiltin at h ⊢
      split at h
      · rename_i t x hts
        have := val (o := (aLen Y t x).map fun n => SV.i n) (by simpa [Function.comp_def] using h)
        refine ⟨fun _ => fin this, fun _ => ⟨this.1, fun H1 _ => ?_⟩⟩
        have := this.2 H1
        simpa [Function.comp_def] using this
      · rename_i t t2 x s hts
        exact ⟨fun _ => aAppendX_same h, fun e => by simp [effOp, hc] at e⟩
      · rename_i l
        have := val h
        exact ⟨fun _ => fin this, fun _ => ⟨this.1, fun H1 _ => this.2 H1⟩⟩
      · rename_i l
        have := val h
        exact ⟨fun _ => fin this, fun _ => ⟨this.1, fun H1 _ => this.2 H1⟩⟩
      · exact ⟨fun e => by simp [boxOp, hc] at e, fun e => by simp [effOp, hc] at e⟩
      · exact ⟨fun e => by simp [boxOp, hc] at e, fun e => by simp [effOp, hc] at e⟩
      · cases h
    · rename_i f vs hc hv
      cases f with
      | func g =>
        rw [hf g] at h
        cases hT : T g with
        | none =>
          refine ⟨fun e => ?_, fun e => ?_⟩
          · simp [boxOp, hc, hT] at e
          · simp [effOp, hc, hT] at e
        | some S =>
          cases S with
          | heap F =>
            refine ⟨fun e => ?_, fun e => ?_⟩
            · simp [boxOp, hc, hT] at e
            · simp [effOp, hc, hT] at e
          | read F =>
            have h1 := aCallD_sub (show aCallD T H g vs = some (v, H') from h)
            simp only [aCall, hT] at h1
            obtain ⟨a1, a2⟩ := specRead_same h1
            refine ⟨fun _ => by rw [a1]; exact .refl _, fun _ => ⟨a1, fun H1 hb => ?_⟩⟩
            rw [hf g]
            have hx := a2 H1 (hb (by simp [lookOp, hc, *]))
            show aCallD T H1 g vs = _
            unfold aCallD
            cases htm : tame T with
            | false => simp only [aCall, hT]; exact hx
            | true => simp only [hT]; exact hx
          | pure fr F =>
            have h1 := aCallD_sub (show aCallD T H g vs = some (v, H') from h)
            simp only [aCall, hT] at h1
            obtain ⟨a1, a2⟩ := specPure_same h1
            refine ⟨fun _ => a1, fun e => ?_⟩
            have e : fr = false := by simpa [effOp, hc, hT] using e
            refine ⟨(a2 e).1, fun H1 _ => ?_⟩
            rw [hf g]
            have hx := (a2 e).2 H1
            show aCallD T H1 g vs = _
            unfold aCallD
            cases htm : tame T with
            | false => simp only [aCall, hT]; exact hx
            | true => subst e; simp only [hT]; exact hx
      | _ =>
        refine ⟨fun e => ?_, fun e => ?_⟩
        · have ht : tame T = true := by simpa [boxOp, hc] using e
          rw [(dyn _ h ht).1]; exact .refl _
        · have ht : tame T = true := by simpa [effOp, hc] using e
          have hx := dyn _ h ht
          exact ⟨hx.1, fun H1 hb => hx.2 H1 (hb (by simp [lookOp, hc, *]))⟩
    · cases h
  case alloc t => exact ⟨fun e => by simp [boxOp] at e, fun e => by simp [effOp] at e⟩
  case box t x => exact ⟨fun e => by simp [boxOp] at e, fun e => by simp [effOp] at e⟩
  case store t a x => exact ⟨fun e => by simp [boxOp] at e, fun e => by simp [effOp] at e⟩
  case makeSlice t a b => exact ⟨fun e => by simp [boxOp] at e, fun e => by simp [effOp] at e⟩
  case load t a =>
    split at h
    · rename_i u hu
      have := val h
      refine ⟨fun _ => fin this, fun _ => ⟨this.1, fun H1 hb => ?_⟩⟩
      cases hl : aLoad Y H t u with
      | none => simp [hl] at h
      | some r =>
        simp only [aLoad_same (hb rfl) hl]
        rw [hl] at this
        exact this.2 H1
    · cases h
  case convert s d x =>
    split at h
    · rename_i u hu
      have := val h
      refine ⟨fun _ => fin this, fun _ => ⟨this.1, fun H1 hb => ?_⟩⟩
      cases hl : aConvX Y T H s d u with
      | none => simp [hl] at h
      | some r =>
        simp only [aConvX_ext (T := T) hb hl]
        rw [hl] at this
        exact this.2 H1
    · cases h
  case nilCheck x =>
    split at h <;> first | (cases h; done) | (cases h; rename_i hx; exact ⟨fun _ => .refl _, fun _ => ⟨rfl, fun H1 _ => rfl⟩⟩)
  case makeInterface t x =>
    split at h
    · rename_i u k hu hk
      split at h
      · cases h
      · rename_i hki
        have : H' = H := by cases hp : pcell u with
          | none => simp [hp] at h
          | some p => simp [hp] at h; exact h.2.symm
        refine ⟨fun _ => by rw [this]; exact .refl _, fun _ => ⟨this, fun H1 _ => ?_⟩⟩
        cases hp : pcell u with
        | none => simp [hp] at h
        | some p => simp [hp] at h; simp [h.1]
    · cases h
  case pick c a b =>
    split at h
    · rename_i t hc
      cases t
      · have := val h; exact ⟨fun _ => fin this, fun _ => ⟨this.1, fun H1 _ => this.2 H1⟩⟩
      · have := val h; exact ⟨fun _ => fin this, fun _ => ⟨this.1, fun H1 _ => this.2 H1⟩⟩
    · cases h
  all_goals
    first
      | (have := val h; exact ⟨fun _ => fin this, fun _ => ⟨this.1, fun H1 _ => this.2 H1⟩⟩)
      | (split at h
         · have := val h
           exact ⟨fun _ => fin this, fun _ => ⟨this.1, fun H1 _ => this.2 H1⟩⟩
         · cases h)

theorem newCells_congr {ρ ρ' : Operand → Option SV} {op : Op} (h : ∀ x ∈ op.operands, ρ x = ρ' x) : newCells Y ρ op = newCells Y ρ' op := by
  cases op <;> simp only [Op.operands] at h <;> simp only [newCells]
  case box t x => rw [h x (by simp)]

theorem memOk_congr {base : Nat} {ρ ρ' : Operand → Option SV} {op : Op} (h : ∀ x ∈ op.operands, ρ x = ρ' x) : memOk base ρ op = memOk base ρ' op := by
  cases op <;> simp only [Op.operands] at h <;> simp only [memOk]
  case load t a => rw [h a (by simp)]
  case store t a x => rw [h a (by simp)]

theorem addr_congr {ρ ρ' : Operand → Option SV} {op : Op} (h : ∀ y ∈ op.operands, ρ y = ρ' y) : (addrOf op).bind ρ = (addrOf op).bind ρ' := by
  cases op <;> simp only [Op.operands] at h <;> simp only [addrOf] <;> first | rfl | (simp only [Option.bind_some]; exact h _ (by simp))

theorem watchC_congr {st : Bool} {w n : Nat} {H : List Blk} {ρ ρ' : Operand → Option SV} {op : Op} {x : Option (SV × List Blk)} (h : ∀ y ∈ op.operands, ρ y = ρ' y) : watchC st w n H ρ op x = watchC st w n H ρ' op x := by
  unfold watchC; rw [addr_congr h]

theorem aopP_congr {pl : PL} {d : Option Tmp} {ρ ρ' : Operand → Option SV} {op : Op} {H : List Blk} (h : ∀ x ∈ op.operands, ρ x = ρ' x) : aopP Y T pl d H ρ op = aopP Y T pl d H ρ' op := by
  unfold aopP
  rw [aop_congr h, newCells_congr h]
  cases pl.wm with
  | some q => exact watchC_congr h
  | none =>
    simp only []
    cases pl none with
    | none => rfl
    | some b => simp only [memC, memOk_congr h]

/-- An old operation is as without places, or refused, whatever the heap. -/
theorem aopP_old {pl : PL} (hw : pl.wm = none) {d : Option Tmp} {ρ : Operand → Option SV} {op : Op} (h : isNew op = false) : (∀ H, aopP Y T pl d H ρ op = aop Y T H ρ op) ∨ (∀ H, aopP Y T pl d H ρ op = none) := by
  unfold aopP
  rw [hw, h]
  simp only [cond_false]
  cases hm : isLoad op || isStore op with
  | false => exact .inl fun _ => rfl
  | true =>
    cases hp : pl none with
    | none => exact .inl fun _ => rfl
    | some b =>
      simp only [memC, cond_true]
      cases memOk b ρ op with
      | true => exact .inl fun _ => rfl
      | false => exact .inr fun _ => rfl

theorem aopP_none {pl : PL} {d : Option Tmp} {ρ : Operand → Option SV} {op : Op} {H : List Blk} (hw : pl.wm = none) (h : pl d = none) (h' : pl none = none) : aopP Y T pl d H ρ op = aop Y T H ρ op := by
  unfold aopP; rw [hw, h, h']; cases isNew op <;> cases (isLoad op || isStore op) <;> rfl

/-- Where a box is watched, an operation is as it is, or refused. -/
theorem watchC_sub {st : Bool} {w n : Nat} {H : List Blk} {ρ : Operand → Option SV} {op : Op} {x : Option (SV × List Blk)} {r : SV × List Blk} (h : watchC st w n H ρ op x = some r) : x = some r := by
  have fm : ∀ {b : Bool} {y : Option (SV × List Blk)}, ifM b y = some r → y = some r := fun {b y} e => by
    cases b with
    | true => exact e
    | false => cases e
  unfold watchC at h
  cases h1 : isLoad op with
  | true =>
    rw [h1] at h
    simp only [cond_true] at h
    unfold loadW at h
    split at h
    · exact fm h
    · exact h
  | false =>
    rw [h1] at h
    simp only [cond_false] at h
    cases h3 : (isCallV op || (isStore op && st)) with
    | false => rw [h3] at h; exact h
    | true =>
      rw [h3] at h
      simp only [cond_true] at h
      unfold frameC at h
      split at h
      · unfold ifP at h
        split at h
        · exact h
        · cases h
      · cases h

theorem aopP_watch {pl : PL} {w n : Nat} (hw : pl.wm = some (w, n)) {d : Option Tmp} {ρ : Operand → Option SV} {op : Op} {H : List Blk} : aopP Y T pl d H ρ op = watchC pl.ws w n H ρ op (aop Y T H ρ op) := by
  unfold aopP; rw [hw]

theorem aopP_heap {pl : PL} {d : Option Tmp} {ρ : Operand → Option SV} (hf : ∀ g, ρ (.func g) = some (.pv (.fn g))) {op : Op} {H H' : List Blk} {v : SV} (h : aopP Y T pl d H ρ op = some (v, H')) :
    (boxOp T op = false → SameBox H H') ∧ (effOp T op = false → H' = H ∧ ∀ H1, (lookOp T op = true → ExtBox H H1) → aopP Y T pl d H1 ρ op = some (v, H1)) := by
  cases hw : pl.wm with
  | some q =>
    obtain ⟨w, n⟩ := q
    rw [aopP_watch hw] at h
    obtain ⟨a, b⟩ := aop_heap hf (watchC_sub h)
    refine ⟨a, fun he => ⟨(b he).1, fun H1 hb => ?_⟩⟩
    rw [aopP_watch hw, (b he).2 H1 hb]
    rw [watchC_sub h] at h
    unfold watchC at h ⊢
    cases h1 : isLoad op with
    | true =>
      rw [h1] at h
      simp only [cond_true] at h ⊢
      unfold loadW at h ⊢
      split at h
      · rename_i k off hk
        cases hm : (decide (k ≠ w) && decide (k < n)) with
        | true => rfl
        | false => rw [hm] at h; cases h
      · rfl
    | false =>
      simp only [cond_false]
      cases h3 : (isCallV op || (isStore op && pl.ws)) with
      | false => rfl
      | true => simp only [cond_true]; unfold frameC ifP; simp
  | none =>
    cases hn : isNew op with
    | false =>
      rcases aopP_old (Y := Y) (T := T) (pl := pl) hw (d := d) (ρ := ρ) hn with e | e
      · rw [e] at h
        obtain ⟨a, b⟩ := aop_heap hf h
        refine ⟨a, fun he => ⟨(b he).1, fun H1 hb => ?_⟩⟩
        rw [e]; exact (b he).2 H1 hb
      · rw [e] at h; cases h
    | true =>
      constructor
      · intro e; cases op <;> simp [isNew] at hn <;> simp [boxOp] at e
      · intro e; cases op <;> simp [isNew] at hn <;> simp [effOp] at e
end
end Go.Pm
