/- The interpreter's code held against the model's. -/
import Derived.Test.YtngapiffgoignaaDoorPmOp
import Derived.Test.YtngapiffgoignaaDoorPmDraw2
import Derived.Scope
import Derived.LoopN
set_option linter.unusedSimpArgs false
set_option linter.unusedVariables false
set_option linter.unusedSectionVars false
namespace Go.Pm

/-- The interpreter's state and the model's. -/
structure StRel (C : Cf) (s : St) (a : Act) : Prop where
  H : C.H = s.H
  tm : RelL C s.tm a.tmps.toList
  defers : a.defers = []

theorem put_rel {C C' : Cf} (EV : Evo C C') {tm : List SV} {a : Act} (h : RelL C tm a.tmps.toList) {dst : Option Tmp} {v : SV} {u : Value} (hv : RelS C' v u) : RelL C' (put tm dst v) (a.put dst u).tmps.toList := by
  cases dst with
  | none => exact h.evo EV
  | some d =>
    simp only [put, Act.put, Array.toList_setIfInBounds]
    exact (h.evo EV).set d hv

theorem put_defers (a : Act) (dst : Option Tmp) (u : Value) : (a.put dst u).defers = a.defers := by cases dst <;> rfl

theorem yielded_rel {C : Cf} {ops : Array Oper} {tm : List SV} {tmps : Array Value} (h : RelL C tm tmps.toList) (o : Oper) {b : Bool} (hw : aWanted ops.toList tm o = some b) : Region.wanted o (yielded ops tmps) = b := by
  unfold aWanted at hw
  unfold Region.wanted
  cases hg : o.guard with
  | none => simp [hg] at hw; simp [hw]
  | some g =>
    obtain ⟨j, want⟩ := g
    simp only [hg] at hw ⊢
    have e1 : (ops.toList[j]?).bind (·.dst) = (ops[j]?).bind (·.dst) := by simp
    rw [e1] at hw
    cases hd : (ops[j]?).bind (·.dst) with
    | none => simp [hd] at hw; subst hw; simp [yielded, hd]
    | some d =>
      simp only [hd] at hw
      have hy : yielded ops tmps j = match tmps[d]? with | some (.bool b) => some b | _ => none := by unfold yielded; rw [hd]; rfl
      rw [hy]
      cases hs : tm[d]? with
      | none =>
        simp [hs] at hw
        have hl : tmps[d]? = none := by
          have h1 : tm.length ≤ d := by
            rcases Nat.lt_or_ge d tm.length with h | h
            · rw [List.getElem?_eq_getElem h] at hs; cases hs
            · exact h
          have := h.1; simp at this
          exact Array.getElem?_eq_none (by omega)
        subst hw; simp [hl]
      | some c =>
        rw [hs] at hw
        obtain ⟨u, hu, hr⟩ := h.get hs
        have hu' : tmps[d]? = some u := by simpa using hu
        rw [hu']
        cases hr with
        | pv p v hp => cases hp <;> simp at hw <;> subst hw <;> first | rfl | (simp; done) | (cases want <;> rename_i b <;> cases b <;> rfl)
        | own k v s es vc e g val _ _ _ hp _ => cases hp; simp at hw; subst hw; simp
        | _ => simp at hw; subst hw; simp

/-- The invariant, and what stood at the start still standing. -/
def InvJ (W0 : World) (C : Cf) : Prop := Inv C ∧ J0 W0 C

section
variable {P : Program} {Y : TypeId → Option Ty} (E : Env P Y) {W0 : World} {T : FuncId → Option Spec} (hT : TOk P W0 T)
include E hT

theorem aops_sound {pl : PL} {ops : Array Oper} {Q : Exit → Act → World → Prop} : ∀ (rest : List Oper) {C : Cf} {s s' : St} {a : Act}, aops Y T pl ops.toList rest s = some s' → InvJ W0 C → StRel C s a →
    (∀ C' a', InvJ W0 C' → Evo C C' → StRel C' s' a' → Q .normal a' C'.w) → wpList P ops Q rest a C.w
  | [], C, s, s', a, h, I, R, hq => by
    simp [aops] at h; subst h
    exact hq C a I (Evo.refl C) R
  | o :: rest, C, s, s', a, h, I, R, hq => by
    simp only [aops] at h
    simp only [wpList]
    split at h
    · rename_i hw
      rw [if_pos (yielded_rel R.tm o hw)]
      split at h
      · rename_i v H' hop
        refine .inl (aopP_sound E hT I.1 I.2 (ρ := aval s.tm) (by rw [R.H]; exact hop) (aval_eval (vs := a.tmps) R.tm a rfl) ?_)
        intro u C' hg
        exact aops_sound rest h ⟨hg.inv, I.2.evo hg.evo⟩ ⟨hg.H, put_rel hg.evo R.tm hg.rel, by rw [put_defers]; exact R.defers⟩ (fun C'' a' I' EV' R' => hq C'' a' I' (hg.evo.trans EV') R')
      · cases h
    · rename_i hw
      rw [if_neg (by rw [yielded_rel R.tm o hw]; simp)]
      exact aops_sound rest h I ⟨R.H, put_rel (Evo.refl C) R.tm (undef_rel C), by rw [put_defers]; exact R.defers⟩ hq
    · cases h

theorem any_sound {pl : PL} {ops : Array Oper} {Q : Exit → Act → World → Prop} : ∀ (n : Nat) (listed : Array Bool) {C : Cf} {s s' : St} {a : Act}, anyOk Y T pl ops n listed s s' → InvJ W0 C → StRel C s a →
    (∀ C' a', InvJ W0 C' → Evo C C' → StRel C' s' a' → Q .normal a' C'.w) → wpAny P .any ops Q n listed a C.w := by
  intro n
  induction n with
  | zero =>
    intro listed C s s' a h I R hq
    obtain ⟨h1, rfl⟩ := h
    exact ⟨h1, hq C a I (Evo.refl C) R⟩
  | succ n ih =>
    intro listed C s s' a h I R hq
    obtain ⟨h1, h2⟩ := h
    refine ⟨fun e => by have := h1 e; subst this; exact hq C a I (Evo.refl C) R, fun i hi => ?_⟩
    obtain ⟨s1, h3, h4⟩ := h2 i hi
    unfold wpOp
    cases ho : ops[i]? with
    | none =>
      simp [astep, ho] at h3
      subst h3
      exact ih _ h4 I R hq
    | some o =>
      simp only [astep, ho, aops] at h3
      simp only []
      split at h3
      · rename_i hw
        rw [if_pos (yielded_rel R.tm o hw)]
        split at h3
        · rename_i v H' hop
          cases h3
          refine .inl (aopP_sound E hT I.1 I.2 (ρ := aval s.tm) (by rw [R.H]; exact hop) (aval_eval (vs := a.tmps) R.tm a rfl) ?_)
          intro u C' hg
          exact ih _ h4 ⟨hg.inv, I.2.evo hg.evo⟩ ⟨hg.H, put_rel hg.evo R.tm hg.rel, by rw [put_defers]; exact R.defers⟩ (fun C'' a' I' EV' R' => hq C'' a' I' (hg.evo.trans EV') R')
        · cases h3
      · rename_i hw
        rw [if_neg (by rw [yielded_rel R.tm o hw]; simp)]
        cases h3
        exact ih _ h4 I ⟨R.H, put_rel (Evo.refl C) R.tm (undef_rel C), by rw [put_defers]; exact R.defers⟩ hq
      · cases h3

omit E hT in
theorem drawn_evo (C : Cf) (n : Nat) : Evo C { C with w := { C.w with drawn := n } } :=
  ⟨rfl, rfl, rfl, Nat.le_refl _, fun _ _ h => h, fun _ _ _ => rfl, fun _ _ _ => rfl, fun k g h => .inr ⟨k, g, h, rfl⟩, fun _ _ h => .inl h,
    fun _ cs _ h h' => ⟨⟨cs, h, rfl⟩, h'⟩, fun _ v _ g h h' => ⟨v, g, h, Nat.le_refl _, h', fun _ => rfl⟩⟩

omit E hT in
theorem drawn_inv {C : Cf} (I : Inv C) (n : Nat) : Inv { C with w := { C.w with drawn := n } } :=
  ⟨I.len, I.inb, fun k cs g h1 h2 => by
    obtain ⟨arr, t, a1, a2, a3, a4⟩ := I.box k cs g h1 h2
    exact ⟨arr, t, a1, a2, fun j c u b1 b2 => (drawn_evo C n).rel (a3 j c u b1 b2), a4⟩, I.boxS, I.tok, I.tokS, I.boxT, I.dis⟩

omit E hT in
theorem plFrom_ge {d : Tmp} : ∀ {ds : List Tmp} {n k : Nat}, plFrom d n ds = some k → n ≤ k
  | [], n, k, h => by cases h
  | x :: r, n, k, h => by
    simp only [plFrom] at h
    cases hb : Nat.beq x d with
    | true => rw [hb] at h; cases h; exact Nat.le_refl _
    | false => rw [hb] at h; have := plFrom_ge (ds := r) h; omega

omit E hT in
theorem plFrom_inj {d d' : Tmp} : ∀ {ds : List Tmp} {n k : Nat}, plFrom d n ds = some k → plFrom d' n ds = some k → d = d'
  | [], n, k, h, _ => by cases h
  | x :: r, n, k, h, h' => by
    simp only [plFrom] at h h'
    cases hb : Nat.beq x d with
    | true =>
      rw [hb] at h; cases h
      cases hb' : Nat.beq x d' with
      | true => rw [← Nat.eq_of_beq_eq_true hb, ← Nat.eq_of_beq_eq_true hb']
      | false => rw [hb'] at h'; have := plFrom_ge (ds := r) h'; omega
    | false =>
      rw [hb] at h
      cases hb' : Nat.beq x d' with
      | true => rw [hb'] at h'; cases h'; have := plFrom_ge (ds := r) h; omega
      | false => rw [hb'] at h'; exact plFrom_inj (ds := r) h h'

omit E hT in
theorem plFrom_has {d : Tmp} : ∀ {ds : List Tmp} (n : Nat), d ∈ ds → ∃ k, plFrom d n ds = some k
  | [], n, h => by cases h
  | x :: r, n, h => by
    simp only [plFrom]
    cases hb : Nat.beq x d with
    | true => exact ⟨n, rfl⟩
    | false =>
      have hne : d ≠ x := by intro e; subst e; rw [Nat.beq_refl] at hb; cases hb
      rcases List.mem_cons.1 h with h | h
      · exact absurd h hne
      · exact plFrom_has (ds := r) (n + 1) h

omit E hT in
theorem newDsts_mem {o : Oper} {d : Tmp} (hn : isNew o.op = true) (hd : o.dst = some d) : ∀ {l : List Oper}, o ∈ l → d ∈ newDsts l
  | [], h => by cases h
  | x :: r, h => by
    rcases List.mem_cons.1 h with h | h
    · subst h; simp [newDsts, hn, hd]
    · have := newDsts_mem hn hd h
      simp only [newDsts]
      cases isNew x.op with
      | false => simpa using this
      | true => cases x.dst with
        | none => simpa using this
        | some y => simp [this]

omit E hT in
theorem hasStore_mem {o : Oper} (hs : isStore o.op = true) : ∀ {l : List Oper}, o ∈ l → hasStore l = true
  | x :: r, h => by
    simp only [hasStore, Bool.or_eq_true]
    rcases List.mem_cons.1 h with h | h
    · subst h; exact .inl hs
    · exact .inr (hasStore_mem hs h)

omit E hT in
theorem plOf_ok {ops : Array Oper} (base : Nat) : PlOk (plOf (hasStore ops.toList) base (newDsts ops.toList)) ops :=
  ⟨rfl, fun o d ho hn hd => plFrom_has base (newDsts_mem hn hd ho), fun d d' k h h' => plFrom_inj h h', fun o ho hs => ⟨base, by show plFn (hasStore ops.toList) base (newDsts ops.toList) none = _; unfold plFn; rw [hasStore_mem hs ho]; rfl⟩⟩

theorem draw_sound {pl : PL} {id : Nat} {ops : Array Oper} {Q : Exit → Act → World → Prop} (hm : P.follows .mixedOrders = true) (hpl : held ops.toList true = true → PlOk pl ops) (hwt : (!held ops.toList true && watching ops.toList true) = true → ∃ w n, pl.wm = some (w, n)) (hd : drawOk T ops.toList = true) {C : Cf} {s s' : St} {a : Act} (h : aops Y T pl ops.toList ops.toList s = some s') (I : InvJ W0 C) (R : StRel C s a)
    (hq : ∀ C' a', InvJ W0 C' → Evo C C' → StRel C' s' a' → Q .normal a' C'.w) : (Code.region id ops true).wp P Q a C.w := by
  refine wp_region_any hm ?_
  rw [aops_range] at h
  have F := facts_of (Y := Y) hpl hwt hd
  have e0 : restOf ops (Array.replicate ops.size false) = List.range ops.size := by
    unfold restOf
    rw [List.filter_eq_self]
    intro x hx
    have : x < ops.size := by simpa using hx
    simp [Array.getD_eq_getD_getElem?, this]
  have hany := any_of_facts F ops.size (Array.replicate ops.size false) s s' (by simp) (by
    intro i j hb hj
    rcases Nat.lt_or_ge j ops.size with h1 | h1
    · simp [Array.getD_eq_getD_getElem?, h1] at hj
    · rw [bef_none (Array.getElem?_eq_none h1)] at hb; cases hb) (by rw [e0]; simp) (by rw [e0]; exact h)
  have EV := drawn_evo C (C.w.drawn + 1)
  exact any_sound E hT ops.size _ (C := { C with w := { C.w with drawn := C.w.drawn + 1 } }) hany ⟨drawn_inv I.1 _, I.2.evo EV⟩ ⟨R.H, R.tm.evo EV, R.defers⟩ (fun C' a' I' EV' R' => hq C' a' I' (EV.trans EV') R')

theorem region_sound {id : Nat} {ops : Array Oper} {d : Bool} {Q : Exit → Act → World → Prop} (hm : P.follows .mixedOrders = true) (hd : codeOk T (.region id ops d) = true) {C : Cf} {s s' : St} {a : Act} (h : areg Y T ops.toList d s = some s') (I : InvJ W0 C) (R : StRel C s a)
    (hq : ∀ C' a', InvJ W0 C' → Evo C C' → StRel C' s' a' → Q .normal a' C'.w) : (Code.region id ops d).wp P Q a C.w := by
  unfold areg at h
  cases d with
  | false => simp only [held, watching, Bool.false_and, cond_false] at h; exact wp_region_list (aops_sound E hT ops.toList h I R hq)
  | true =>
    simp only [codeOk] at hd
    cases hh : held ops.toList true with
    | false =>
      rw [hh] at h
      simp only [cond_false] at h
      cases hw : watching ops.toList true with
      | false =>
        rw [hw] at h
        exact draw_sound E hT hm (fun e => by rw [hh] at e; cases e) (fun e => by rw [hw] at e; simp at e) hd h I R hq
      | true =>
        rw [hw] at h
        simp only [cond_true] at h
        cases hk : watchK (aval s.tm (.tmp (watchTmp ops.toList))) with
        | none => rw [hk] at h; cases h
        | some w =>
          rw [hk] at h
          exact draw_sound E hT hm (fun e => by rw [hh] at e; cases e) (fun _ => ⟨w, _, rfl⟩) hd h I R hq
    | true =>
      rw [hh] at h
      simp only [cond_true] at h
      obtain ⟨C1, hw, hH, I1, EV1⟩ := keep_good I.1 (newDsts ops.toList).length
      rw [← hw]
      refine draw_sound E hT hm (fun _ => plOf_ok _) (fun e => by rw [hh] at e; simp at e) hd h (C := C1) ⟨I1, I.2.evo EV1⟩ ⟨by rw [hH, R.H]; rfl, R.tm.evo EV1, R.defers⟩ (fun C' a' I' EV' R' => hq C' a' I' (EV1.trans EV') R')

/-- Where the code has come to. -/
def OutRel (W0 : World) (C : Cf) (o : Out) : Exit → Act → World → Prop
  | .normal, a, w => ∃ C' s, o = .norm s ∧ InvJ W0 C' ∧ Evo C C' ∧ StRel C' s a ∧ C'.w = w
  | .exit id, a, w => ∃ C' s, o = .exit id s ∧ InvJ W0 C' ∧ Evo C C' ∧ StRel C' s a ∧ C'.w = w
  | .ret, a, w => ∃ C' s, o = .ret s ∧ InvJ W0 C' ∧ Evo C C' ∧ StRel C' s a ∧ C'.w = w
  | _, _, _ => False

theorem OutRel.evo {C C' : Cf} (h : Evo C C') {o : Out} {e : Exit} {a : Act} {w : World} (hr : OutRel W0 C' o e a w) : OutRel W0 C o e a w := by
  cases e <;> simp only [OutRel] at hr ⊢
  all_goals first
    | (obtain ⟨D, s, h1, h2, h3, h4⟩ := hr; exact ⟨D, s, h1, h2, h.trans h3, h4⟩)

/-- The code, and a loop's rounds, at some fuel. -/
def CodeAt (P : Program) (Y : TypeId → Option Ty) (W0 : World) (T : FuncId → Option Spec) (n : Nat) : Prop :=
  ∀ (c : Code) {C : Cf} {s : St} {a : Act} {o : Out}, codeOk T c = true → acode Y T n c s = some o → InvJ W0 C → StRel C s a → c.wp P (OutRel W0 C o) a C.w
def LoopAt (P : Program) (Y : TypeId → Option Ty) (W0 : World) (T : FuncId → Option Spec) (n : Nat) : Prop :=
  ∀ (b : Code) {C : Cf} {s : St} {a : Act} {o : Out}, codeOk T b = true → acode Y T n (.loop b) s = some o → InvJ W0 C → StRel C s a → Code.rounds P b (OutRel W0 C o) n a C.w

theorem loop_step {n : Nat} (HA : CodeAt P Y W0 T n) (HL : LoopAt P Y W0 T n) : LoopAt P Y W0 T (n + 1) := by
  intro b C s a o hc h I R
  simp only [acode] at h
  rw [rounds_succ]
  split at h
  · rename_i s1 h1
    refine wp_mono (HA b hc h1 I R) ?_
    intro e a' w hr
    cases e <;> simp only [OutRel, Exit.then] at hr ⊢
    · obtain ⟨D, s2, e1, I', EV, R', rfl⟩ := hr
      cases e1
      have := HL b hc h I' R'
      have mono : ∀ (m : Nat) (a : Act) (w : World), Code.rounds P b (OutRel W0 D o) m a w → Code.rounds P b (OutRel W0 C o) m a w := by
        intro m
        induction m with
        | zero => intro a w h; exact h.elim
        | succ m ih =>
          intro a w h
          rw [rounds_succ] at h ⊢
          refine wp_mono h ?_
          intro e a w hr
          cases e <;> simp only [Exit.then] at hr ⊢
          · exact ih a w hr
          all_goals exact OutRel.evo E hT EV hr
      exact mono n _ _ this
    · obtain ⟨D, s2, e1, _⟩ := hr; cases e1
    · obtain ⟨D, s2, e1, _⟩ := hr; cases e1
  · rename_i hne
    refine wp_mono (HA b hc h I R) ?_
    intro e a' w hr
    cases e <;> simp only [OutRel, Exit.then] at hr ⊢
    · obtain ⟨D, s2, e1, _⟩ := hr
      subst e1
      exact absurd h (hne s2)
    · exact hr
    · exact hr

theorem code_step (hm : P.follows .mixedOrders = true) {n : Nat} (HA : CodeAt P Y W0 T n) (HB : LoopAt P Y W0 T (n + 1)) : CodeAt P Y W0 T (n + 1) := by
    intro c C s a o hc h I R
    cases c with
    | skip => simp [acode] at h; subst h; exact wp_skip ⟨C, s, rfl, I, Evo.refl C, R, rfl⟩
    | region id ops draw =>
      simp only [acode] at h
      split at h
      · rename_i s' hs
        cases h
        exact region_sound E hT hm hc hs I R (fun C' a' I' EV R' => ⟨C', s', rfl, I', EV, R', rfl⟩)
      · cases h
    | seq x y =>
      simp only [codeOk, Bool.and_eq_true] at hc
      simp only [acode] at h
      refine wp_seq ?_
      split at h
      · rename_i s1 h1
        refine wp_mono (HA x hc.1 h1 I R) ?_
        intro e a' w hr
        cases e <;> simp only [OutRel, Exit.then] at hr ⊢
        · obtain ⟨D, s2, e1, I', EV, R', rfl⟩ := hr
          cases e1
          exact wp_mono (HA y hc.2 h I' R') (fun e a w hr => hr.evo E hT EV)
        · obtain ⟨D, s2, e1, _⟩ := hr; cases e1
        · obtain ⟨D, s2, e1, _⟩ := hr; cases e1
      · rename_i hne
        refine wp_mono (HA x hc.1 h I R) ?_
        intro e a' w hr
        cases e <;> simp only [OutRel, Exit.then] at hr ⊢
        · obtain ⟨D, s2, e1, _⟩ := hr
          subst e1
          exact absurd h (hne s2)
        · exact hr
        · exact hr
    | cond x y z =>
      simp only [codeOk, Bool.and_eq_true] at hc
      simp only [acode] at h
      split at h
      · rename_i t ht
        have hx := aval_eval (vs := a.tmps) R.tm a rfl x _ ht
        generalize hv : a.eval x = v at hx
        cases hx with | pv _ _ hx =>
        cases hx
        refine wp_cond hv ?_
        cases t with
        | true => exact HA y hc.1 (by simpa using h) I R
        | false => exact HA z hc.2 (by simpa using h) I R
      · cases h
    | block id b =>
      simp only [codeOk] at hc
      simp only [acode] at h
      refine wp_block ?_
      split at h
      · rename_i i s' hb
        refine wp_mono (HA b hc hb I R) ?_
        intro e a' w hr
        cases e <;> simp only [OutRel, Exit.inBlock] at hr ⊢
        · obtain ⟨D, s2, e1, _⟩ := hr; cases e1
        · rename_i j
          obtain ⟨D, s2, e1, I', EV, R', hw⟩ := hr
          cases e1
          split at h
          · rename_i hi
            cases h
            rw [if_pos hi]
            exact ⟨D, s', rfl, I', EV, R', hw⟩
          · rename_i hi
            cases h
            rw [if_neg hi]
            exact ⟨D, s', rfl, I', EV, R', hw⟩
        · obtain ⟨D, s2, e1, _⟩ := hr; cases e1
      · rename_i hne
        refine wp_mono (HA b hc h I R) ?_
        intro e a' w hr
        cases e <;> simp only [OutRel, Exit.inBlock] at hr ⊢
        · exact hr
        · obtain ⟨D, s2, e1, _⟩ := hr
          subst e1
          exact absurd h (hne _ _)
        · exact hr
    | loop b => exact wp_loop_rounds (n + 1) (HB b (by simpa [codeOk] using hc) h I R)
    | exit id => simp [acode] at h; subst h; exact wp_exit ⟨C, s, rfl, I, Evo.refl C, R, rfl⟩
    | ret => simp [acode] at h; subst h; exact wp_ret ⟨C, s, rfl, I, Evo.refl C, R, rfl⟩
    | scope b =>
      simp only [codeOk] at hc
      simp only [acode] at h
      refine wp_scope_straight (wp_mono (HA b hc h I R) ?_)
      intro e a' w hr
      cases e <;> simp only [OutRel, Exit.noGoto] at hr ⊢
      all_goals exact hr
    | label l => simp [acode] at h; subst h; exact wp_label ⟨C, s, rfl, I, Evo.refl C, R, rfl⟩
    | rangeFunc f ps asg body => simp [acode] at h
    | goto l => simp [acode] at h
    | refuse w => simp [acode] at h

theorem both_sound (hm : P.follows .mixedOrders = true) : ∀ n, CodeAt P Y W0 T n ∧ LoopAt P Y W0 T n
  | 0 => ⟨fun c C s a o _ h _ _ => by simp [acode] at h, fun b C s a o _ h _ _ => by simp [acode] at h⟩
  | n + 1 => by
    obtain ⟨h1, h2⟩ := both_sound hm n
    have h3 := loop_step E hT h1 h2
    exact ⟨code_step E hT hm h1 h3, h3⟩
end
end Go.Pm
