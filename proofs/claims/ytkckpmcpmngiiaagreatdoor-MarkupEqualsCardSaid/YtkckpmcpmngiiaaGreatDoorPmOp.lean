/- Every operation of the interpreter, held against the model's. -/
import Derived.Test.YtkckpmcpmngiiaaGreatDoorPmDraw
import Derived.Test.YtkckpmcpmngiiaaGreatDoorPmHeap3
set_option linter.unusedSimpArgs false
set_option linter.unusedVariables false
set_option linter.unusedSectionVars false
namespace Go.Pm

/-- What a contract says: the call returns, the values related, and nothing else has turned. -/
def Meets (P : Program) (W0 : World) (f : FuncId) (F : List SV → List Blk → Option (SV × List Blk)) : Prop :=
  ∀ (C : Cf) (args : List SV) (vs : List Value) (r : SV) (H' : List Blk), F args C.H = some (r, H') → Inv C → J0 W0 C → RelL C args vs →
    Calls P f vs.toArray C.w (fun e w' => ∃ v C', e = .returned v ∧ C'.w = w' ∧ Good C C' H' r v)

def Enterable (P : Program) (f : FuncId) : Prop := ∃ fn, P.funcs[f]? = some fn ∧ fn.body.isNone = false ∧ (fn.name == "runtime.NumGoroutine") = false

def TOk (P : Program) (W0 : World) (T : FuncId → Option Spec) : Prop := ∀ g S, T g = some S → Enterable P g ∧ Meets P W0 g (specFn S)

section
variable {P : Program}

theorem wp_value {o : Oper} {a : Act} {w w' : World} {v : Value} {K : Act → World → Prop} {Q : Exit → Act → World → Prop} (h : (execOp a.eval o).run P w = .ok (.value v) w') (hk : K (a.put o.dst v) w') : o.wp P a w K Q := by
  unfold Oper.wp; rw [h]; exact hk

theorem wp_skipped {o : Oper} {a : Act} {w w' : World} {K : Act → World → Prop} {Q : Exit → Act → World → Prop} (h : (execOp a.eval o).run P w = .ok .skip w') (hk : K (a.put o.dst Go.undef) w') : o.wp P a w K Q := by
  unfold Oper.wp; rw [h]; exact hk

theorem callFunc_run {g : FuncId} (h : Enterable P g) (args : Array Value) (w : World) : (callFunc g args).run P w = .ok (.enter g args) w := by
  obtain ⟨fn, h1, h2, h3⟩ := h
  have h3' : ¬ fn.name = "runtime.NumGoroutine" := by simpa using h3
  have h2' : ¬ fn.body = none := by intro e; rw [e] at h2; cases h2
  simp [callFunc, h1, h2', h3']

variable {Y : TypeId → Option Ty} (E : Env P Y) {W0 : World} {T : FuncId → Option Spec} (hT : TOk P W0 T)
include E hT

theorem minmax_run {C : Cf} {mx : Bool} {l : List SV} {vs : List Value} {s : SV} (ts : Array TypeId) (ty : TypeId) (h : aMinMax mx l = some s) (hr : RelL C l vs) :
    ∃ v, (if mx then Builtin.max_ ts ty vs.toArray else Builtin.min_ ts ty vs.toArray).run P C.w = .ok v C.w ∧ RelS C s v := by
  unfold aMinMax at h
  split at h
  · rename_i k a k' b
    obtain ⟨u, us, rfl, h1, h2⟩ := hr.uncons
    obtain ⟨u', us', rfl, h3, h4⟩ := h2.uncons
    have : us' = [] := by simpa using h4.1
    subst this
    cases h1 with | pv _ _ h1 => cases h1; cases h3 with | pv _ _ h3 =>
    cases h3
    split at h
    · rename_i hk
      cases h
      cases mx
      · exact ⟨_, by simp [Builtin.min_, Builtin.min2], .pv _ _ (.int _ _)⟩
      · exact ⟨_, by simp [Builtin.max_, Builtin.max2], .pv _ _ (.int _ _)⟩
    · cases h
  · cases h

theorem aop_sound {C : Cf} (I : Inv C) (J : J0 W0 C) {ρ : Operand → Option SV} {a : Act} {o : Oper} {s : SV} {H' : List Blk} (h : aop Y T C.H ρ o.op = some (s, H')) (hρ : Eval C ρ a.eval)
    {K : Act → World → Prop} {Q : Exit → Act → World → Prop} (hK : ∀ v C', Good C C' H' s v → K (a.put o.dst v) C'.w) : o.wp P a C.w K Q := by
  have same : ∀ {v : Value} {s' : SV}, (s', C.H) = (s, H') → (execOp a.eval o).run P C.w = .ok (.value v) C.w → RelS C s' v → o.wp P a C.w K Q := by
    intro v s' e hrun hr
    cases e
    exact wp_value hrun (hK v C (Good.same I hr))
  cases hop : o.op <;> rw [hop] at h <;> simp only [aop] at h <;> try (cases h; done)
  case move x =>
    cases hx : ρ x with
    | none => simp [hx] at h
    | some u =>
      simp [hx] at h
      exact same (by rw [h.1, h.2]) (by simp [execOp, hop]) (hρ x u hx)
  case assign x =>
    cases hx : ρ x with
    | none => simp [hx] at h
    | some u =>
      simp [hx] at h
      exact same (by rw [h.1, h.2]) (by simp [execOp, hop]) (hρ x u hx)
  case pick c x y =>
    split at h
    · rename_i t hc
      have hcr := hρ c _ hc
      generalize hcv : a.eval c = vc at hcr
      cases hcr with | pv _ _ hcr =>
      cases hcr
      split at h
      · rename_i ht
        cases hx : ρ x with
        | none => simp [hx] at h
        | some u =>
          simp [hx] at h
          exact same (by rw [h.1, h.2]) (by simp [execOp, hop, asBool, hcv, ht]) (hρ x u hx)
      · rename_i ht
        cases hx : ρ y with
        | none => simp [hx] at h
        | some u =>
          simp [hx] at h
          exact same (by rw [h.1, h.2]) (by simp [execOp, hop, asBool, hcv, ht]) (hρ y u hx)
    · cases h
  case alloc t =>
    cases hy : Y t with
    | none => simp [hy] at h
    | some y =>
      simp [hy] at h
      obtain ⟨v, C', hrun, hg⟩ := alloc_run E I hy
      rw [h.1, h.2] at hg
      exact wp_value (by simp [execOp, hop, hrun]) (hK v C' hg)
  case box t x =>
    cases hx : ρ x with
    | none => simp [hx] at h
    | some u =>
      cases hc : cellsOf u with
      | none => simp [hx, hc] at h
      | some cs =>
        simp [hx, hc] at h
        obtain ⟨v, C', hrun, hg⟩ := box_run (P := P) (t := t) I hc (hρ x u hx)
        rw [h.1, h.2] at hg
        exact wp_value (by simp [execOp, hop, hrun]) (hK v C' hg)
  case makeSlice t x y =>
    split at h
    · rename_i k1 n k2 m hx hy
      obtain ⟨kx, hxv⟩ : ∃ kx, a.eval x = .int kx n := by
        have hr := hρ x _ hx
        generalize a.eval x = q at hr
        cases hr with | pv _ _ hr => cases hr; exact ⟨_, rfl⟩
      obtain ⟨ky, hyv⟩ : ∃ ky, a.eval y = .int ky m := by
        have hr := hρ y _ hy
        generalize a.eval y = q at hr
        cases hr with | pv _ _ hr => cases hr; exact ⟨_, rfl⟩
      obtain ⟨v, C', hrun, hg⟩ := makeSlice_run (k1 := kx) (k2 := ky) E I h
      exact wp_value (by simp [execOp, hop, hxv, hyv, hrun]) (hK v C' hg)
    · cases h
  case build t ps =>
    cases hb : aBuild Y t ρ ps.toList with
    | none => simp [hb] at h
    | some u =>
      simp [hb] at h
      obtain ⟨v, hrun, hr⟩ := aBuild_run E hρ hb
      exact same (by rw [h.1, h.2]) (by simp only [execOp, hop, Sem.run_bind, hrun, Result.andThen_ok, Sem.run_pure]) hr
  case buildSlice t n ps =>
    cases hb : aBuildSlice Y t n ρ ps.toList with
    | none => simp [hb] at h
    | some u =>
      simp [hb] at h
      obtain ⟨v, C', hrun, hg⟩ := buildSlice_run E I hρ hb
      rw [h.1, h.2] at hg
      exact wp_value (by simp only [execOp, hop, Sem.run_bind, hrun, Result.andThen_ok, Sem.run_pure]) (hK v C' hg)
  case load t x =>
    split at h
    · rename_i u hx
      cases hl : aLoad Y C.H t u with
      | none => simp [hl] at h
      | some r =>
        simp [hl] at h
        obtain ⟨v, hrun, hr⟩ := aLoad_run E I hl (hρ x u hx)
        exact same (by rw [h.1, h.2]) (by simp [execOp, hop, hrun]) hr
    · cases h
  case store t x y =>
    split at h
    · rename_i u1 u2 hx hy
      cases hl : aStore Y C.H t u1 u2 with
      | none => simp [hl] at h
      | some r =>
        simp [hl] at h
        obtain ⟨C', hrun, hg⟩ := store_run E I hl (hρ x u1 hx) (hρ y u2 hy)
        rw [h.2] at hg
        refine wp_skipped (by simp [execOp, hop, hrun]) (hK _ C' ?_)
        rw [← h.1]; exact hg
    · cases h
  case nilCheck x =>
    split at h
    · rename_i k off hx
      have hr := hρ x _ hx
      generalize hv : a.eval x = v at hr
      cases hr with | ptr _ _ cs g hH hG =>
      exact same (Option.some.inj h) (by simp [execOp, hop, hv]) (.ptr k off cs g hH hG)
    · rename_i cs hx
      have hr := hρ x _ hx
      generalize hv : a.eval x = v at hr
      cases hr with | cptr _ b off u h1 h2 h3 =>
      exact same (Option.some.inj h) (by simp [execOp, hop, hv]) (.cptr cs b off u h1 h2 h3)
    · cases h
  case binOp op t x y yt =>
    split at h
    · rename_i u1 u2 hx hy
      cases hb : aBin Y op t (cst x) (cst y) u1 u2 with
      | none => simp [hb] at h
      | some r =>
        simp [hb] at h
        obtain ⟨v, hrun, hr⟩ := aBin_run E (ox := x) (oy := y) hb (hρ x u1 hx) (hρ y u2 hy)
        refine same (by rw [h.1, h.2]) ?_ hr
        simp only [Sem.run_bind] at hrun
        simp only [execOp, hop, Sem.run_bind, hrun, Result.andThen_ok, Sem.run_pure]
    · cases h
  case unOp op t x =>
    split at h
    · rename_i u hx
      cases hl : aUn op u with
      | none => simp [hl] at h
      | some r =>
        simp [hl] at h
        obtain ⟨v, hrun, hr⟩ := aUn_run (P := P) hl (hρ x u hx)
        exact same (by rw [h.1, h.2]) (by simp [execOp, hop, hrun]) hr
    · cases h
  case convert src dst x =>
    split at h
    · rename_i u hx
      cases hl : aConvX Y T C.H src dst u with
      | none => simp [hl] at h
      | some r =>
        simp [hl] at h
        obtain ⟨v, C', hrun, hg⟩ := convX_run E I hl (hρ x u hx)
        rw [h.1, h.2] at hg
        exact wp_value (by simp [execOp, hop, hrun]) (hK v C' hg)
    · cases h
  case makeInterface t x =>
    split at h
    · rename_i u k hx hk
      have main : ∀ p, pcell u = some p → (SV.pv (.iface t p), C.H) = (s, H') → k ≠ .iface → o.wp P a C.w K Q := by
        intro p hp e hki
        obtain ⟨y, d, _, _, hu, hf⟩ := E.kind hk
        have hni : ∀ ms, d ≠ .interface ms := by
          intro ms e; subst e; cases k <;> simp [TK.fits] at hf; exact hki rfl
        refine same e ?_ (.pv _ _ (.iface t p _ (pcell_rel hp (hρ x u hx))))
        simp only [execOp, hop, Instr.makeInterface, Sem.run_bind, run_underlying hu, Result.andThen_ok]
        cases d <;> simp <;> exact absurd rfl (hni _)
      split at h
      · cases h
      · rename_i hki
        cases hp : pcell u with
        | none => simp [hp] at h
        | some p => simp [hp] at h; exact main p hp (by rw [h.1, h.2]) hki
    · cases h
  case makeFunc fn first caps =>
    cases hm : aMakeFunc ρ fn first.toList caps.toList with
    | none => simp [hm] at h
    | some r =>
      simp [hm] at h
      unfold aMakeFunc at hm
      split at hm
      · rename_i f hf hc
        cases hm
        have h1 : first = #[] := by simpa using hf
        have h2 := avals_rel hρ hc
        have h3 : caps = #[] := by have := h2.1; simpa using this
        subst h1; subst h3
        exact same (by rw [h.1, h.2]) (by simp [execOp, hop, Instr.makeFunc]) (.pv _ _ (.fn f))
      · rename_i f vs hne hf hc
        cases hm
        have h1 : first = #[] := by simpa using hf
        have h2 := avals_rel hρ hc
        subst h1
        refine same (v := .func (.func f) #[] (caps.toList.map a.eval).toArray) (by rw [h.1, h.2]) ?_ (.clo f vs _ h2.1 h2.2)
        simp [execOp, hop, Instr.makeFunc]
        apply Array.ext'; simp
      · cases hm
  case slice t x lo hi mx =>
    split at h
    · rename_i u hx
      cases hl : aSlice Y t u ρ lo hi mx with
      | none => simp [hl] at h
      | some r =>
        simp [hl] at h
        obtain ⟨v, hrun, hr⟩ := aSlice_run E hρ hl (hρ x u hx)
        exact same (by rw [h.1, h.2]) (by simp [execOp, hop, hrun]) hr
    · cases h
  case fieldAddr t x f =>
    split at h
    · rename_i u hx
      cases hl : aFieldAddr Y t u f with
      | none => simp [hl] at h
      | some r =>
        simp [hl] at h
        obtain ⟨v, hrun, hr⟩ := aFieldAddr_run E hl (hρ x u hx)
        exact same (by rw [h.1, h.2]) (by simp [execOp, hop, hrun]) hr
    · cases h
  case field t x f =>
    split at h
    · rename_i u hx
      cases hl : aField Y t u f with
      | none => simp [hl] at h
      | some r =>
        simp [hl] at h
        obtain ⟨v, hrun, hr⟩ := aField_run E hl (hρ x u hx)
        exact same (by rw [h.1, h.2]) (by simp [execOp, hop, hrun]) hr
    · cases h
  case indexAddr t x i =>
    split at h
    · rename_i u k n hx hi
      cases hl : aIndexAddr Y t u n with
      | none => simp [hl] at h
      | some r =>
        simp [hl] at h
        have hir := hρ i _ hi
        generalize hv : a.eval i = vi at hir
        cases hir with | pv _ _ hir =>
        cases hir
        obtain ⟨v, hrun, hr⟩ := aIndexAddr_run E (k := k) hl (hρ x u hx)
        exact same (by rw [h.1, h.2]) (by simp [execOp, hop, hv, hrun]) hr
    · cases h
  case index t x i =>
    split at h
    · rename_i u k n hx hi
      cases hl : aIndex Y t u n with
      | none => simp [hl] at h
      | some r =>
        simp [hl] at h
        have hir := hρ i _ hi
        generalize hv : a.eval i = vi at hir
        cases hir with | pv _ _ hir =>
        cases hir
        obtain ⟨v, hrun, hr⟩ := aIndex_run E (k := k) hl (hρ x u hx)
        exact same (by rw [h.1, h.2]) (by simp [execOp, hop, hv, hrun]) hr
    · cases h
  case extract x i =>
    split at h
    · rename_i l hx
      cases hl : l[i]? with
      | none => simp [hl] at h
      | some r =>
        simp [hl] at h
        have hxr := hρ x _ hx
        generalize hv : a.eval x = vx at hxr
        cases hxr with | tuple _ us hlen hrr =>
        obtain ⟨u, hu, hru⟩ := RelL.get ⟨hlen, hrr⟩ hl
        have hu' : us.toArray[i]? = some u := by simpa using hu
        exact same (by rw [h.1, h.2]) (by simp [execOp, hop, Instr.extract, hv, hu]) hru
    · cases h
  case call c =>
    unfold aCallOp at h
    split at h
    · rename_i b vs hc hv
      have hvr := avals_rel hρ hv
      have hargs : c.args.map a.eval = (c.args.toList.map a.eval).toArray := by apply Array.ext'; simp
      unfold aBuiltin at h
      split at h
      · rename_i t x hts
        obtain ⟨v, r, e1, hr, hn⟩ := hvr.uncons
        have : r = [] := by simpa using hn.1
        subst this
        cases hl : aLen Y t x with
        | none => simp [hl] at h
        | some n =>
          simp [hl] at h
          have hat : c.argTypes = #[t] := by rw [← Array.toList_inj]; simpa using hts
          refine same (Prod.ext h.1 h.2) ?_ (.pv _ _ (.int .i64 n))
          simp [execOp, hop, resolve, hc, invoke, builtin, hargs, e1, hat, aLen_run E o.type hl hr]
      · rename_i t t2 x y hts
        obtain ⟨v, r, e1, hr, hn⟩ := hvr.uncons
        obtain ⟨v2, r2, e2, hr2, hn2⟩ := hn.uncons
        have : r2 = [] := by simpa using hn2.1
        subst this; subst e2
        have hat : c.argTypes = #[t, t2] := by rw [← Array.toList_inj]; simpa using hts
        obtain ⟨u, C', hrun, hg⟩ := appendX_run E I (ty := o.type) h hr hr2
        refine wp_value ?_ (hK u C' hg)
        simp [execOp, hop, resolve, hc, invoke, builtin, hargs, e1, hat, hrun]
      · generalize hl : aMinMax true _ = q at h
        cases q with
        | none => simp at h
        | some r =>
          simp at h
          obtain ⟨v, hrun, hr⟩ := minmax_run E hT c.argTypes o.type hl hvr
          refine same (by rw [h.1, h.2]) ?_ hr
          simp only [if_true] at hrun
          simp [execOp, hop, resolve, hc, invoke, builtin, hargs, hrun]
      · generalize hl : aMinMax false _ = q at h
        cases q with
        | none => simp at h
        | some r =>
          simp at h
          obtain ⟨v, hrun, hr⟩ := minmax_run E hT c.argTypes o.type hl hvr
          refine same (by rw [h.1, h.2]) ?_ hr
          simp at hrun
          simp [execOp, hop, resolve, hc, invoke, builtin, hargs, hrun]
      · rename_i t t2 x y hts
        obtain ⟨v, r, e1, hr, hn⟩ := hvr.uncons
        obtain ⟨v2, r2, e2, hr2, hn2⟩ := hn.uncons
        have : r2 = [] := by simpa using hn2.1
        subst this; subst e2
        have hat : c.argTypes = #[t, t2] := by rw [← Array.toList_inj]; simpa using hts
        obtain ⟨u, C', hrun, hg⟩ := copy_run E I (t2 := t2) (ty := o.type) h hr hr2
        refine wp_value ?_ (hK u C' hg)
        simp [execOp, hop, resolve, hc, invoke, builtin, hargs, e1, hat, hrun]
      · rename_i t x hts
        obtain ⟨v, r, e1, hr, hn⟩ := hvr.uncons
        have : r = [] := by simpa using hn.1
        subst this
        have hat : c.argTypes = #[t] := by rw [← Array.toList_inj]; simpa using hts
        obtain ⟨u, C', hrun, hg⟩ := clear_run E I (ty := o.type) h hr
        refine wp_value ?_ (hK u C' hg)
        simp [execOp, hop, resolve, hc, invoke, builtin, hargs, e1, hat, hrun]
      · cases h
    · rename_i f vs hc hv
      have hvr := avals_rel hρ hv
      have hargs : c.args.map a.eval = (c.args.toList.map a.eval).toArray := by apply Array.ext'; simp
      have call : ∀ (g : FuncId) (as : List SV) (us : List Value), aCall T C.H g as = some (s, H') → RelL C as us → (execOp a.eval o).run P C.w = (callFunc g us.toArray).run P C.w → o.wp P a C.w K Q := by
        intro g as us hcall hr hrun
        unfold aCall at hcall
        split at hcall
        · rename_i S hS
          obtain ⟨hen, hme⟩ := hT g S hS
          have hm := hme C as us s H' hcall I J hr
          unfold Oper.wp
          rw [hrun, callFunc_run hen]
          refine hm.mono ?_
          rintro e w' ⟨v, C', rfl, rfl, hg⟩
          exact hK v C' hg
        · cases hcall
      split at h
      · rename_i u hf
        unfold aCallee at h
        split at h
        · rename_i g
          have hfr := hρ f _ hf
          generalize hfv : a.eval f = vf at hfr
          cases hfr with | pv _ _ hfr =>
          cases hfr
          refine call g vs _ (aCallD_sub h) hvr ?_
          simp [execOp, hop, resolve, hc, hfv, Deferred.ofValue, invoke, hargs]
        · rename_i g caps
          have hfr := hρ f _ hf
          generalize hfv : a.eval f = vf at hfr
          cases hfr with | clo _ _ us hl hrr =>
          refine call g (vs ++ caps) (c.args.toList.map a.eval ++ us) (aCallD_sub h) (hvr.append ⟨hl, hrr⟩) ?_
          simp [execOp, hop, resolve, hc, hfv, Deferred.ofValue, invoke, hargs]
        · cases h
      · cases h
    · cases h

theorem aopP_sound {pl : PL} {C : Cf} (I : Inv C) (J : J0 W0 C) {ρ : Operand → Option SV} {a : Act} {o : Oper} {s : SV} {H' : List Blk} (h : aopP Y T pl o.dst C.H ρ o.op = some (s, H')) (hρ : Eval C ρ a.eval)
    {K : Act → World → Prop} {Q : Exit → Act → World → Prop} (hK : ∀ v C', Good C C' H' s v → K (a.put o.dst v) C'.w) : o.wp P a C.w K Q := by
  cases hw : pl.wm with
  | some q =>
    obtain ⟨w, n⟩ := q
    rw [aopP_watch hw] at h
    exact aop_sound E hT I J (watchC_sub h) hρ hK
  | none =>
  cases hn : isNew o.op with
  | false =>
    rcases aopP_old (Y := Y) (T := T) (pl := pl) hw (d := o.dst) (ρ := ρ) hn with e | e
    · rw [e] at h; exact aop_sound E hT I J h hρ hK
    · rw [e] at h; cases h
  | true =>
    unfold aopP at h
    rw [hw, hn] at h
    simp only [cond_true] at h
    split at h
    · rename_i k hk
      split at h
      · rename_i cs hcs
        unfold fill at h
        split at h
        · rename_i hh
          cases h
          cases hop : o.op <;> rw [hop] at hn hcs <;> simp [isNew] at hn <;> simp only [newCells] at hcs
          · rename_i t
            cases hy : Y t with
            | none => simp [hy] at hcs
            | some y =>
              simp [hy] at hcs
              subst hcs
              obtain ⟨v, C', hrun, hg⟩ := alloc_fill E I hy hh
              exact wp_value (by simp [execOp, hop, hrun]) (hK v C' hg)
          · rename_i t x
            split at hcs
            · rename_i u hx
              cases hc : cellsOf u with
              | none => simp [hc] at hcs
              | some cs1 =>
                simp [hc] at hcs
                subst hcs
                obtain ⟨v, C', hrun, hg⟩ := box_fill (P := P) (t := t) I hc (hρ x u hx) hh
                exact wp_value (by simp [execOp, hop, hrun]) (hK v C' hg)
            · cases hcs
        · cases h
      · cases h
    · exact aop_sound E hT I J h hρ hK
end
end Go.Pm
