/- A function that the interpreter runs meets what it comes to. -/
import Derived.Test.YtkckpmcpmngiiaaGreatDoorPmCode
set_option linter.unusedSimpArgs false
set_option linter.unusedVariables false
set_option linter.unusedSectionVars false
namespace Go.Pm

section
variable {P : Program} {Y : TypeId → Option Ty} (E : Env P Y) {W0 : World} {T : FuncId → Option Spec} (hT : TOk P W0 T)
include E

theorem getD_rel {C : Cf} {tm : List SV} {tmps : Array Value} (h : RelL C tm tmps.toList) (t : Nat) : RelS C (tm.getD t .undef) (tmps.getD t Go.undef) := by
  cases hs : tm[t]? with
  | none =>
    have h1 : tm.length ≤ t := by
      rcases Nat.lt_or_ge t tm.length with h | h
      · rw [List.getElem?_eq_getElem h] at hs; cases hs
      · exact h
    have hl : tmps[t]? = none := by have := h.1; simp at this; exact Array.getElem?_eq_none (by omega)
    have e1 : tm.getD t .undef = .undef := by simp [List.getD, hs]
    have e2 : tmps.getD t Go.undef = Go.undef := by rw [Array.getD_eq_getD_getElem?, hl]; rfl
    rw [e1, e2]; exact undef_rel C
  | some c =>
    obtain ⟨u, hu, hr⟩ := h.get hs
    have hu' : tmps[t]? = some u := by simpa using hu
    have e1 : tm.getD t .undef = c := by simp [List.getD, hs]
    have e2 : tmps.getD t Go.undef = u := by rw [Array.getD_eq_getD_getElem?, hu']; rfl
    rw [e1, e2]; exact hr

def resSem (tmps : Array Value) : ResultVar → Sem Value
  | .tmp t => pure (tmps.getD t Go.undef)
  | .cell a t => do loadVar t (← asAddr (tmps.getD a Go.undef))

theorem aresult_run {C : Cf} (I : Inv C) {s : St} {tmps : Array Value} (hH : C.H = s.H) (h : RelL C s.tm tmps.toList) {r : ResultVar} {v : SV} (hr : aresult Y s r = some v) :
    ∃ u, (resSem tmps r).run P C.w = .ok u C.w ∧ RelS C v u := by
  cases r with
  | tmp t =>
    simp only [aresult] at hr
    rw [← live_some hr]
    exact ⟨_, rfl, getD_rel E h t⟩
  | cell a t =>
    simp only [aresult] at hr
    have hrel := getD_rel E h a
    rw [← hH] at hr
    obtain ⟨u, hu, hru⟩ := aLoad_run E I hr hrel
    refine ⟨u, ?_, hru⟩
    simp only [resSem, Sem.run_bind]
    simp only [Instr.loadAt, Sem.run_bind] at hu
    generalize tmps.getD a Go.undef = va at *
    generalize s.tm.getD a .undef = sa at *
    have : ∃ ad, va = .pointer (some ad) := by
      unfold aLoad at hr
      split at hr
      · cases hr
      · split at hr
        · cases hrel; exact ⟨_, rfl⟩
        · cases hrel; exact ⟨_, rfl⟩
        · cases hrel; exact ⟨_, rfl⟩
        · cases hr
    obtain ⟨ad, rfl⟩ := this
    simpa [Instr.sureAddr, asAddr] using hu

theorem aresults_run {C : Cf} (I : Inv C) {s : St} {tmps : Array Value} (hH : C.H = s.H) (h : RelL C s.tm tmps.toList) : ∀ {rs : List ResultVar} {vs : List SV}, aresults Y s rs = some vs →
    ∃ us, (rs.mapM (resSem tmps)).run P C.w = .ok us C.w ∧ RelL C vs us
  | [], vs, hr => by simp [aresults] at hr; subst hr; exact ⟨[], by simp, RelL.nil C⟩
  | r :: rs, vs, hr => by
    simp only [aresults] at hr
    split at hr
    · rename_i v hv
      split at hr
      · rename_i vs' hvs
        cases hr
        obtain ⟨u, hu, h1⟩ := aresult_run E I hH h hv
        obtain ⟨us, hus, h2⟩ := aresults_run I hH h hvs
        exact ⟨u :: us, by simp [List.mapM_cons, hu, hus], RelL.cons h1 h2⟩
      · cases hr
    · cases hr

theorem finish_post {C : Cf} (I : Inv C) {fn : Func} {s : St} {a : Act} (R : StRel C s a) {r : SV} {H' : List Blk} (h : (aresults Y s fn.results.toList).map (fun vs => (pack vs, s.H)) = some (r, H')) :
    a.defers = [] ∧ ∃ v, (results fn a.tmps).run P C.w = .ok v C.w ∧ RelS C r v ∧ C.H = H' := by
  cases hr : aresults Y s fn.results.toList with
  | none => simp [hr] at h
  | some vs =>
    simp [hr] at h
    obtain ⟨us, hus, hrel⟩ := aresults_run E I R.H R.tm hr
    refine ⟨R.defers, ?_⟩
    have he : results fn a.tmps = (do let vs ← fn.results.mapM (resSem a.tmps); Pure.pure (if h : vs.size = 1 then vs[0] else .tuple vs) : Sem Value) := by
      unfold results
      congr 2
    have hm : (fn.results.mapM (resSem a.tmps)).run P C.w = .ok us.toArray C.w := by
      rw [Array.mapM_eq_mapM_toList]
      simp [hus]
    rw [he]
    simp only [Sem.run_bind, hm, Result.andThen_ok, Sem.run_pure]
    rw [← h.1, ← h.2, R.H]
    by_cases h1 : ∃ x, vs = [x]
    · obtain ⟨x, rfl⟩ := h1
      obtain ⟨u, us', rfl, h2, h3⟩ := hrel.uncons
      have : us' = [] := by simpa using h3.1
      subst this
      exact ⟨u, by simp, h2, rfl⟩
    · have hne : ¬ us.toArray.size = 1 := by
        intro hs
        simp at hs
        rw [hrel.1] at hs
        match vs, hs with
        | [x], _ => exact h1 ⟨x, rfl⟩
      have hp : pack vs = .tuple vs := by
        unfold pack
        split
        · exact absurd ⟨_, rfl⟩ h1
        · rfl
      refine ⟨.tuple us.toArray, by simp only [dif_neg hne], ?_, rfl⟩
      rw [hp]; exact .tuple vs us hrel.1 hrel.2

include hT

theorem arun_sound (hm : P.follows .mixedOrders = true) {f : FuncId} {fn : Func} {c : Code} (hf : P.funcs[f]? = some fn) (hb : fn.body = some c) (hc : codeOk T c = true) {fuel : Nat} :
    Meets P W0 f (fun args H => arun Y T fn fuel args H) := by
  intro C args vs r H' h I J hr
  unfold arun at h
  rw [hb] at h
  simp only [] at h
  refine calls_of_wp hf hb ?_
  have R : StRel C (enter fn.ntmps args C.H) { tmps := vs.toArray ++ Array.replicate (fn.ntmps - vs.toArray.size) Go.undef, defers := [] } := by
    refine ⟨rfl, ?_, rfl⟩
    simp only [enter, Array.toList_append, Array.toList_replicate]
    have hl : vs.length = args.length := hr.1
    refine hr.append ⟨by simp [hl], fun j c u hj hu => ?_⟩
    have h1 := List.eq_of_mem_replicate (List.mem_of_getElem? hj)
    have h2 := List.eq_of_mem_replicate (List.mem_of_getElem? hu)
    rw [h1, h2]; exact undef_rel C
  cases ho : acode Y T fuel c (enter fn.ntmps args C.H) with
  | none => rw [ho] at h; simp [finish] at h
  | some o =>
    rw [ho] at h
    refine wp_mono ((both_sound E hT hm fuel).1 c hc ho ⟨I, J⟩ R) ?_
    intro e a w hrel
    cases e with
    | normal =>
      obtain ⟨D, s, e1, I', EV, R', rfl⟩ := hrel
      cases e1
      simp only [finish] at h
      obtain ⟨h1, v, h2, h3, h4⟩ := finish_post E I'.1 R' h
      exact ⟨h1, v, h2, v, D, rfl, rfl, h4, I'.1, EV, h3⟩
    | ret =>
      obtain ⟨D, s, e1, I', EV, R', rfl⟩ := hrel
      cases e1
      simp only [finish] at h
      obtain ⟨h1, v, h2, h3, h4⟩ := finish_post E I'.1 R' h
      exact ⟨h1, v, h2, v, D, rfl, rfl, h4, I'.1, EV, h3⟩
    | exit id =>
      obtain ⟨D, s, e1, _⟩ := hrel
      cases e1
      simp [finish] at h
    | goto l => exact hrel.elim
    | panic ch => exact hrel.elim
    | outgrown => exact hrel.elim

end
end Go.Pm
