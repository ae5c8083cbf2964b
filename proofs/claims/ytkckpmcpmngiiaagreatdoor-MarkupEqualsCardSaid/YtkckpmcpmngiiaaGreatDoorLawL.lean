/- Runs joined: a part by the machine, then another start. -/
import Derived.Test.YtkckpmcpmngiiaaGreatDoorE2
set_option linter.unusedSimpArgs false
set_option linter.unusedVariables false
set_option maxRecDepth 1000000
set_option maxHeartbeats 1000000
namespace Go.Proofs.YtkckpmcpmngiiaaGreatDoor
open Go Go.Pm Go.RowKit
theorem runs_glue {T : FuncId → Option Pm.Spec} {t : Code} : ∀ (n : Nat) (c : Code) {s : St} {o : Out}, spineOk n c = true →
    (Runs Y T (glue n c t) s o ↔ (∃ s1, Runs Y T (glue n c .skip) s (.norm s1) ∧ Runs Y T t s1 o) ∨ (Runs Y T (glue n c .skip) s o ∧ isNorm o = false))
  | 0, c, s, o, _ => by
    simp only [glue]
    constructor
    · intro h; exact .inl ⟨s, runs_skip.2 rfl, h⟩
    · rintro (⟨s1, h1, h2⟩ | ⟨h1, h2⟩)
      · rw [runs_skip] at h1; cases h1; exact h2
      · rw [runs_skip] at h1; subst h1; cases h2
  | n + 1, c, s, o, h => by
    cases c <;> simp only [spineOk] at h <;> try (cases h; done)
    rename_i x y
    simp only [glue]
    rw [runs_seq, runs_seq]
    constructor
    · rintro (⟨s2, h1, h2⟩ | ⟨h1, h2⟩)
      · rcases (runs_glue n y h).1 h2 with ⟨s1, h3, h4⟩ | ⟨h3, h4⟩
        · exact .inl ⟨s1, runs_seq.2 (.inl ⟨s2, h1, h3⟩), h4⟩
        · exact .inr ⟨.inl ⟨s2, h1, h3⟩, h4⟩
      · exact .inr ⟨.inr ⟨h1, h2⟩, h2⟩
    · rintro (⟨s1, h1, h2⟩ | ⟨h1, h2⟩)
      · rcases runs_seq.1 h1 with ⟨s2, h3, h4⟩ | ⟨h3, h4⟩
        · exact .inl ⟨s2, h3, (runs_glue n y h).2 (.inl ⟨s1, h4, h2⟩)⟩
        · cases h4
      · rcases h1 with ⟨s2, h3, h4⟩ | ⟨h3, h4⟩
        · exact .inl ⟨s2, h3, (runs_glue n y h).2 (.inr ⟨h4, h2⟩)⟩
        · exact .inr ⟨h3, h4⟩
/-- A part of a code that the machine runs through: it comes to its end. -/
theorem norm_of {T : FuncId → Option Pm.Spec} {n : Nat} {c M : Code} {s : St} {rs : List ResultVar} {R0 R1 : SV} {H1 : List Blk} (hsp : spineOk n c = true) (hne : R0 ≠ R1)
    (h0 : X Y T rs [] (glue n c .skip) s (fun r => r = (R0, H1))) (h1 : X Y T rs [] (glue n c M) s (fun r => r.1 = R1)) :
    ∃ s1, Runs Y T (glue n c .skip) s (.norm s1) ∧ s1.H = H1 ∧ ∃ vs, aresults Y s1 rs = some vs ∧ pack vs = R0 := by
  obtain ⟨o0, r0, q0, f0, e0⟩ := h0
  obtain ⟨o1, r1, q1, f1, e1⟩ := h1
  simp only [plug] at q0 q1
  have key : ∀ s1, o0 = .norm s1 → ∃ s1, Runs Y T (glue n c .skip) s (.norm s1) ∧ s1.H = H1 ∧ ∃ vs, aresults Y s1 rs = some vs ∧ pack vs = R0 := fun s1 e => by
    subst e
    simp only [finish, Option.map_eq_some_iff] at f0
    obtain ⟨vs, v1, v2⟩ := f0
    rw [e0] at v2
    cases v2
    exact ⟨s1, q0, rfl, vs, v1, rfl⟩
  rcases (runs_glue n c hsp).1 q1 with ⟨s1, h2, h3⟩ | ⟨h2, h3⟩
  · exact key s1 (runs_det q0 h2)
  · have ed := runs_det q0 h2
    subst ed
    rw [f0] at f1
    cases f1
    rw [e0] at e1
    exact absurd e1 hne
theorem live_at {tm : List SV} {k : Nat} {v : SV} (h : live (tm.getD k .undef) = some v) (hv : v ≠ .undef) : tm[k]? = some v := by
  have e : tm.getD k .undef = v := by
    unfold live at h
    split at h
    · cases h
    · exact Option.some.inj h
  rw [List.getD_eq_getElem?_getD] at e
  cases hk : tm[k]? with
  | none => rw [hk] at e; exact absurd e.symm hv
  | some x => rw [hk] at e; rw [show x = v from e]
/-- Any value may be taken as known less well, in any start. -/
theorem rel_any {C : Cf} {c : SV} {v : Value} (h : RelS C c v) : ∃ c' : SV, (c.one = true → c'.one = true) ∧ ∀ D : Cf, RelS D c' v := by
  have pv : ∀ {w : World} {S : Nat → Nat → Prop} {p : PV} {v : Value}, RelP w S p v → ∃ p' : PV, ∀ D : Cf, RelS D (.pv p') v := by
    intro w S p v h
    cases h with
    | bool b => exact ⟨.bool b, fun D => .pv _ _ (.bool b)⟩
    | int k n => exact ⟨.int k n, fun D => .pv _ _ (.int k n)⟩
    | str l => exact ⟨.str l, fun D => .pv _ _ (.str l)⟩
    | nilSlice => exact ⟨.nilSlice, fun D => .pv _ _ .nilSlice⟩
    | empS a cap => exact ⟨.empS, fun D => .pv _ _ (.empS a cap)⟩
    | hdr a n cap => exact ⟨.hdr n, fun D => .pv _ _ (.hdr a n cap)⟩
    | slice s es b off cap u hcap hs hS hc hr => exact ⟨.hdr es.length, fun D => .pv _ _ (.hdr _ _ _)⟩
    | nilPtr => exact ⟨.nilPtr, fun D => .pv _ _ .nilPtr⟩
    | nilFunc => exact ⟨.nilFunc, fun D => .pv _ _ .nilFunc⟩
    | fn f => exact ⟨.fn f, fun D => .pv _ _ (.fn f)⟩
    | nilIface => exact ⟨.nilIface, fun D => .pv _ _ .nilIface⟩
    | iface t p v h => exact ⟨.opq, fun D => .pv _ _ (.opq t v)⟩
    | opq t v => exact ⟨.opq, fun D => .pv _ _ (.opq t v)⟩
  have many : ∀ (cs : List SV) (us : List Value), us.length = cs.length → (∀ (j : Nat) (c : SV) (u : Value), cs[j]? = some c → us[j]? = some u → ∃ c' : SV, (c.one = true → c'.one = true) ∧ ∀ D : Cf, RelS D c' u) →
      ∃ cs' : List SV, us.length = cs'.length ∧ (∀ D : Cf, ∀ (j : Nat) (c : SV) (u : Value), cs'[j]? = some c → us[j]? = some u → RelS D c u) ∧ ((∀ (j : Nat) (c : SV), cs[j]? = some c → c.one = true) → ∀ (j : Nat) (c : SV), cs'[j]? = some c → c.one = true) := by
    intro cs
    induction cs with
    | nil =>
      intro us hl _
      have : us = [] := List.length_eq_zero_iff.1 hl
      subst this
      exact ⟨[], rfl, fun D j c u h => by simp at h, fun _ j c h => by simp at h⟩
    | cons c cs ih =>
      intro us hl hr
      cases us with
      | nil => simp at hl
      | cons u us =>
        obtain ⟨c', h1, h2⟩ := hr 0 c u rfl rfl
        obtain ⟨cs', i1, i2, i3⟩ := ih us (by simpa using hl) (fun j c u hj hu => hr (j + 1) c u (by simpa using hj) (by simpa using hu))
        refine ⟨c' :: cs', by simp [i1], fun D j x y hx hy => ?_, fun ho j x hx => ?_⟩
        · cases j with
          | zero => simp at hx hy; subst hx hy; exact h2 D
          | succ j => exact i2 D j x y (by simpa using hx) (by simpa using hy)
        · cases j with
          | zero => simp at hx; subst hx; exact h1 (ho 0 c rfl)
          | succ j => exact i3 (fun j c hj => ho (j + 1) c (by simpa using hj)) j x (by simpa using hx)
  induction h with
  | pv p v h =>
    obtain ⟨p', h'⟩ := pv h
    exact ⟨.pv p', fun _ => rfl, h'⟩
  | own k v s es vc e g val hH hG hv h hcur =>
    obtain ⟨p', h'⟩ := pv h
    exact ⟨.pv p', fun _ => rfl, h'⟩
  | tight s es b off h =>
    obtain ⟨p', h'⟩ := pv h
    exact ⟨.pv p', fun _ => rfl, h'⟩
  | ptr k off cs g hH hG => exact ⟨.cptr [], fun _ => rfl, fun D => .cptr [] _ _ (fun _ => .bool false) (fun j p h => by simp at h) (fun j p h => by simp at h) (fun j p h => by simp at h)⟩
  | cptr cs b off u hS hc hr => exact ⟨.cptr [], fun _ => rfl, fun D => .cptr [] _ _ (fun _ => .bool false) (fun j p h => by simp at h) (fun j p h => by simp at h) (fun j p h => by simp at h)⟩
  | cadr cs b off u hS hc hr => exact ⟨.cptr [], fun _ => rfl, fun D => .cptr [] _ _ (fun _ => .bool false) (fun j p h => by simp at h) (fun j p h => by simp at h) (fun j p h => by simp at h)⟩
  | bsl k off len st cap cs g hH hG hcap => exact ⟨.pv (.hdr len), fun _ => rfl, fun D => .pv _ _ (.hdr _ _ _)⟩
  | agg cs us hl h1 h ih =>
    obtain ⟨cs', i1, i2, i3⟩ := many cs us hl ih
    exact ⟨.agg cs', fun ho => by simp [SV.one] at ho, fun D => .agg cs' us i1 (i3 h1) (i2 D)⟩
  | tuple cs us hl h ih =>
    obtain ⟨cs', i1, i2, i3⟩ := many cs us hl ih
    exact ⟨.tuple cs', fun ho => by simp [SV.one] at ho, fun D => .tuple cs' us i1 (i2 D)⟩
  | clo f cs us hl h ih =>
    obtain ⟨cs', i1, i2, i3⟩ := many cs us hl ih
    exact ⟨.clo f cs', fun _ => rfl, fun D => .clo f cs' us i1 (i2 D)⟩
/-- The slots, known less well, in another start. -/
theorem relL_any {C : Cf} {tm : List SV} {vs : List Value} (h : RelL C tm vs) : ∃ tm' : List SV, tm'.length = tm.length ∧ ∀ D : Cf, RelL D tm' vs := by
  obtain ⟨hl, hr⟩ := h
  induction tm generalizing vs with
  | nil =>
    have : vs = [] := List.length_eq_zero_iff.1 hl
    subst this
    exact ⟨[], rfl, fun D => RelL.nil D⟩
  | cons c tm ih =>
    cases vs with
    | nil => simp at hl
    | cons v vs =>
      obtain ⟨c', -, h1⟩ := rel_any (hr 0 c v rfl rfl)
      obtain ⟨tm', i1, i2⟩ := ih (by simpa using hl) (fun j c u hj hu => hr (j + 1) c u (by simpa using hj) (by simpa using hu))
      exact ⟨c' :: tm', by simp [i1], fun D => RelL.cons (h1 D) (i2 D)⟩
theorem relL_set {C : Cf} {tm : List SV} {vs : List Value} (h : RelL C tm vs) {i : Nat} {c : SV} {v : Value} (hv : vs[i]? = some v) (hc : RelS C c v) : RelL C (tm.set i c) vs := by
  refine ⟨by simpa using h.1, fun j x u hx hu => ?_⟩
  rw [List.getElem?_set] at hx
  split at hx
  · rename_i e
    subst e
    split at hx
    · cases hx
      rw [hv] at hu; cases hu
      exact hc
    · cases hx
  · exact h.2 j x u hx hu
end Go.Proofs.YtkckpmcpmngiiaaGreatDoor
