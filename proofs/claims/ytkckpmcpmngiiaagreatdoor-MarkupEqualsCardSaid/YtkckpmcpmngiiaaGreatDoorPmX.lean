/- The interpreter's code as a machine with a stack, without fuel; what is known may be forgotten. -/
import Derived.Test.YtkckpmcpmngiiaaGreatDoorPmLib
set_option linter.unusedSimpArgs false
set_option linter.unusedVariables false
set_option linter.unusedSectionVars false
namespace Go.Pm
open Go.RowKit

/-- A forgotten slot. -/
abbrev SV.J : SV := .fresh 0 0 []
def isJ : SV → Bool
  | .fresh _ _ _ => true
  | _ => false

/-- The first state knows less. -/
structure Le (s s' : St) : Prop where
  H : s.H = s'.H
  len : s.tm.length = s'.tm.length
  get : ∀ (j : Nat) (a b : SV), s.tm[j]? = some a → s'.tm[j]? = some b → isJ a = true ∨ a = b

theorem Le.refl (s : St) : Le s s := ⟨rfl, rfl, fun j a b h h' => .inr (by rw [h] at h'; exact Option.some.inj h')⟩
theorem Le.trans {a b c : St} (h : Le a b) (k : Le b c) : Le a c := by
  refine ⟨h.H.trans k.H, h.len.trans k.len, fun j x z hx hz => ?_⟩
  have hj : j < b.tm.length := by rw [← h.len]; exact (List.getElem?_eq_some_iff.1 hx).1
  have hb : b.tm[j]? = some b.tm[j] := by simp [hj]
  rcases h.get j x _ hx hb with e | e
  · exact .inl e
  · rcases k.get j _ z hb hz with e' | e'
    · exact .inl (e ▸ e')
    · exact .inr (e.trans e')

/-- Slot by slot. -/
def leL : List SV → List SV → Prop
  | [], [] => True
  | a :: r, b :: s => (isJ a = true ∨ a = b) ∧ leL r s
  | _, _ => False
theorem leL_len : ∀ {a b : List SV}, leL a b → a.length = b.length
  | [], [], _ => rfl
  | [], _ :: _, h => h.elim
  | _ :: _, [], h => h.elim
  | a :: r, b :: s, h => by simp [leL_len h.2]
theorem leL_get : ∀ {a b : List SV}, leL a b → ∀ (j : Nat) (x y : SV), a[j]? = some x → b[j]? = some y → isJ x = true ∨ x = y
  | [], [], _, j, x, y, h, _ => by simp at h
  | [], _ :: _, h, _, _, _, _, _ => h.elim
  | _ :: _, [], h, _, _, _, _, _ => h.elim
  | a :: r, b :: s, h, 0, x, y, hx, hy => by simp at hx hy; subst hx; subst hy; exact h.1
  | a :: r, b :: s, h, j + 1, x, y, hx, hy => leL_get h.2 j x y (by simpa using hx) (by simpa using hy)
theorem le_of {a b : List SV} {H : List Blk} (h : leL a b) : Le ⟨a, H⟩ ⟨b, H⟩ := ⟨rfl, leL_len h, leL_get h⟩
theorem leJ {b : SV} : isJ .J = true ∨ SV.J = b := .inl rfl
theorem leE {b : SV} : isJ b = true ∨ b = b := .inr rfl

def LeR (ρ ρ' : Operand → Option SV) : Prop := ∀ x v, ρ x = some v → ρ' x = some v

theorem live_eq {v s : SV} (h : live v = some s) : v = s ∧ isJ v = false := by
  unfold live at h; split at h
  · cases h
  · rename_i hn; cases h; refine ⟨rfl, ?_⟩
    unfold isJ; split
    · exact absurd rfl (hn _ _ _)
    · rfl

theorem getD_le {s s' : St} (h : Le s s') {t : Nat} {v : SV} (hv : live (s.tm.getD t .undef) = some v) : live (s'.tm.getD t .undef) = some v := by
  obtain ⟨e, hj⟩ := live_eq hv
  have : s'.tm.getD t .undef = s.tm.getD t .undef := by
    rw [List.getD_eq_getElem?_getD, List.getD_eq_getElem?_getD] at *
    cases ha : s.tm[t]? with
    | none =>
      have : s'.tm[t]? = none := by
        rw [List.getElem?_eq_none_iff] at ha ⊢; rw [← h.len]; exact ha
      rw [this]
    | some a =>
      have hlt : t < s'.tm.length := by rw [← h.len]; exact (List.getElem?_eq_some_iff.1 ha).1
      have hb : s'.tm[t]? = some s'.tm[t] := by simp [hlt]
      rw [hb]
      simp [ha] at hj
      rcases h.get t a _ ha hb with e' | e'
      · rw [e'] at hj; cases hj
      · simp [e']
  rw [this]; exact hv

theorem aval_le {s s' : St} (h : Le s s') : LeR (aval s.tm) (aval s'.tm) := by
  intro x v hx
  cases x with
  | tmp t => exact getD_le h hx
  | const c => exact hx
  | func f => exact hx
  | global g => exact hx

section
variable {Y : TypeId → Option Ty} {T : FuncId → Option Spec}

theorem avals_le {ρ ρ' : Operand → Option SV} (h : LeR ρ ρ') : ∀ {l : List Operand} {vs : List SV}, avals ρ l = some vs → avals ρ' l = some vs
  | [], _, e => e
  | x :: r, vs, e => by
    simp only [avals] at e ⊢
    split at e
    · rename_i v hv
      split at e
      · rename_i vs' hvs
        rw [h _ _ hv, avals_le h hvs]; exact e
      · cases e
    · cases e

theorem layAll_le {ρ ρ' : Operand → Option SV} (h : LeR ρ ρ') (pl : Nat → Option (Nat × Nat)) : ∀ (ps : List (Nat × Operand)) (cs r : List SV), layAll pl ρ cs ps = some r → layAll pl ρ' cs ps = some r
  | [], _, _, e => e
  | (i, o) :: ps, cs, r, e => by
    simp only [layAll] at e ⊢
    split at e
    · rename_i off size x hp hx
      rw [hp, h _ _ hx]
      simp only []
      split at e
      · rename_i cs' hl
        (try rw [hl]); exact layAll_le h pl ps cs' r e
      · cases e
    · cases e

theorem aBuild_le {ρ ρ' : Operand → Option SV} (h : LeR ρ ρ') {t : TypeId} {ps : List (Nat × Operand)} {r : SV} (e : aBuild Y t ρ ps = some r) : aBuild Y t ρ' ps = some r := by
  unfold aBuild at e ⊢
  split at e
  · rename_i z fl hy
    simp only [Option.map_eq_some_iff] at e ⊢
    obtain ⟨a, ha, rfl⟩ := e
    exact ⟨a, layAll_le h _ _ _ _ ha, rfl⟩
  · rename_i n el sz by_ z fl hy
    (try simp only [])
    split at e
    · rename_i y hye
      (try rw [hye])
      simp only [Option.map_eq_some_iff] at e ⊢
      obtain ⟨a, ha, rfl⟩ := e
      exact ⟨a, layAll_le h _ _ _ _ ha, rfl⟩
    · cases e
  · cases e

theorem aBuildSlice_le {ρ ρ' : Operand → Option SV} (h : LeR ρ ρ') {t n : Nat} {ps : List (Nat × Operand)} {r : SV} (e : aBuildSlice Y t n ρ ps = some r) : aBuildSlice Y t n ρ' ps = some r := by
  unfold aBuildSlice at e ⊢
  split at e
  · rename_i el hk
    split at e
    · rename_i y hy
      (try simp only [])
      split at e
      · rename_i hc
        rw [if_pos hc]
        split at e
        · rename_i cs hl
          rw [layAll_le h _ _ _ _ hl]
          exact e
        · cases e
      · cases e
    · cases e
  · cases e

theorem aBound_le {ρ ρ' : Operand → Option SV} (h : LeR ρ ρ') {d : Nat} {o : Option Operand} {n : Nat} (e : aBound d ρ o = some n) : aBound d ρ' o = some n := by
  unfold aBound at e ⊢
  split at e
  · exact e
  · rename_i x
    split at e
    · rename_i k n' hx
      rw [h _ _ hx]; exact e
    · cases e

theorem aSub_le {ρ ρ' : Operand → Option SV} (h : LeR ρ ρ') {e : TypeId} {s : Nat} {es : List (List PV)} {lo hi : Option Operand} {d d' : Nat} {r : SV} (q : aSub Y e s es (aBound d ρ lo) (aBound d' ρ hi) = some r) :
    aSub Y e s es (aBound d ρ' lo) (aBound d' ρ' hi) = some r := by
  unfold aSub at q
  split at q
  · rename_i y a b hy ha hb
    unfold aSub
    rw [aBound_le h ha, aBound_le h hb, hy]; exact q
  · cases q

theorem aFull_le {ρ ρ' : Operand → Option SV} (h : LeR ρ ρ') {e : TypeId} {s : Nat} {es : List (List PV)} {hi mx : Option Operand} {r : SV} (q : aFull Y e s es (aBound 0 ρ hi) (aBound 0 ρ mx) = some r) :
    aFull Y e s es (aBound 0 ρ' hi) (aBound 0 ρ' mx) = some r := by
  unfold aFull at q
  split at q
  · rename_i y a b hy ha hb
    unfold aFull
    rw [aBound_le h ha, aBound_le h hb, hy]; exact q
  · cases q

theorem aSlice_le {ρ ρ' : Operand → Option SV} (h : LeR ρ ρ') {t : TypeId} {x : SV} {lo hi mx : Option Operand} {r : SV} (e : aSlice Y t x ρ lo hi mx = some r) : aSlice Y t x ρ' lo hi mx = some r := by
  unfold aSlice at e ⊢
  split at e
  · rename_i hm
    rw [if_pos hm]
    unfold aSlice3 at e ⊢
    split at e
    · exact aFull_le h e
    · exact aFull_le h e
    · exact aFull_le h e
    · cases e
  · rename_i hm
    rw [if_neg hm]
    split at e
    · split at e
      · rename_i a b ha hb
        simp only [aBound_le h ha, aBound_le h hb]; exact e
      · cases e
    · rename_i el _
      (try simp only [])
      split at e
      · rename_i y hy ha hb
        simp only [aBound_le h ha, aBound_le h hb, hy]; exact e
      · cases e
    · exact aSub_le h e
    · exact aSub_le h e
    · exact aSub_le h e
    · (try simp only [])
      split at e
      · rename_i y a b hy ha hb
        simp only [aBound_le h ha, aBound_le h hb, hy]; exact e
      · cases e
    · (try simp only [])
      split at e
      · rename_i y b hy ha hb
        simp only [aBound_le h ha, aBound_le h hb, hy]; exact e
      · cases e
    · cases e

theorem map_le {α β : Type} {x y : Option α} {f : α → β} {r : β} (h : ∀ v, x = some v → y = some v) (e : x.map f = some r) : y.map f = some r := by
  cases x with
  | none => cases e
  | some v => rw [h v rfl]; exact e

theorem aMakeFunc_le {ρ ρ' : Operand → Option SV} (h : LeR ρ ρ') {fn : Fn} {first caps : List Operand} {r : SV} (e : aMakeFunc ρ fn first caps = some r) : aMakeFunc ρ' fn first caps = some r := by
  unfold aMakeFunc at e ⊢
  split at e
  · rename_i f hc; rw [avals_le h hc]; exact e
  · rename_i f vs hne hc
    rw [avals_le h hc]
    split
    · rename_i hcc; simp_all
    · simp_all
    · simp_all
  · cases e

theorem aCallOp_le {ρ ρ' : Operand → Option SV} (h : LeR ρ ρ') {H : List Blk} {c : Call} {r : SV × List Blk} (e : aCallOp Y T H ρ c = some r) : aCallOp Y T H ρ' c = some r := by
  unfold aCallOp at e ⊢
  split at e
  · rename_i b vs hc hv
    rw [hc, avals_le h hv]; exact e
  · rename_i f vs hc hv
    rw [hc, avals_le h hv]
    simp only []
    split at e
    · rename_i v hf
      rw [h _ _ hf]; exact e
    · cases e
  · cases e

theorem aop_le {ρ ρ' : Operand → Option SV} (h : LeR ρ ρ') {op : Op} {H : List Blk} {r : SV × List Blk} (e : aop Y T H ρ op = some r) : aop Y T H ρ' op = some r := by
  cases op <;> simp only [aop] at e ⊢ <;> try (cases e; done)
  case move x => exact map_le (h x) e
  case assign x => exact map_le (h x) e
  case pick c a b =>
    split at e
    · rename_i t hc
      rw [h _ _ hc]
      simp only []
      split at e
      · rename_i ht; rw [if_pos ht]; exact map_le (h a) e
      · rename_i ht; rw [if_neg ht]; exact map_le (h b) e
    · cases e
  case alloc t => exact e
  case build t ps => exact map_le (fun v hv => aBuild_le h hv) e
  case makeSlice t x y =>
    split at e
    · rename_i hx hy
      rw [h _ _ hx, h _ _ hy]; exact e
    · cases e
  case buildSlice t n ps => exact map_le (fun v hv => aBuildSlice_le h hv) e
  case makeFunc fn first caps => exact map_le (fun v hv => aMakeFunc_le h hv) e
  case call c => exact aCallOp_le h e
  case slice t x lo hi mx =>
    split at e
    · rename_i u hx
      rw [h _ _ hx]
      exact map_le (fun v hv => aSlice_le h hv) e
    · cases e
  case makeInterface t x =>
    split at e
    · rename_i u k hx hk
      rw [h _ _ hx, hk]; exact e
    · cases e
  all_goals
    first
      | (split at e
         · rename_i h1
           (try rw [h _ _ h1])
           exact e
         · cases e)
      | (split at e
         · rename_i h1 h2
           (try rw [h _ _ h1])
           (try rw [h _ _ h2])
           exact e
         · cases e)
      | (split at e
         · rename_i h1
           (try rw [h _ _ h1])
           exact e
         · rename_i h1
           (try rw [h _ _ h1])
           exact e
         · cases e)

theorem aWanted_le {s s' : St} (h : Le s s') {ops : List Oper} {o : Oper} {b : Bool} (e : aWanted ops s.tm o = some b) : aWanted ops s'.tm o = some b := by
  unfold aWanted at e ⊢
  cases hg : o.guard with
  | none => rw [hg] at e; exact e
  | some g =>
    obtain ⟨j, want⟩ := g
    simp only [hg] at e ⊢
    cases hd : (ops[j]?).bind (·.dst) with
    | none => rw [hd] at e; exact e
    | some d =>
      simp only [hd] at e ⊢
      cases ha : s.tm[d]? with
      | none =>
        have : s'.tm[d]? = none := by
          rw [List.getElem?_eq_none_iff] at ha ⊢; rw [← h.len]; exact ha
        rw [this]; rw [ha] at e; exact e
      | some a =>
        have hlt : d < s'.tm.length := by rw [← h.len]; exact (List.getElem?_eq_some_iff.1 ha).1
        have hb : s'.tm[d]? = some s'.tm[d] := by simp [hlt]
        rw [hb]
        rcases h.get d a _ ha hb with e' | e'
        · rw [ha] at e
          cases a <;> simp [isJ] at e'
          cases e
        · rw [← e', ← ha]; exact e

theorem put_le {s s' : St} (h : Le s s') (dst : Option Tmp) (v : SV) (H : List Blk) : Le ⟨put s.tm dst v, H⟩ ⟨put s'.tm dst v, H⟩ := by
  cases dst with
  | none => exact ⟨rfl, h.len, h.get⟩
  | some d =>
    refine ⟨rfl, by simp [put, h.len], fun j a b ha hb => ?_⟩
    simp only [put, List.getElem?_set] at ha hb
    split at ha
    · rename_i e
      rw [if_pos e] at hb
      split at ha
      · rename_i hl
        split at hb
        · cases ha; cases hb; exact .inr rfl
        · cases hb
      · cases ha
    · rename_i e
      rw [if_neg e] at hb
      exact h.get j a b ha hb

theorem newCells_le {ρ ρ' : Operand → Option SV} (h : LeR ρ ρ') {op : Op} {cs : Option TypeId × List SV} (e : newCells Y ρ op = some cs) : newCells Y ρ' op = some cs := by
  cases op <;> simp only [newCells] at e ⊢ <;> try (cases e; done)
  · exact e
  · split at e
    · rename_i v hv; rw [h _ _ hv]; exact e
    · cases e

theorem memOk_le {ρ ρ' : Operand → Option SV} (h : LeR ρ ρ') {op : Op} {H : List Blk} {b : Nat} {r r' : SV × List Blk} (hm : (isLoad op || isStore op) = true) (e' : aop Y T H ρ' op = some r') (e : aop Y T H ρ op = some r) (hk : memOk b ρ op = true) : memOk b ρ' op = true := by
  cases op <;> simp [isLoad, isStore] at hm <;> simp only [memOk, aop] at *
  case load t a =>
    cases ha : ρ a with
    | none => rw [ha] at e; cases e
    | some u => rw [h _ _ ha]; rw [ha] at hk; exact hk
  case store t a x =>
    cases ha : ρ a with
    | none => rw [ha] at e; cases e
    | some u => rw [h _ _ ha]; rw [ha] at hk; exact hk

theorem watchC_le {st : Bool} {w n : Nat} {ρ ρ' : Operand → Option SV} (h : LeR ρ ρ') {H : List Blk} {op : Op} {r : SV × List Blk} (e : aop Y T H ρ op = some r) : watchC st w n H ρ' op (some r) = watchC st w n H ρ op (some r) := by
  have key : ∀ a, addrOf op = some a → ∃ u, ρ a = some u ∧ ρ' a = some u := fun a ha => by
    cases op <;> simp only [addrOf] at ha <;> first | (cases ha; done) | skip
    case load t x =>
      cases ha
      simp only [aop] at e
      split at e
      · rename_i u hu; exact ⟨u, hu, h _ _ hu⟩
      · cases e
    case store t x y =>
      cases ha
      simp only [aop] at e
      split at e
      · rename_i u v hu hv; exact ⟨u, hu, h _ _ hu⟩
      · cases e
  have : (addrOf op).bind ρ' = (addrOf op).bind ρ := by
    cases ha : addrOf op with
    | none => rfl
    | some a => obtain ⟨u, h1, h2⟩ := key a ha; simp [h1, h2]
  unfold watchC; rw [this]

theorem aopP_le {pl : PL} {d : Option Tmp} {ρ ρ' : Operand → Option SV} (h : LeR ρ ρ') {H : List Blk} {op : Op} {r : SV × List Blk} (e : aopP Y T pl d H ρ op = some r) : aopP Y T pl d H ρ' op = some r := by
  cases hw : pl.wm with
  | some q =>
    obtain ⟨w, n⟩ := q
    rw [aopP_watch hw] at e ⊢
    have e1 := watchC_sub e
    rw [aop_le h e1]
    rw [e1] at e
    rw [watchC_le h e1]; exact e
  | none =>
  unfold aopP at e ⊢
  rw [hw] at e ⊢
  simp only [] at e ⊢
  cases hn : isNew op with
  | false =>
    rw [hn] at e
    simp only [cond_false] at e ⊢
    cases hm : isLoad op || isStore op with
    | false => rw [hm] at e; exact aop_le h e
    | true =>
      rw [hm] at e
      simp only [cond_true] at e ⊢
      cases hp : pl none with
      | none => rw [hp] at e; exact aop_le h e
      | some b =>
        rw [hp] at e
        simp only [memC] at e ⊢
        cases hk : memOk b ρ op with
        | false => rw [hk] at e; cases e
        | true =>
          rw [hk] at e
          rw [memOk_le h hm (aop_le h e) e hk]
          exact aop_le h e
  | true =>
    rw [hn] at e
    simp only [cond_true] at e ⊢
    split at e
    · split at e
      · rename_i cs hcs; rw [newCells_le h hcs]; exact e
      · cases e
    · exact aop_le h e

theorem aops_le (pl : PL) (full : List Oper) : ∀ (r : List Oper) {s s' t : St}, Le s s' → aops Y T pl full r s = some t → ∃ t', aops Y T pl full r s' = some t' ∧ Le t t'
  | [], s, s', t, h, e => by simp [aops] at e; subst e; exact ⟨s', rfl, h⟩
  | o :: r, s, s', t, h, e => by
    simp only [aops] at e ⊢
    split at e
    · rename_i hw
      rw [aWanted_le h hw]
      simp only []
      split at e
      · rename_i v H hop
        rw [h.H] at hop
        rw [aopP_le (aval_le h) hop]
        exact aops_le pl full r (put_le h o.dst v H) e
      · cases e
    · rename_i hw
      rw [aWanted_le h hw]
      simp only []
      rw [← h.H]
      exact aops_le pl full r (put_le h o.dst .undef s.H) e
    · cases e

theorem aregN_le {ops : List Oper} {d : Bool} {s s' t : St} (h : Le s s') (e : aregN Y T ops d s = some t) : ∃ t', aregN Y T ops d s' = some t' ∧ Le t t' := by
  unfold aregN at e ⊢
  cases hh : held ops d with
  | false =>
    rw [hh] at e
    simp only [cond_false] at e ⊢
    cases hw : watching ops d with
    | false => rw [hw] at e; exact aops_le _ _ _ h e
    | true =>
      rw [hw] at e
      simp only [cond_true] at e ⊢
      cases hk : aval s.tm (.tmp (watchTmp ops)) with
      | none => rw [hk] at e; cases e
      | some u =>
        rw [aval_le h _ _ hk]
        rw [hk] at e
        unfold aregW at e ⊢
        split at e
        · rename_i w hwk
          rw [← h.H]
          exact aops_le _ _ _ h e
        · cases e
  | true =>
    rw [hh] at e
    simp only [cond_true] at e ⊢
    rw [← h.H]
    exact aops_le _ _ _ (s := ⟨s.tm, keep s.H (newDsts ops)⟩) (s' := ⟨s'.tm, keep s.H (newDsts ops)⟩) ⟨rfl, h.len, h.get⟩ e

theorem atail_le {c : Cus} {s s' t : St} (h : Le s s') (e : atail Y c s = some t) : ∃ t', atail Y c s' = some t' ∧ Le t t' := by
  unfold atail at e ⊢
  split at e
  · rename_i e0 x vs n k o st zs hk hxs hv hix hbx hz
    rw [aval_le h _ _ hxs, aval_le h _ _ hv, aval_le h _ _ hix, aval_le h _ _ hbx, aval_le h _ _ hz, hk]
    simp only []
    split at e
    · rename_i xs ps hxe hps
      split at e
      · rename_i hc
        rw [if_pos (by rw [← h.len]; exact hc)]
        unfold atailR at e ⊢
        rw [← h.H]
        split at e
        · rename_i r H1 happ
          try (rw [happ])
          try (simp only [])
          split at e
          · rename_i hh hfa
            try (rw [hfa])
            try (simp only [])
            split at e
            · rename_i H2 hsto
              try (rw [hsto])
              cases e
              refine ⟨_, rfl, ?_⟩
              have h1 := put_le h (some c.r) r H2
              have h2 := put_le h1 (some c.p) (.cptr []) H2
              have h3 := put_le h2 (some c.q) (.ptr k o) H2
              exact put_le h3 (some c.h) hh H2
            · cases e
          · cases e
        · cases e
      · cases e
    · cases e
  · cases e
theorem areg_le {ops : List Oper} {d : Bool} {s s' t : St} (h : Le s s') (e : areg Y T ops d s = some t) : ∃ t', areg Y T ops d s' = some t' ∧ Le t t' := by
  unfold areg at e ⊢
  cases hc : cusD ops d with
  | none => rw [hc] at e; exact aregN_le h e
  | some c =>
    rw [hc] at e
    simp only [] at e ⊢
    split at e
    · rename_i s1 h1
      obtain ⟨s2, h2, h3⟩ := aregN_le h h1
      rw [h2]
      exact atail_le h3 e
    · cases e

inductive LeO : Out → Out → Prop
  | norm {s s' : St} : Le s s' → LeO (.norm s) (.norm s')
  | exit {id : Nat} {s s' : St} : Le s s' → LeO (.exit id s) (.exit id s')
  | ret {s s' : St} : Le s s' → LeO (.ret s) (.ret s')

theorem acode_le : ∀ (n : Nat) (c : Code) {s s' : St} {o : Out}, Le s s' → acode Y T n c s = some o → ∃ o', acode Y T n c s' = some o' ∧ LeO o o'
  | 0, _, _, _, _, _, e => by simp [acode] at e
  | n + 1, c, s, s', o, h, e => by
    cases c with
    | skip => simp [acode] at e ⊢; subst e; exact .norm h
    | exit id => simp [acode] at e ⊢; subst e; exact .exit h
    | ret => simp [acode] at e ⊢; subst e; exact .ret h
    | label l => simp [acode] at e ⊢; subst e; exact .norm h
    | scope b => simp only [acode] at e ⊢; exact acode_le n b h e
    | region id ops d =>
      simp only [acode] at e ⊢
      split at e
      · rename_i t ht
        cases e
        obtain ⟨t', ht', hl⟩ := areg_le h ht
        rw [ht']; exact ⟨_, rfl, .norm hl⟩
      · cases e
    | seq a b =>
      simp only [acode] at e ⊢
      split at e
      · rename_i s1 h1
        obtain ⟨o1, h2, hl⟩ := acode_le n a h h1
        cases hl with | norm hl =>
        rw [h2]; exact acode_le n b hl e
      · rename_i hne
        obtain ⟨o1, h2, hl⟩ := acode_le n a h e
        rw [h2]
        cases hl with
        | norm hl => exact absurd e (hne _)
        | exit hl => exact ⟨_, rfl, .exit hl⟩
        | ret hl => exact ⟨_, rfl, .ret hl⟩
    | cond x a b =>
      simp only [acode] at e ⊢
      split at e
      · rename_i t ht
        rw [aval_le h _ _ ht]
        simp only []
        split at e
        · rename_i h1; rw [if_pos h1]; exact acode_le n a h e
        · rename_i h1; rw [if_neg h1]; exact acode_le n b h e
      · cases e
    | block id b =>
      simp only [acode] at e ⊢
      split at e
      · rename_i i s1 h1
        obtain ⟨o1, h2, hl⟩ := acode_le n b h h1
        cases hl with | exit hl =>
        rw [h2]
        simp only []
        split at e
        · rename_i hi; cases e; rw [if_pos hi]; exact ⟨_, rfl, .norm hl⟩
        · rename_i hi; cases e; rw [if_neg hi]; exact ⟨_, rfl, .exit hl⟩
      · rename_i hne
        obtain ⟨o1, h2, hl⟩ := acode_le n b h e
        rw [h2]
        cases hl with
        | norm hl => exact ⟨_, rfl, .norm hl⟩
        | exit hl => exact absurd e (hne _ _)
        | ret hl => exact ⟨_, rfl, .ret hl⟩
    | loop b =>
      simp only [acode] at e ⊢
      split at e
      · rename_i s1 h1
        obtain ⟨o1, h2, hl⟩ := acode_le n b h h1
        cases hl with | norm hl =>
        rw [h2]; exact acode_le n (.loop b) hl e
      · rename_i hne
        obtain ⟨o1, h2, hl⟩ := acode_le n b h e
        rw [h2]
        cases hl with
        | norm hl => exact absurd e (hne _)
        | exit hl => exact ⟨_, rfl, .exit hl⟩
        | ret hl => exact ⟨_, rfl, .ret hl⟩
    | rangeFunc f ps asg body => simp [acode] at e
    | goto l => simp [acode] at e
    | refuse w => simp [acode] at e

theorem acode_more : ∀ (n : Nat) (c : Code) {s : St} {o : Out}, acode Y T n c s = some o → acode Y T (n + 1) c s = some o
  | 0, _, _, _, e => by simp [acode] at e
  | n + 1, c, s, o, e => by
    cases c with
    | skip => exact e
    | exit id => exact e
    | ret => exact e
    | label l => exact e
    | scope b => rw [acode] at e ⊢; exact acode_more n b e
    | region id ops d => exact e
    | seq a b =>
      rw [acode] at e ⊢
      split at e
      · rename_i s1 h1; rw [acode_more n a h1]; exact acode_more n b e
      · rename_i hne
        rw [acode_more n a e]
        cases o with
        | norm s1 => exact absurd e (hne _)
        | exit i s1 => rfl
        | ret s1 => rfl
    | cond x a b =>
      rw [acode] at e ⊢
      split at e
      · rename_i t ht
        (try simp only [])
        cases t
        · exact acode_more n b (by simpa using e)
        · exact acode_more n a (by simpa using e)
      · cases e
    | block id b =>
      rw [acode] at e ⊢
      split at e
      · rename_i i s1 h1; rw [acode_more n b h1]; exact e
      · rename_i hne
        rw [acode_more n b e]
        cases o with
        | norm s1 => rfl
        | exit i s1 => exact absurd e (hne _ _)
        | ret s1 => rfl
    | loop b =>
      rw [acode] at e ⊢
      split at e
      · rename_i s1 h1; rw [acode_more n b h1]; exact acode_more n (.loop b) e
      · rename_i hne
        rw [acode_more n b e]
        cases o with
        | norm s1 => exact absurd e (hne _)
        | exit i s1 => rfl
        | ret s1 => rfl
    | rangeFunc f ps asg body => simp [acode] at e
    | goto l => simp [acode] at e
    | refuse w => simp [acode] at e

theorem acode_up {n m : Nat} {c : Code} {s : St} {o : Out} (h : acode Y T n c s = some o) (hm : n ≤ m) : acode Y T m c s = some o := by
  induction m with
  | zero => have : n = 0 := by omega
            subst this; exact h
  | succ m ih =>
    by_cases e : n = m + 1
    · subst e; exact h
    · exact acode_more m c (ih (by omega))
end

section
variable (Y : TypeId → Option Ty) (T : FuncId → Option Spec)
/-- The code comes to o. -/
def Runs (c : Code) (s : St) (o : Out) : Prop := ∃ n, acode Y T n c s = some o
end

section
variable {Y : TypeId → Option Ty} {T : FuncId → Option Spec}
theorem runs_of (n : Nat) {c : Code} {s : St} {o : Out} (h : acode Y T n c s = some o) : Runs Y T c s o := ⟨n, h⟩
theorem runs_det {c : Code} {s : St} {o o' : Out} (h : Runs Y T c s o) (h' : Runs Y T c s o') : o = o' := by
  obtain ⟨n, h⟩ := h
  obtain ⟨m, h'⟩ := h'
  have h1 := acode_up h (Nat.le_max_left n m)
  have h2 := acode_up h' (Nat.le_max_right n m)
  rw [h1] at h2; exact Option.some.inj h2

/-- Two codes, each in its state, come to the same. -/
def Eqv (Y : TypeId → Option Ty) (T : FuncId → Option Spec) (c : Code) (s : St) (c' : Code) (s' : St) : Prop := ∀ o, Runs Y T c s o ↔ Runs Y T c' s' o

def isNorm : Out → Bool
  | .norm _ => true
  | _ => false

theorem runs_seq {a b : Code} {s : St} {o : Out} : Runs Y T (.seq a b) s o ↔ (∃ s1, Runs Y T a s (.norm s1) ∧ Runs Y T b s1 o) ∨ (Runs Y T a s o ∧ isNorm o = false) := by
  constructor
  · rintro ⟨n, h⟩
    cases n with
    | zero => simp [acode] at h
    | succ n =>
      simp only [acode] at h
      split at h
      · rename_i s1 h1; exact .inl ⟨s1, ⟨n, h1⟩, ⟨n, h⟩⟩
      · rename_i hne
        refine .inr ⟨⟨n, h⟩, ?_⟩
        cases o with
        | norm s1 => exact absurd h (hne _)
        | exit i s1 => rfl
        | ret s1 => rfl
  · rintro (⟨s1, ⟨n, h1⟩, ⟨m, h2⟩⟩ | ⟨⟨n, h⟩, hn⟩)
    · refine ⟨max n m + 1, ?_⟩
      simp only [acode]
      rw [acode_up h1 (Nat.le_max_left n m)]
      exact acode_up h2 (Nat.le_max_right n m)
    · refine ⟨n + 1, ?_⟩
      simp only [acode]
      rw [h]
      cases o with
      | norm s1 => simp [isNorm] at hn
      | exit i s1 => rfl
      | ret s1 => rfl

theorem runs_block {id : Nat} {b : Code} {s : St} {o : Out} : Runs Y T (.block id b) s o ↔ ∃ o1, Runs Y T b s o1 ∧ inB id (some o1) = some o := by
  constructor
  · rintro ⟨n, h⟩
    cases n with
    | zero => simp [acode] at h
    | succ n =>
      rw [acode_block] at h
      cases h1 : acode Y T n b s with
      | none => rw [h1] at h; cases h
      | some o1 => rw [h1] at h; exact ⟨o1, ⟨n, h1⟩, h⟩
  · rintro ⟨o1, ⟨n, h1⟩, h⟩
    exact ⟨n + 1, by rw [acode_block, h1]; exact h⟩

theorem runs_scope {b : Code} {s : St} {o : Out} : Runs Y T (.scope b) s o ↔ Runs Y T b s o := by
  constructor
  · rintro ⟨n, h⟩
    cases n with
    | zero => simp [acode] at h
    | succ n => exact ⟨n, h⟩
  · rintro ⟨n, h⟩; exact ⟨n + 1, h⟩

theorem Eqv.seq {c c' b : Code} {s s' : St} (h : Eqv Y T c s c' s') : Eqv Y T (.seq c b) s (.seq c' b) s' := by
  intro o
  rw [runs_seq, runs_seq]
  simp only [h _]
theorem Eqv.block {c c' : Code} {s s' : St} {id : Nat} (h : Eqv Y T c s c' s') : Eqv Y T (.block id c) s (.block id c') s' := by
  intro o
  rw [runs_block, runs_block]
  simp only [h _]

/-- The stack. -/
inductive Fr where
  | seq (b : Code)
  | block (id : Nat)
  | loop (b : Code)

def plug : List Fr → Code → Code
  | [], c => c
  | .seq b :: F, c => plug F (.seq c b)
  | .block id :: F, c => plug F (.block id c)
  | .loop b :: F, c => plug F (.seq c (.loop b))

theorem Eqv.plug : ∀ (F : List Fr) {c c' : Code} {s s' : St}, Eqv Y T c s c' s' → Eqv Y T (Pm.plug F c) s (Pm.plug F c') s'
  | [], _, _, _, _, h => h
  | .seq b :: F, _, _, _, _, h => Eqv.plug F h.seq
  | .block id :: F, _, _, _, _, h => Eqv.plug F h.block
  | .loop b :: F, _, _, _, _, h => Eqv.plug F h.seq

theorem plug_dead : ∀ (F : List Fr) {c : Code} {s : St}, (∀ o, ¬ Runs Y T c s o) → ∀ o, ¬ Runs Y T (Pm.plug F c) s o
  | [], _, _, h => h
  | .seq b :: F, _, _, h => plug_dead F fun o ho => by
      rcases runs_seq.1 ho with ⟨s1, h1, _⟩ | ⟨h1, _⟩ <;> exact h _ h1
  | .block id :: F, _, _, h => plug_dead F fun o ho => by
      obtain ⟨o1, h1, _⟩ := runs_block.1 ho; exact h _ h1
  | .loop b :: F, _, _, h => plug_dead F fun o ho => by
      rcases runs_seq.1 ho with ⟨s1, h1, _⟩ | ⟨h1, _⟩ <;> exact h _ h1

/-- To be reckoned. -/
def ev {α : Type} (x : α) : α := x
theorem ev_eq {α : Type} (x : α) : ev x = x := rfl
/-- Two ways, by a test. -/
def Br (b : Bool) (A B : Prop) : Prop := (b = true → A) ∧ (b = false → B)
theorem Br_true {A B : Prop} : Br true A B ↔ A := by simp [Br]
theorem Br_false {A B : Prop} : Br false A B ↔ B := by simp [Br]
theorem Br_decide {p : Prop} [Decidable p] {A B : Prop} : Br (decide p) A B ↔ (p → A) ∧ (¬ p → B) := by simp [Br]
theorem Br_beq {α : Type} [BEq α] [LawfulBEq α] {a b : α} {A B : Prop} : Br (a == b) A B ↔ (a = b → A) ∧ (¬ a = b → B) := by simp [Br]
theorem Br_bne {α : Type} [BEq α] [LawfulBEq α] {a b : α} {A B : Prop} : Br (a != b) A B ↔ (a = b → B) ∧ (¬ a = b → A) := by
  simp only [Br, bne_iff_ne, ne_eq, bne_eq_false_iff_eq]; exact And.comm
theorem Br_not {b : Bool} {A B : Prop} : Br (!b) A B ↔ Br b B A := by cases b <;> simp [Br]
theorem Br_and {a b : Bool} {A B : Prop} : Br (a && b) A B ↔ Br a (Br b A B) B := by cases a <;> cases b <;> simp [Br]
theorem Br_or {a b : Bool} {A B : Prop} : Br (a || b) A B ↔ Br a A (Br b A B) := by cases a <;> cases b <;> simp [Br]
theorem Br_any {b : Bool} {A B : Prop} : Br b A B ↔ (b = true → A) ∧ (b = false → B) := Iff.rfl
theorem Br_split {b : Bool} {A B : Prop} (h : b = true → A) (h' : b = false → B) : Br b A B := ⟨h, h'⟩

/-- The machine comes to a result of which P holds. -/
def X (Y : TypeId → Option Ty) (T : FuncId → Option Spec) (rs : List ResultVar) (F : List Fr) (c : Code) (s : St) (P : SV × List Blk → Prop) : Prop :=
  ∃ o res, Runs Y T (plug F c) s o ∧ finish Y rs (some o) = some res ∧ P res

/-- The machine behind a region. -/
def XR (Y : TypeId → Option Ty) (T : FuncId → Option Spec) (rs : List ResultVar) (F : List Fr) (x : Option St) (P : SV × List Blk → Prop) : Prop := ∃ s, x = some s ∧ X Y T rs F .skip s P
/-- The machine at a test. -/
def XC (Y : TypeId → Option Ty) (T : FuncId → Option Spec) (rs : List ResultVar) (F : List Fr) (x : Option SV) (a b : Code) (s : St) (P : SV × List Blk → Prop) : Prop :=
  ∃ t, x = some (.pv (.bool t)) ∧ (if t then X Y T rs F a s P else X Y T rs F b s P)
/-- The results. -/
def XF (x : Option (List SV)) (H : List Blk) (P : SV × List Blk → Prop) : Prop := ∃ vs, x = some vs ∧ P (pack vs, H)

variable {rs : List ResultVar} {F : List Fr} {s : St} {P : SV × List Blk → Prop}

theorem X_eqv {c c' : Code} {s' : St} (h : Eqv Y T c s c' s') : X Y T rs F c s P ↔ X Y T rs F c' s' P := by
  unfold X
  simp only [Eqv.plug F h _]
theorem X_dead {c : Code} (h : ∀ o, ¬ Runs Y T c s o) : X Y T rs F c s P ↔ False := by
  unfold X
  refine ⟨fun ⟨o, _, h1, _⟩ => plug_dead F h o h1, False.elim⟩

theorem X_seq {a b : Code} : X Y T rs F (.seq a b) s P ↔ X Y T rs (.seq b :: F) a s P := Iff.rfl
theorem X_block {id : Nat} {b : Code} : X Y T rs F (.block id b) s P ↔ X Y T rs (.block id :: F) b s P := Iff.rfl
theorem X_scope {b : Code} : X Y T rs F (.scope b) s P ↔ X Y T rs F b s P := X_eqv fun o => runs_scope
theorem X_loop {b : Code} : X Y T rs F (.loop b) s P ↔ X Y T rs (.loop b :: F) b s P := by
  refine X_eqv (c := .loop b) (c' := .seq b (.loop b)) fun o => ?_
  constructor
  · rintro ⟨n, h⟩
    cases n with
    | zero => simp [acode] at h
    | succ n => exact ⟨n + 1, by rw [acode_loop] at h; rw [acode_seq]; cases h1 : acode Y T n b s with
        | none => rw [h1] at h; exact h
        | some o => rw [h1] at h; cases o <;> exact h⟩
  · rintro ⟨n, h⟩
    cases n with
    | zero => simp [acode] at h
    | succ n => exact ⟨n + 1, by rw [acode_seq] at h; rw [acode_loop]; cases h1 : acode Y T n b s with
        | none => rw [h1] at h; exact h
        | some o => rw [h1] at h; cases o <;> exact h⟩
theorem X_loop_of {b b' : Code} (h : b = b') (hx : X Y T rs (.loop b :: F) b' s P) : X Y T rs F (.loop b) s P := by
  subst h; exact X_loop.2 hx
theorem X_label {l : Nat} : X Y T rs F (.label l) s P ↔ X Y T rs F .skip s P := X_eqv fun o => ⟨fun ⟨n, h⟩ => by cases n with
    | zero => simp [acode] at h
    | succ n => exact ⟨n + 1, h⟩, fun ⟨n, h⟩ => by cases n with
    | zero => simp [acode] at h
    | succ n => exact ⟨n + 1, h⟩⟩

theorem runs_skip {o : Out} : Runs Y T .skip s o ↔ o = .norm s := by
  constructor
  · rintro ⟨n, h⟩
    cases n with
    | zero => simp [acode] at h
    | succ n => simp [acode] at h; exact h.symm
  · rintro rfl; exact ⟨1, rfl⟩
theorem runs_exit {id : Nat} {o : Out} : Runs Y T (.exit id) s o ↔ o = .exit id s := by
  constructor
  · rintro ⟨n, h⟩
    cases n with
    | zero => simp [acode] at h
    | succ n => simp [acode] at h; exact h.symm
  · rintro rfl; exact ⟨1, rfl⟩
theorem runs_ret {o : Out} : Runs Y T .ret s o ↔ o = .ret s := by
  constructor
  · rintro ⟨n, h⟩
    cases n with
    | zero => simp [acode] at h
    | succ n => simp [acode] at h; exact h.symm
  · rintro rfl; exact ⟨1, rfl⟩

theorem X_region {id : Nat} {ops : Array Oper} {d : Bool} : X Y T rs F (.region id ops d) s P ↔ XR Y T rs F (areg Y T ops.toList d s) P := by
  unfold XR
  cases h : areg Y T ops.toList d s with
  | none =>
    rw [X_dead]
    · simp
    · rintro o ⟨n, ho⟩
      cases n with
      | zero => simp [acode] at ho
      | succ n => simp [acode, h] at ho
  | some s' =>
    simp only [Option.some.injEq, exists_eq_left']
    refine X_eqv fun o => ?_
    rw [runs_skip]
    constructor
    · rintro ⟨n, ho⟩
      cases n with
      | zero => simp [acode] at ho
      | succ n => simp [acode, h] at ho; exact ho.symm
    · rintro rfl; exact ⟨1, by simp [acode, h]⟩

theorem X_cond {x : Operand} {a b : Code} : X Y T rs F (.cond x a b) s P ↔ XC Y T rs F (aval s.tm x) a b s P := by
  unfold XC
  have main : ∀ {t : Bool}, aval s.tm x = some (.pv (.bool t)) → Eqv Y T (.cond x a b) s (if t then a else b) s := by
    intro t ht o
    constructor
    · rintro ⟨n, h⟩
      cases n with
      | zero => simp [acode] at h
      | succ n => refine ⟨n, ?_⟩; simp only [acode, ht] at h; cases t <;> simpa using h
    · rintro ⟨n, h⟩
      refine ⟨n + 1, ?_⟩
      simp only [acode, ht]
      cases t <;> simpa using h
  by_cases h : ∃ t, aval s.tm x = some (.pv (.bool t))
  · obtain ⟨t, ht⟩ := h
    rw [X_eqv (main ht), ht]
    constructor
    · intro h; exact ⟨t, rfl, by cases t <;> simpa using h⟩
    · rintro ⟨t', e, h⟩; cases e; cases t <;> simpa using h
  · rw [X_dead]
    · refine ⟨False.elim, fun ⟨t, e, _⟩ => h ⟨t, e⟩⟩
    · rintro o ⟨n, ho⟩
      cases n with
      | zero => simp [acode] at ho
      | succ n =>
        simp only [acode] at ho
        split at ho
        · rename_i t ht; exact h ⟨t, ht⟩
        · cases ho

/-- What follows a statement that has come to its end. -/
theorem K_seq {b : Code} : X Y T rs (.seq b :: F) .skip s P ↔ X Y T rs F b s P := X_eqv (c := .seq .skip b) fun o => by
  rw [runs_seq]
  simp only [runs_skip]
  constructor
  · rintro (⟨s1, h1, h2⟩ | ⟨rfl, h⟩)
    · cases h1; exact h2
    · simp [isNorm] at h
  · intro h; exact .inl ⟨s, rfl, h⟩
theorem K_loop {b : Code} : X Y T rs (.loop b :: F) .skip s P ↔ X Y T rs F (.loop b) s P := K_seq (b := .loop b)
theorem K_block {id : Nat} : X Y T rs (.block id :: F) .skip s P ↔ X Y T rs F .skip s P := X_eqv (c := .block id .skip) fun o => by
  rw [runs_block]
  simp only [runs_skip]
  constructor
  · rintro ⟨o1, rfl, h⟩; simp at h; exact h.symm
  · rintro rfl; exact ⟨_, rfl, rfl⟩
theorem K_nil : X Y T rs [] .skip s P ↔ XF (aresults Y s rs) s.H P := by
  unfold X XF
  simp only [plug, runs_skip]
  constructor
  · rintro ⟨o, res, rfl, h, hp⟩
    rw [finish_norm] at h
    cases h1 : aresults Y s rs with
    | none => rw [h1] at h; simp at h
    | some vs => rw [h1] at h; simp at h; subst h; exact ⟨vs, rfl, hp⟩
  · rintro ⟨vs, h, hp⟩
    exact ⟨_, _, rfl, by rw [finish_norm, h]; rfl, hp⟩

/-- What follows a leave. -/
theorem E_seq {b : Code} {id : Nat} : X Y T rs (.seq b :: F) (.exit id) s P ↔ X Y T rs F (.exit id) s P := X_eqv (c := .seq (.exit id) b) fun o => by
  rw [runs_seq]
  simp only [runs_exit]
  constructor
  · rintro (⟨s1, h1, h2⟩ | ⟨rfl, h⟩)
    · cases h1
    · rfl
  · rintro rfl; exact .inr ⟨rfl, rfl⟩
theorem E_loop {b : Code} {id : Nat} : X Y T rs (.loop b :: F) (.exit id) s P ↔ X Y T rs F (.exit id) s P := E_seq (b := .loop b)
theorem E_block {id j : Nat} : X Y T rs (.block id :: F) (.exit j) s P ↔ if j = id then X Y T rs F .skip s P else X Y T rs F (.exit j) s P := by
  by_cases h : j = id
  · rw [if_pos h]
    refine X_eqv (c := .block id (.exit j)) fun o => ?_
    rw [runs_block]
    simp only [runs_exit, runs_skip]
    constructor
    · rintro ⟨o1, rfl, h1⟩; simp [h] at h1; exact h1.symm
    · rintro rfl; exact ⟨_, rfl, by simp [h]⟩
  · rw [if_neg h]
    refine X_eqv (c := .block id (.exit j)) fun o => ?_
    rw [runs_block]
    simp only [runs_exit]
    constructor
    · rintro ⟨o1, rfl, h1⟩; simp [h] at h1; exact h1.symm
    · rintro rfl; exact ⟨_, rfl, by simp [h]⟩

/-- What follows a return. -/
theorem R_seq {b : Code} : X Y T rs (.seq b :: F) .ret s P ↔ X Y T rs F .ret s P := X_eqv (c := .seq .ret b) fun o => by
  rw [runs_seq]
  simp only [runs_ret]
  constructor
  · rintro (⟨s1, h1, h2⟩ | ⟨rfl, h⟩)
    · cases h1
    · rfl
  · rintro rfl; exact .inr ⟨rfl, rfl⟩
theorem R_loop {b : Code} : X Y T rs (.loop b :: F) .ret s P ↔ X Y T rs F .ret s P := R_seq (b := .loop b)
theorem R_block {id : Nat} : X Y T rs (.block id :: F) .ret s P ↔ X Y T rs F .ret s P := X_eqv (c := .block id .ret) fun o => by
  rw [runs_block]
  simp only [runs_ret]
  constructor
  · rintro ⟨o1, rfl, h⟩; simp at h; exact h.symm
  · rintro rfl; exact ⟨_, rfl, rfl⟩
theorem X_ret : X Y T rs F .ret s P ↔ XF (aresults Y s rs) s.H P := by
  induction F with
  | nil =>
    unfold X XF
    simp only [plug, runs_ret]
    constructor
    · rintro ⟨o, res, rfl, h, hp⟩
      rw [finish_ret] at h
      cases h1 : aresults Y s rs with
      | none => rw [h1] at h; simp at h
      | some vs => rw [h1] at h; simp at h; subst h; exact ⟨vs, rfl, hp⟩
    · rintro ⟨vs, h, hp⟩
      exact ⟨_, _, rfl, by rw [finish_ret, h]; rfl, hp⟩
  | cons f F ih =>
    cases f with
    | seq b => exact R_seq.trans ih
    | block id => exact R_block.trans ih
    | loop b => exact R_loop.trans ih

/-- Regions and tests whose answers are known, or part. -/
theorem XR_some {s' : St} : XR Y T rs F (some s') P ↔ X Y T rs F .skip s' P := by simp [XR]
theorem XR_none : XR Y T rs F none P ↔ False := by simp [XR]
theorem XR_ite {c : Prop} [Decidable c] {x y : Option St} : XR Y T rs F (if c then x else y) P ↔ (c → XR Y T rs F x P) ∧ (¬ c → XR Y T rs F y P) := by
  by_cases h : c <;> simp [h]
theorem XR_map {α : Type} {pl : PL} {full r : List Oper} {tm : List SV} {d : Option Tmp} {x : Option α} {f : α → SV × List Blk} :
    XR Y T rs F (opC Y T pl full r tm d (x.map f)) P ↔ ∃ y, x = some y ∧ XR Y T rs F (opC Y T pl full r tm d (some (f y))) P := by
  cases x with
  | none => simp [XR]
  | some y => simp
theorem XC_bool {t : Bool} {a b : Code} : XC Y T rs F (some (.pv (.bool t))) a b s P ↔ Br t (X Y T rs F a s P) (X Y T rs F b s P) := by
  unfold XC Br; cases t <;> simp
theorem XF_some {vs : List SV} {H : List Blk} : XF (some vs) H P ↔ P (pack vs, H) := by simp [XF]

theorem aresults_le {s s' : St} (h : Le s s') : ∀ {rs : List ResultVar} {vs : List SV}, aresults Y s rs = some vs → aresults Y s' rs = some vs
  | [], _, e => e
  | r :: rs, vs, e => by
    simp only [aresults] at e ⊢
    split at e
    · rename_i v hv
      have : aresult Y s' r = some v := by
        cases r with
        | tmp t => exact getD_le h hv
        | cell a t =>
          simp only [aresult] at hv ⊢
          rw [← h.H]
          have : s'.tm.getD a .undef = s.tm.getD a .undef := by
            have hj : isJ (s.tm.getD a .undef) = false := by
              cases hj : isJ (s.tm.getD a .undef) with
              | false => rfl
              | true =>
                exfalso
                generalize s.tm.getD a .undef = q at *
                cases q <;> simp [isJ] at hj
                unfold aLoad at hv; split at hv <;> cases hv
            have hl : live (s.tm.getD a .undef) = some (s.tm.getD a .undef) := by
              generalize s.tm.getD a .undef = q at *
              cases q <;> first | rfl | (simp [isJ] at hj)
            exact (live_eq (getD_le h hl)).1
          rw [this]; exact hv
      rw [this]
      simp only []
      split at e
      · rename_i vs' hvs
        rw [aresults_le h hvs]; exact e
      · cases e
    · cases e

/-- What is forgotten may be remembered. -/
theorem X_le {c : Code} {s s' : St} (h : Le s s') (hx : X Y T rs F c s P) : X Y T rs F c s' P := by
  obtain ⟨o, res, ⟨n, hn⟩, hf, hp⟩ := hx
  obtain ⟨o', hn', hl⟩ := acode_le n _ h hn
  refine ⟨o', res, ⟨n, hn'⟩, ?_, hp⟩
  cases hl with
  | @norm s1 s2 hl =>
    rw [finish_norm] at hf ⊢
    cases h1 : aresults Y s1 rs with
    | none => rw [h1] at hf; simp at hf
    | some vs => rw [aresults_le hl h1, ← hl.H]; rw [h1] at hf; exact hf
  | exit hl => simp [finish] at hf
  | @ret s1 s2 hl =>
    rw [finish_ret] at hf ⊢
    cases h1 : aresults Y s1 rs with
    | none => rw [h1] at hf; simp at hf
    | some vs => rw [aresults_le hl h1, ← hl.H]; rw [h1] at hf; exact hf
theorem X_mono {c : Code} {P' : SV × List Blk → Prop} (h : ∀ x, P x → P' x) (hx : X Y T rs F c s P) : X Y T rs F c s P' := by
  obtain ⟨o, res, h1, h2, h3⟩ := hx
  exact ⟨o, res, h1, h2, h _ h3⟩

theorem opC_ite (pl : PL) (full r : List Oper) (tm : List SV) (dst : Option Tmp) (c : Prop) [Decidable c] (x y : Option (SV × List Blk)) :
    opC Y T pl full r tm dst (if c then x else y) = if c then opC Y T pl full r tm dst x else opC Y T pl full r tm dst y := by split <;> rfl
theorem map_ite {α β : Type} (c : Prop) [Decidable c] (x y : Option α) (f : α → β) : Option.map f (if c then x else y) = if c then x.map f else y.map f := by split <;> rfl

/-- A contract's answer. -/
def retC (fr : Bool) (H : List Blk) : Option SV → Option (SV × List Blk)
  | some r => placeR fr H r
  | none => none
theorem retC_some (fr : Bool) (H : List Blk) (r : SV) : retC fr H (some r) = placeR fr H r := rfl
theorem retC_none (fr : Bool) (H : List Blk) : retC fr H none = none := rfl
theorem retC_ite (fr : Bool) (H : List Blk) (c : Prop) [Decidable c] (x y : Option SV) : retC fr H (if c then x else y) = if c then retC fr H x else retC fr H y := by split <;> rfl
def callP (fr : Bool) (G : List SV → Option SV) (H : List Blk) : Option (List SV) → Option (SV × List Blk)
  | some as => retC fr H (G as)
  | none => none
theorem callP_some (fr : Bool) (G : List SV → Option SV) (H : List Blk) (as : List SV) : callP fr G H (some as) = retC fr H (G as) := rfl
theorem specFn_pure (fr : Bool) (G : List SV → Option SV) (args : List SV) (H : List Blk) : specFn (.pure fr G) args H = callP fr G H (purL args) := by
  simp only [specFn]
  cases purL args with
  | none => rfl
  | some as => simp only [callP_some]; cases G as <;> rfl
theorem specFn_heap (G : List SV → List Blk → Option (SV × List Blk)) (args : List SV) (H : List Blk) : specFn (.heap G) args H = G args H := rfl
def rdC (H : List Blk) : Option PV → Option (SV × List Blk)
  | some p => some (.pv p, H)
  | none => none
theorem rdC_some (H : List Blk) (p : PV) : rdC H (some p) = some (.pv p, H) := rfl
def rdP (G : List SV → Option PV) (H : List Blk) : Option (List SV) → Option (SV × List Blk)
  | some as => rdC H (G as)
  | none => none
theorem rdP_some (G : List SV → Option PV) (H : List Blk) (as : List SV) : rdP G H (some as) = rdC H (G as) := rfl
theorem specFn_read (G : List SV → Option PV) (args : List SV) (H : List Blk) : specFn (.read G) args H = rdP G H (resCs (resC H 4) args) := by
  simp only [specFn]
  cases resCs (resC H 4) args with
  | none => rfl
  | some as => simp only [rdP_some]; cases G as <;> rfl
/-- What is said of a value stays true where the newer boxes are forgotten. -/
theorem RelS.forget {C D : Cf} {bs : List Blk} (EV : Evo C D) (hD : D.H = C.H ++ bs) {c : SV} {u : Value} (h : RelS D c u) : ∀ u0, RelS C c u0 → RelS ⟨D.w, D.S, C.H, C.G⟩ c u := by
  have up : ∀ {k : Nat} {b : Blk}, C.H[k]? = some b → D.H[k]? = some b := fun {k b} hk => by
    rw [hD, List.getElem?_append_left (List.getElem?_eq_some_iff.1 hk).1]; exact hk
  have at_ : ∀ {cs : List SV} {us us0 : List Value}, us0.length = cs.length → ∀ (j : Nat) (c : SV), cs[j]? = some c → ∃ u0, us0[j]? = some u0 := fun {cs us us0} hl j c hj => by
    have := (List.getElem?_eq_some_iff.1 hj).1
    exact ⟨us0[j], by simp [hl, this]⟩
  induction h with
  | pv p v h => exact fun _ _ => .pv _ _ h
  | own k v s es vc e g val hH hG hv h hcur =>
    intro u0 h0
    cases h0 with | own _ _ _ _ vc0 e0 g0 _ hH0 hG0 hv0 h0 _ =>
    have e1 := up hH0
    rw [hH] at e1
    cases e1
    obtain ⟨v', g', h3, _, h5, h6⟩ := EV.tokk k vc e g0 hH0 hG0
    rw [hH] at h3; cases h3
    rw [hG] at h5; cases h5
    have := h6 rfl
    subst this
    exact .own k v s es vc e g val hH0 hG0 hv h hcur
  | tight s es b off h => exact fun _ _ => .tight _ _ _ _ h
  | ptr k off cs g hH hG =>
    intro u0 h0
    cases h0 with | ptr _ _ cs0 g0 hH0 hG0 =>
    have := (EV.boxk k cs0 g0 hH0 hG0).2
    rw [hG] at this; cases this
    exact .ptr k off cs0 g hH0 hG0
  | cptr cs b off u hS hc hr => exact fun _ _ => .cptr cs b off u hS hc hr
  | cadr cs b off u hS hc hr => exact fun _ _ => .cadr cs b off u hS hc hr
  | bsl k off len st cap cs g hH hG hcap =>
    intro u0 h0
    cases h0 with | bsl _ _ _ _ cap0 cs0 g0 hH0 hG0 hcap0 =>
    have := (EV.boxk k cs0 g0 hH0 hG0).2
    rw [hG] at this; cases this
    exact .bsl k off len st cap cs0 g hH0 hG0 hcap
  | agg cs us hl h1 h ih =>
    intro u0 h0
    cases h0 with | agg _ us0 hl0 h10 h0 =>
    refine .agg cs us hl h1 fun j c u hj hu => ?_
    obtain ⟨x, hx⟩ := at_ (us := us) hl0 j c hj
    exact ih j c u hj hu x (h0 j c x hj hx)
  | tuple cs us hl h ih =>
    intro u0 h0
    cases h0 with | tuple _ us0 hl0 h0 =>
    refine .tuple cs us hl fun j c u hj hu => ?_
    obtain ⟨x, hx⟩ := at_ (us := us) hl0 j c hj
    exact ih j c u hj hu x (h0 j c x hj hx)
  | clo f cs us hl h ih =>
    intro u0 h0
    cases h0 with | clo _ _ us0 hl0 h0 =>
    refine .clo f cs us hl fun j c u hj hu => ?_
    obtain ⟨x, hx⟩ := at_ (us := us) hl0 j c hj
    exact ih j c u hj hu x (h0 j c x hj hx)
theorem forget_evo {C D : Cf} {bs : List Blk} (EV : Evo C D) : Evo C ⟨D.w, D.S, C.H, C.G⟩ :=
  ⟨EV.os, EV.tape, EV.output, EV.size, EV.S, EV.cell, EV.frame, fun k g h => .inr ⟨k, g, h, rfl⟩, EV.newS, fun k cs g h1 h2 => ⟨⟨cs, h1, rfl⟩, h2⟩, fun k v e g h1 h2 => ⟨v, g, h1, Nat.le_refl _, h2, fun _ => rfl⟩⟩
theorem forget_inv {C D : Cf} {bs : List Blk} (I : Inv C) (J : Inv D) (EV : Evo C D) (hD : D.H = C.H ++ bs) : Inv ⟨D.w, D.S, C.H, C.G⟩ := by
  have up : ∀ {k : Nat} {b : Blk}, C.H[k]? = some b → D.H[k]? = some b := fun {k b} hk => by
    rw [hD, List.getElem?_append_left (List.getElem?_eq_some_iff.1 hk).1]; exact hk
  have tk : ∀ {k v : Nat} {e : TypeId} {g : GB}, C.H[k]? = some (.tok v e) → C.G[k]? = some g → D.G[k]? = some g := fun {k v e g} h1 h2 => by
    obtain ⟨v', g', h3, _, h5, h6⟩ := EV.tokk k v e g h1 h2
    rw [up h1] at h3; cases h3
    rw [h5, h6 rfl]
  refine ⟨I.len, J.inb, ?_, ?_, ?_, ?_, ?_, I.dis⟩
  · intro _ k cs g h1 h2
    have h3 := (EV.boxk k cs g h1 h2).2
    obtain ⟨arr, T, a1, a2, a3, a4⟩ := J.box k cs g (up h1) h3
    obtain ⟨arr0, T0, b1, b2, b3, b4⟩ := I.box k cs g h1 h2
    refine ⟨arr, T, a1, a2, fun j c u hj hu => ?_, a4⟩
    have hlt := (List.getElem?_eq_some_iff.1 hj).1
    have hx : arr0[j]? = some (arr0[j]'(by omega)) := by simp [show j < arr0.size by omega]
    exact (a3 j c u hj hu).forget EV hD _ (b3 j c _ hj hx)
  · intro _ k cs g o h1 h2
    exact J.boxS k cs g o (up h1) (EV.boxk k cs g h1 h2).2
  · intro k v e g h1 h2
    exact J.tok k v e g (up h1) (tk h1 h2)
  · intro k v e g o h1 h2
    exact J.tokS k v e g o (up h1) (tk h1 h2)
  · intro k t cs g h1 h2
    exact J.boxT k t cs g (up h1) (EV.boxk k cs g h1 h2).2
end

section
variable {P : Program} {Y : TypeId → Option Ty} (E : Env P Y) {W0 : World} {T : FuncId → Option Spec} (hT : TOk P W0 T)
include E hT
/-- A function's contract, by the machine. -/
theorem meets_X (hm : P.follows .mixedOrders = true) {f : FuncId} {fn : Func} {c : Code} (hf : P.funcs[f]? = some fn) (hb : fn.body = some c) (hc : codeOk T c = true)
    {fr : Bool} {G : List SV → Option SV} (hG : ∀ args r, G args = some r → X Y T fn.results.toList [] c (enter fn.ntmps args []) (fun x => outR x.2 x.1 = some r)) : Meets P W0 f (specFn (.pure fr G)) :=
  meets_pure E hT hm hf hb hc fun args r h => by
    obtain ⟨o, ⟨r1, H1⟩, ⟨n, hn⟩, h2, h3⟩ := hG args r h
    exact ⟨n, r1, H1, by unfold arun; rw [hb]; simp only []; rw [show acode Y T n c (enter fn.ntmps args []) = some o from hn]; exact h2, h3⟩

omit E hT in
/-- What a function comes to, at some fuel. -/
noncomputable def arunAll (Y : TypeId → Option Ty) (T : FuncId → Option Spec) (fn : Func) (args : List SV) (H : List Blk) : Option (SV × List Blk) :=
  open Classical in if h : ∃ x n, arun Y T fn n args H = some x then some h.choose else none
omit E hT in
theorem arunAll_of_X {fn : Func} {c : Code} (hb : fn.body = some c) {args : List SV} {H : List Blk} {Q : SV × List Blk → Prop} (h : X Y T fn.results.toList [] c (enter fn.ntmps args H) Q) :
    ∃ r H', arunAll Y T fn args H = some (r, H') ∧ Q (r, H') := by
  obtain ⟨o, res, ⟨n, hn⟩, h2, h3⟩ := h
  have ha : arun Y T fn n args H = some res := by
    unfold arun; rw [hb]; simp only []; rw [show acode Y T n c (enter fn.ntmps args H) = some o from hn]; exact h2
  have hex : ∃ x n, arun Y T fn n args H = some x := ⟨res, n, ha⟩
  refine ⟨res.1, res.2, ?_, h3⟩
  unfold arunAll
  rw [dif_pos hex]
  obtain ⟨m, hm⟩ := hex.choose_spec
  have : hex.choose = res := by
    generalize hex.choose = x at hm
    unfold arun at hm ha
    rw [hb] at hm ha
    simp only [] at hm ha
    cases h1 : acode Y T m c (enter fn.ntmps args H) with
    | none => rw [h1] at hm; simp [finish] at hm
    | some o1 =>
      rw [h1] at hm
      have : o1 = o := runs_det ⟨m, h1⟩ ⟨n, hn⟩
      subst this
      rw [h2] at hm
      exact (Option.some.inj hm).symm
  rw [this]
theorem meets_all (hm : P.follows .mixedOrders = true) {f : FuncId} {fn : Func} {c : Code} (hf : P.funcs[f]? = some fn) (hb : fn.body = some c) (hc : codeOk T c = true) : Meets P W0 f (specFn (.heap (arunAll Y T fn))) := by
  intro C args vs r H' h I J hr
  simp only [specFn, arunAll] at h
  split at h
  · rename_i hex
    obtain ⟨n, hn⟩ := hex.choose_spec
    rw [Option.some.inj h] at hn
    exact arun_sound E hT hm hf hb hc (fuel := n) C args vs r H' hn I J hr
  · cases h
end

section
variable {P : Program} {Y : TypeId → Option Ty} (E : Env P Y) {W0 : World} {T : FuncId → Option Spec} (hT : TOk P W0 T)
include E hT
/-- A contract that looks into boxes and leaves them. -/
theorem meets_look (hm : P.follows .mixedOrders = true) {f : FuncId} {fn : Func} {c : Code} (hf : P.funcs[f]? = some fn) (hb : fn.body = some c) (hc : codeOk T c = true)
    {G : List SV → Option PV} (hG : ∀ args H as p, resCs (resC H 4) args = some as → G as = some p → X Y T fn.results.toList [] c (enter fn.ntmps args H) (fun x => x.1 = .pv p ∧ ∃ bs, x.2 = H ++ bs)) : Meets P W0 f (specFn (.read G)) := by
  intro C args vs r H' h I J hr
  simp only [specFn] at h
  split at h
  · rename_i as has
    split at h
    · rename_i p hp
      cases h
      obtain ⟨r1, H1, ha, h1, bs, h2⟩ := arunAll_of_X hb (hG args C.H as p has hp)
      subst h1; subst h2
      refine (meets_all E hT hm hf hb hc C args vs (.pv p) (C.H ++ bs) ha I J hr).mono ?_
      rintro e w' ⟨v, D, rfl, rfl, hg⟩
      refine ⟨v, ⟨D.w, D.S, C.H, C.G⟩, rfl, rfl, rfl, forget_inv I hg.inv hg.evo hg.H, forget_evo (bs := bs) hg.evo, ?_⟩
      have := hg.rel
      cases this with | pv _ _ h => exact .pv _ _ h
    · cases h
  · cases h
end

/-- The machine within a region: at a row of operations, at an operation's answer, at a guard. -/
def XA (Y : TypeId → Option Ty) (T : FuncId → Option Spec) (pl : PL) (rs : List ResultVar) (F : List Fr) (full r : List Oper) (s : St) (P : SV × List Blk → Prop) : Prop := XR Y T rs F (aops Y T pl full r s) P
def XO (Y : TypeId → Option Ty) (T : FuncId → Option Spec) (pl : PL) (rs : List ResultVar) (F : List Fr) (full r : List Oper) (tm : List SV) (d : Option Tmp) (x : Option (SV × List Blk)) (P : SV × List Blk → Prop) : Prop := XR Y T rs F (opC Y T pl full r tm d x) P

section
variable {Y : TypeId → Option Ty} {T : FuncId → Option Spec} {rs : List ResultVar} {F : List Fr} {s : St} {P : SV × List Blk → Prop} {pl : PL} {full r : List Oper}
theorem X_reg {id : Nat} {ops : Array Oper} : X Y T rs F (.region id ops false) s P ↔ XA Y T noPl rs F ops.toList ops.toList s P := X_region
/-- The machine at a drawn region, by the slots of its new boxes. -/
def XH (Y : TypeId → Option Ty) (T : FuncId → Option Spec) (rs : List ResultVar) (F : List Fr) (full : List Oper) (tm : List SV) (H : List Blk) (P : SV × List Blk → Prop) : List Tmp → Bool → Bool → Bool → Prop
  | a :: b :: r, st, _, _ => XA Y T (plOf st H.length (a :: b :: r)) rs F full full ⟨tm, H ++ List.replicate (r.length + 2) .hole⟩ P
  | [a], st, true, _ => XA Y T (plOf st H.length [a]) rs F full full ⟨tm, H ++ [.hole]⟩ P
  | [], st, true, _ => XA Y T (plOf st (H.length - 1) []) rs F full full ⟨tm, H⟩ P
  | _, _, _, true => XR Y T rs F (aregW Y T full ⟨tm, H⟩ (watchK (aval tm (.tmp (watchTmp full))))) P
  | _, _, _, _ => XA Y T noPl rs F full full ⟨tm, H⟩ P
/-- Behind the first operations of a region that appends in place. -/
noncomputable def acus (Y : TypeId → Option Ty) (T : FuncId → Option Spec) (c : Cus) (full : List Oper) (s : St) : Option St := match aregN Y T (full.take 10) true s with
  | some s1 => atail Y c s1
  | none => none
def XQ (Y : TypeId → Option Ty) (T : FuncId → Option Spec) (rs : List ResultVar) (F : List Fr) (full : List Oper) (tm : List SV) (H : List Blk) (P : SV × List Blk → Prop) (x : Prop) : Option Cus → Prop
  | none => x
  | some c => XR Y T rs F (acus Y T c full ⟨tm, H⟩) P
theorem XQ_none {tm : List SV} {H : List Blk} {x : Prop} : XQ Y T rs F full tm H P x none ↔ x := Iff.rfl
theorem XQ_congr {tm : List SV} {H : List Blk} {x : Prop} {q q' : Option Cus} (h : ev q = q') : XQ Y T rs F full tm H P x (ev q) = XQ Y T rs F full tm H P x q' := by rw [h]
theorem X_regD {id : Nat} {ops : Array Oper} {tm : List SV} {H : List Blk} : X Y T rs F (.region id ops true) ⟨tm, H⟩ P ↔ XQ Y T rs F ops.toList tm H P (XH Y T rs F ops.toList tm H P (ev (newDsts ops.toList)) (ev (hasStore ops.toList)) (ev (modeL ops.toList (newDsts ops.toList))) (ev (watching ops.toList true))) (ev (cusD ops.toList true)) := by
  rw [X_region]
  show _ ↔ XQ Y T rs F ops.toList tm H P _ (cusD ops.toList true)
  cases hc : cusD ops.toList true with
  | some c =>
    unfold areg XQ acus
    rw [hc]
    exact Iff.rfl
  | none =>
    rw [areg_none Y T hc, aregN_true, ev_eq, ev_eq, ev_eq, ev_eq, XQ_none]
    generalize modeL ops.toList (newDsts ops.toList) = c
    generalize newDsts ops.toList = l
    generalize watching ops.toList true = w
    match l with
    | [] => cases c <;> cases w <;> exact Iff.rfl
    | [x] => cases c <;> cases w <;> exact Iff.rfl
    | a :: b :: r => cases c <;> cases w <;> exact Iff.rfl
theorem XH_congr {tm : List SV} {H : List Blk} {x x' : List Tmp} {y y' c c' w w' : Bool} (h : ev x = x') (h' : ev y = y') (h'' : ev c = c') (h3 : ev w = w') : XH Y T rs F full tm H P (ev x) (ev y) (ev c) (ev w) = XH Y T rs F full tm H P x' y' c' w' := by rw [h, h', h'', h3]
theorem XH_nil {tm : List SV} {H : List Blk} {st : Bool} : XH Y T rs F full tm H P [] st false false ↔ XA Y T noPl rs F full full ⟨tm, H⟩ P := Iff.rfl
theorem XH_strict {tm : List SV} {H : List Blk} {st w : Bool} : XH Y T rs F full tm H P [] st true w ↔ XA Y T (plOf st (H.length - 1) []) rs F full full ⟨tm, H⟩ P := by cases w <;> exact Iff.rfl
theorem XH_one {tm : List SV} {H : List Blk} {a : Tmp} {st : Bool} : XH Y T rs F full tm H P [a] st false false ↔ XA Y T noPl rs F full full ⟨tm, H⟩ P := Iff.rfl
theorem XH_held {tm : List SV} {H : List Blk} {a : Tmp} {st w : Bool} : XH Y T rs F full tm H P [a] st true w ↔ XA Y T (plOf st H.length [a]) rs F full full ⟨tm, H ++ [.hole]⟩ P := by cases w <;> exact Iff.rfl
theorem XH_two {tm : List SV} {H : List Blk} {a b : Tmp} {r : List Tmp} {st c w : Bool} : XH Y T rs F full tm H P (a :: b :: r) st c w ↔ XA Y T (plOf st H.length (a :: b :: r)) rs F full full ⟨tm, H ++ List.replicate (r.length + 2) .hole⟩ P := by cases c <;> cases w <;> exact Iff.rfl
/-- Where a box is watched. -/
def XW (Y : TypeId → Option Ty) (T : FuncId → Option Spec) (rs : List ResultVar) (F : List Fr) (full : List Oper) (tm : List SV) (H : List Blk) (P : SV × List Blk → Prop) (x : Option SV) : Prop := XR Y T rs F (aregW Y T full ⟨tm, H⟩ (watchK x)) P
theorem XH_watch0 {tm : List SV} {H : List Blk} {st : Bool} : XH Y T rs F full tm H P [] st false true ↔ XW Y T rs F full tm H P (ev (aval tm (.tmp (watchTmp full)))) := Iff.rfl
theorem XH_watch1 {tm : List SV} {H : List Blk} {a : Tmp} {st : Bool} : XH Y T rs F full tm H P [a] st false true ↔ XW Y T rs F full tm H P (ev (aval tm (.tmp (watchTmp full)))) := Iff.rfl
theorem XW_congr {tm : List SV} {H : List Blk} {x x' : Option SV} (h : ev x = x') : XW Y T rs F full tm H P (ev x) = XW Y T rs F full tm H P x' := by rw [h]
theorem XW_ptr {tm : List SV} {H : List Blk} {k off : Nat} : XW Y T rs F full tm H P (some (.ptr k off)) ↔ XA Y T (watchPl (lateL full) k H.length) rs F full full ⟨tm, H⟩ P := Iff.rfl
theorem XW_pv {tm : List SV} {H : List Blk} {p : PV} : XW Y T rs F full tm H P (some (.pv p)) ↔ XA Y T (watchPl (lateL full) 0 H.length) rs F full full ⟨tm, H⟩ P := Iff.rfl
theorem XA_nil : XA Y T pl rs F full [] s P ↔ X Y T rs F .skip s P := by simp [XA, XR, aops]
theorem XA_plain {dst : Option Tmp} {op : Op} {ty : TypeId} {pos : String} {after : Array Edge} :
    XA Y T pl rs F full ({ dst, op, type := ty, pos, after, guard := none } :: r) s P ↔ XO Y T pl rs F full r s.tm dst (aopP Y T pl dst s.H (aval s.tm) op) P := by
  unfold XA XO; rw [aops_plain]
theorem XO_some {tm : List SV} {d : Option Tmp} {v : SV} {H : List Blk} : XO Y T pl rs F full r tm d (some (v, H)) P ↔ XA Y T pl rs F full r ⟨put tm d v, H⟩ P := Iff.rfl
theorem XO_none {tm : List SV} {d : Option Tmp} : XO Y T pl rs F full r tm d none P ↔ False := by simp [XO, XR]
theorem XO_ite {tm : List SV} {d : Option Tmp} {c : Prop} [Decidable c] {x y : Option (SV × List Blk)} :
    XO Y T pl rs F full r tm d (if c then x else y) P ↔ (c → XO Y T pl rs F full r tm d x P) ∧ (¬ c → XO Y T pl rs F full r tm d y P) := by
  by_cases h : c <;> simp [h]
theorem XO_map {α : Type} {tm : List SV} {d : Option Tmp} {x : Option α} {f : α → SV × List Blk} :
    XO Y T pl rs F full r tm d (x.map f) P ↔ ∃ y, x = some y ∧ XO Y T pl rs F full r tm d (some (f y)) P := XR_map
theorem XA_plain_mk {dst : Option Tmp} {op : Op} {ty : TypeId} {pos : String} {after : Array Edge} {tm : List SV} {H : List Blk} :
    XA Y T pl rs F full ({ dst, op, type := ty, pos, after, guard := none } :: r) ⟨tm, H⟩ P ↔ XO Y T pl rs F full r tm dst (ev (aopP Y T pl dst H (aval tm) op)) P := XA_plain
theorem XO_congr {tm : List SV} {d : Option Tmp} {x x' : Option (SV × List Blk)} (h : ev x = x') : XO Y T pl rs F full r tm d (ev x) P = XO Y T pl rs F full r tm d x' P := by rw [h]
theorem X_cond_mk {x : Operand} {a b : Code} {tm : List SV} {H : List Blk} : X Y T rs F (.cond x a b) ⟨tm, H⟩ P ↔ XC Y T rs F (ev (aval tm x)) a b ⟨tm, H⟩ P := X_cond
theorem XC_congr {x x' : Option SV} {a b : Code} (h : ev x = x') : XC Y T rs F (ev x) a b s P = XC Y T rs F x' a b s P := by rw [h]
theorem X_ret_mk {tm : List SV} {H : List Blk} : X Y T rs F .ret ⟨tm, H⟩ P ↔ XF (ev (aresults Y ⟨tm, H⟩ rs)) H P := X_ret
theorem K_nil_mk {tm : List SV} {H : List Blk} : X Y T rs [] .skip ⟨tm, H⟩ P ↔ XF (ev (aresults Y ⟨tm, H⟩ rs)) H P := K_nil
theorem XF_congr {x x' : Option (List SV)} {H : List Blk} (h : ev x = x') : XF (ev x) H P = XF x' H P := by rw [h]
end

/-- The result. -/
def Is (r : SV) (x : SV × List Blk) : Prop := outR x.2 x.1 = some r
theorem Is_mk (r x : SV) (H : List Blk) : Is r (x, H) ↔ outR H x = some r := Iff.rfl

/-- A function's run. -/
def XFn (Y : TypeId → Option Ty) (T : FuncId → Option Spec) (fn : Func) (args : List SV) (H : List Blk) (Q : SV × List Blk → Prop) : Prop := X Y T fn.results.toList [] (fn.body.getD .skip) (enter fn.ntmps args H) Q
theorem meets_fn {P : Program} {Y : TypeId → Option Ty} (E : Env P Y) {W0 : World} {T : FuncId → Option Spec} (hT : TOk P W0 T) (hm : P.follows .mixedOrders = true) {f : FuncId} {fn : Func}
    (hf : P.funcs[f]? = some fn) (he : (fn.body.isNone || (fn.name == "runtime.NumGoroutine")) = false) (hc : codeOk T (fn.body.getD .skip) = true)
    {fr : Bool} {G : List SV → Option SV} (hG : ∀ args r, G args = some r → XFn Y T fn args [] (Is r)) : Enterable P f ∧ Meets P W0 f (specFn (.pure fr G)) := by
  refine ⟨enterable_of hf he, ?_⟩
  have : fn.body = some (fn.body.getD .skip) := by
    cases h : fn.body with
    | none => rw [h] at he; simp at he
    | some c => rfl
  exact meets_X E hT hm hf this hc hG
theorem meets_heap {P : Program} {Y : TypeId → Option Ty} (E : Env P Y) {W0 : World} {T : FuncId → Option Spec} (hT : TOk P W0 T) (hm : P.follows .mixedOrders = true) {f : FuncId} {fn : Func}
    (hf : P.funcs[f]? = some fn) (he : (fn.body.isNone || (fn.name == "runtime.NumGoroutine")) = false) (hc : codeOk T (fn.body.getD .skip) = true) : Enterable P f ∧ Meets P W0 f (specFn (.heap (arunAll Y T fn))) := by
  refine ⟨enterable_of hf he, ?_⟩
  have : fn.body = some (fn.body.getD .skip) := by
    cases h : fn.body with
    | none => rw [h] at he; simp at he
    | some c => rfl
  exact meets_all E hT hm hf this hc
theorem meets_read {P : Program} {Y : TypeId → Option Ty} (E : Env P Y) {W0 : World} {T : FuncId → Option Spec} (hT : TOk P W0 T) (hm : P.follows .mixedOrders = true) {f : FuncId} {fn : Func}
    (hf : P.funcs[f]? = some fn) (he : (fn.body.isNone || (fn.name == "runtime.NumGoroutine")) = false) (hc : codeOk T (fn.body.getD .skip) = true)
    {G : List SV → Option PV} (hG : ∀ args H as p, resCs (resC H 4) args = some as → G as = some p → XFn Y T fn args H (fun x => x.1 = .pv p ∧ ∃ bs, x.2 = H ++ bs)) : Enterable P f ∧ Meets P W0 f (specFn (.read G)) := by
  refine ⟨enterable_of hf he, ?_⟩
  have : fn.body = some (fn.body.getD .skip) := by
    cases h : fn.body with
    | none => rw [h] at he; simp at he
    | some c => rfl
  exact meets_look E hT hm hf this hc hG
theorem all_of_XFn {Y : TypeId → Option Ty} {T : FuncId → Option Spec} {fn : Func} (he : fn.body.isNone = false) {args : List SV} {H : List Blk} {Q : SV × List Blk → Prop} (h : XFn Y T fn args H Q) :
    ∃ r H', arunAll Y T fn args H = some (r, H') ∧ Q (r, H') := by
  have : fn.body = some (fn.body.getD .skip) := by
    cases h : fn.body with
    | none => rw [h] at he; simp at he
    | some c => rfl
  exact arunAll_of_X this h

/-- A law that the machine brings to an answer. -/
theorem law_X {P : Program} {Y : TypeId → Option Ty} (E : Env P Y) {W : World} {T : FuncId → Option Spec} (hT : TOk P W T) (hm : P.follows .mixedOrders = true) {f : FuncId} {fn : Func}
    (hf : P.funcs[f]? = some fn) (he : fn.body.isNone = false) (hc : codeOk T (fn.body.getD .skip) = true) {args : List SV} {vs : List Value} {b : Bool} (h : XFn Y T fn args [] (Is (.bool b))) (hr : RelL (start W) args vs) :
    Calls P f vs.toArray W (fun e w' => e = .returned (.bool b) ∧ Below W.heap.size W w') := by
  have hb : fn.body = some (fn.body.getD .skip) := by
    cases h : fn.body with
    | none => rw [h] at he; simp at he
    | some c => rfl
  obtain ⟨o, ⟨r1, H1⟩, ⟨n, hn⟩, h2, h3⟩ := h
  have ha : arun Y T fn n args [] = some (r1, H1) := by
    unfold arun; rw [hb]; simp only []; rw [show acode Y T n (fn.body.getD .skip) (enter fn.ntmps args []) = some o from hn]; exact h2
  have : r1 = .bool b := outR_bool (H := H1) h3
  subst this
  exact law_of (arun_sound E hT hm hf hb hc (fuel := n)) ha hr

theorem wrap64 {n : Int} (h : -9223372036854775808 ≤ n) (h' : n ≤ 9223372036854775807) : IntKind.i64.wrap n = n := by
  unfold IntKind.wrap
  simp only [IntKind.bits, IntKind.signed]
  have e1 : (2 : Int) ^ 64 = 18446744073709551616 := by decide
  have e2 : (2 : Int) ^ (64 - 1) = 9223372036854775808 := by decide
  simp only [e1, e2, Bool.true_and]
  split
  · rename_i h1; simp at h1; omega
  · rename_i h1; simp at h1; omega
theorem X_ret_any {Y : TypeId → Option Ty} {T : FuncId → Option Spec} {rs : List ResultVar} {F F' : List Fr} {s : St} {P : SV × List Blk → Prop} (h : X Y T rs F .ret s P) : X Y T rs F' .ret s P := X_ret.2 (X_ret.1 h)

/-- A table of contracts. -/
def tab : List (FuncId × Spec) → FuncId → Option Spec
  | [], _ => none
  | (k, S) :: r, g => if g = k then some S else tab r g
theorem tab_nil (g : FuncId) : tab [] g = none := rfl
theorem tab_cons (k : FuncId) (S : Spec) (r : List (FuncId × Spec)) (g : FuncId) : tab ((k, S) :: r) g = if g = k then some S else tab r g := rfl
theorem tok_nil {P : Program} {W0 : World} : TOk P W0 (tab []) := fun g S h => by cases h
theorem tok_cons {P : Program} {W0 : World} {k : FuncId} {S : Spec} {r : List (FuncId × Spec)} (h : Enterable P k ∧ Meets P W0 k (specFn S)) (hr : TOk P W0 (tab r)) : TOk P W0 (tab ((k, S) :: r)) := fun g S' hg => by
  rw [tab_cons] at hg
  split at hg
  · rename_i e; subst e; cases hg; exact h
  · exact hr g S' hg

/-- The slots by their last values, the latest first; j what the others hold. -/
def look (j : SV) : List (Nat × SV) → Nat → SV
  | [], _ => j
  | (d, v) :: l, i => if i = d then v else look j l i
def mk (n : Nat) (j : SV) (l : List (Nat × SV)) : List SV := (List.range n).map (look j l)
theorem look_nil (j : SV) (i : Nat) : look j [] i = j := rfl
theorem look_cons (j : SV) (d : Nat) (v : SV) (l : List (Nat × SV)) (i : Nat) : look j ((d, v) :: l) i = if i = d then v else look j l i := rfl
theorem mk_len (n : Nat) (j : SV) (l : List (Nat × SV)) : (mk n j l).length = n := by simp [mk]
theorem mk_get (n : Nat) (j : SV) (l : List (Nat × SV)) (i : Nat) : (mk n j l)[i]? = if i < n then some (look j l i) else none := by
  unfold mk
  rw [List.getElem?_map]
  by_cases h : i < n
  · rw [if_pos h, List.getElem?_range h]; rfl
  · rw [if_neg h, List.getElem?_eq_none (by simpa using Nat.le_of_not_lt h)]; rfl
theorem mk_getD (n : Nat) (j : SV) (l : List (Nat × SV)) (i : Nat) (d : SV) : (mk n j l).getD i d = if i < n then look j l i else d := by
  rw [List.getD_eq_getElem?_getD, mk_get]; split <;> rfl
theorem mk_set (n : Nat) (j : SV) (l : List (Nat × SV)) (d : Nat) (v : SV) : (mk n j l).set d v = mk n j ((d, v) :: l) := by
  apply List.ext_getElem?
  intro i
  rw [List.getElem?_set, mk_get, mk_get, mk_len]
  by_cases h : i < n
  · by_cases e : d = i
    · subst e; simp [h, look_cons]
    · simp [h, e, Ne.symm e, look_cons]
  · by_cases e : d = i
    · subst e; simp [h]
    · simp [h, e]
theorem put_mk (n : Nat) (j : SV) (l : List (Nat × SV)) (d : Nat) (v : SV) : put (mk n j l) (some d) v = mk n j ((d, v) :: l) := mk_set n j l d v
theorem put_none (tm : List SV) (v : SV) : put tm none v = tm := rfl
theorem aval_mk (n : Nat) (j : SV) (l : List (Nat × SV)) (t : Nat) : aval (mk n j l) (.tmp t) = if t < n then live (look j l t) else some .undef := by
  show live ((mk n j l).getD t .undef) = _
  rw [mk_getD]; split <;> rfl
theorem aval_const (tm : List SV) (v : Value) : aval tm (.const v) = ofV v := rfl
theorem aval_func (tm : List SV) (f : FuncId) : aval tm (.func f) = some (.pv (.fn f)) := rfl
theorem aresult_mk (n : Nat) (j : SV) (l : List (Nat × SV)) (H : List Blk) (t : Nat) (Y : TypeId → Option Ty) : aresult Y ⟨mk n j l, H⟩ (.tmp t) = if t < n then live (look j l t) else some .undef := by
  show live ((mk n j l).getD t .undef) = _
  rw [mk_getD]; split <;> rfl
theorem aresult_cell_mk (n : Nat) (j : SV) (l : List (Nat × SV)) (H : List Blk) (a t : Nat) (Y : TypeId → Option Ty) : aresult Y ⟨mk n j l, H⟩ (.cell a t) = aLoad Y H t (if a < n then look j l a else .undef) := by
  show aLoad Y H t ((mk n j l).getD a .undef) = _
  rw [mk_getD]
/-- A guard's answer, off the slot. -/
def wantC (want : Bool) : SV → Option Bool
  | .pv (.bool b) => some (b == want)
  | .fresh _ _ _ => none
  | _ => some false
/-- The slot of a guard's operation. -/
def gslot : List Oper → Nat → Option Tmp
  | [], _ => none
  | o :: _, 0 => o.dst
  | _ :: r, n + 1 => gslot r n
theorem gslot_zero {r : List Oper} {dst : Option Tmp} {op : Op} {ty : TypeId} {pos : String} {after : Array Edge} {g : Option (Nat × Bool)} : gslot ({ dst, op, type := ty, pos, after, guard := g } :: r) 0 = dst := rfl
theorem gslot_succ (o : Oper) (r : List Oper) (n : Nat) : gslot (o :: r) (n + 1) = gslot r n := rfl
theorem gslot_eq : ∀ (full : List Oper) (n : Nat), (full[n]?).bind (·.dst) = gslot full n
  | [], n => by simp [gslot]
  | o :: r, 0 => rfl
  | o :: r, n + 1 => by simp [gslot, gslot_eq r n]
theorem mk_same (n : Nat) (j : SV) (l : List (Nat × SV)) (d : Nat) : mk n j ((d, look j l d) :: l) = mk n j l := by
  unfold mk
  refine List.map_congr_left fun i _ => ?_
  rw [look_cons]; split
  · rename_i e; rw [e]
  · rfl
/-- The machine at a guard: the slot that it looks at holds v. -/
def XG (Y : TypeId → Option Ty) (T : FuncId → Option Spec) (pl : PL) (rs : List ResultVar) (F : List Fr) (full r : List Oper) (n : Nat) (j : SV) (l : List (Nat × SV)) (H : List Blk) (dst : Option Tmp) (op : Op) (want : Bool) (d : Nat) (v : SV) (P : SV × List Blk → Prop) : Prop :=
  XR Y T rs F (guardC Y T pl full r (mk n j ((d, v) :: l)) H dst (aopP Y T pl dst H (aval (mk n j ((d, v) :: l))) op) (if d < n then wantC want v else some false)) P
def XS (Y : TypeId → Option Ty) (T : FuncId → Option Spec) (pl : PL) (rs : List ResultVar) (F : List Fr) (full r : List Oper) (n : Nat) (j : SV) (l : List (Nat × SV)) (H : List Blk) (dst : Option Tmp) (op : Op) (want : Bool) (P : SV × List Blk → Prop) : Option Tmp → Prop
  | some d => XG Y T pl rs F full r n j l H dst op want d (look j l d) P
  | none => XR Y T rs F (guardC Y T pl full r (mk n j l) H dst (aopP Y T pl dst H (aval (mk n j l)) op) (some false)) P
section
variable {Y : TypeId → Option Ty} {T : FuncId → Option Spec} {rs : List ResultVar} {F : List Fr} {P : SV × List Blk → Prop} {pl : PL} {full r : List Oper} {n : Nat} {j : SV} {l : List (Nat × SV)} {H : List Blk}
theorem XA_guard_mk {dst : Option Tmp} {op : Op} {ty : TypeId} {pos : String} {after : Array Edge} {g : Nat} {want : Bool} :
    XA Y T pl rs F full ({ dst, op, type := ty, pos, after, guard := some (g, want) } :: r) ⟨mk n j l, H⟩ P ↔ XS Y T pl rs F full r n j l H dst op want P (ev (gslot full g)) := by
  rw [ev_eq]
  unfold XA
  rw [aops_guard]
  have : aWanted full (mk n j l) { dst, op, type := ty, pos, after, guard := some (g, want) } = match gslot full g with
      | some d => if d < n then wantC want (look j l d) else some false
      | none => some false := by
    rw [← gslot_eq]
    unfold aWanted
    simp only []
    cases (full[g]?).bind (·.dst) with
    | none => rfl
    | some d =>
      simp only [mk_get]
      by_cases h : d < n
      · simp only [if_pos h]
        generalize look j l d = q
        cases q with
        | pv p => cases p <;> rfl
        | _ => rfl
      · simp only [if_neg h]
  simp only [this]
  cases gslot full g with
  | none => exact Iff.rfl
  | some d =>
    simp only [XS, XG, mk_same]
theorem XS_some {dst : Option Tmp} {op : Op} {want : Bool} {d : Nat} : XS Y T pl rs F full r n j l H dst op want P (some d) ↔ XG Y T pl rs F full r n j l H dst op want d (ev (look j l d)) P := Iff.rfl
theorem XS_congr {dst : Option Tmp} {op : Op} {want : Bool} {x x' : Option Tmp} (h : ev x = x') : XS Y T pl rs F full r n j l H dst op want P (ev x) = XS Y T pl rs F full r n j l H dst op want P x' := by rw [h]
theorem XG_congr {dst : Option Tmp} {op : Op} {want : Bool} {d : Nat} {v v' : SV} (h : ev v = v') : XG Y T pl rs F full r n j l H dst op want d (ev v) P = XG Y T pl rs F full r n j l H dst op want d v' P := by rw [h]
theorem XO_some_mk {d : Nat} {v : SV} : XO Y T pl rs F full r (mk n j l) (some d) (some (v, H)) P ↔ XA Y T pl rs F full r ⟨mk n j ((d, v) :: l), H⟩ P := by rw [XO_some, put_mk]
theorem XO_some_none {v : SV} : XO Y T pl rs F full r (mk n j l) none (some (v, H)) P ↔ XA Y T pl rs F full r ⟨mk n j l, H⟩ P := Iff.rfl
theorem XG_yes {e : Nat} {op : Op} {d : Nat} {b : Bool} (hd : d < n) : XG Y T pl rs F full r n j l H (some e) op true d (.pv (.bool b)) P ↔
    Br b (XO Y T pl rs F full r (mk n j ((d, .pv (.bool true)) :: l)) (some e) (ev (aopP Y T pl (some e) H (aval (mk n j ((d, .pv (.bool true)) :: l))) op)) P)
      (XA Y T pl rs F full r ⟨mk n j ((e, .undef) :: (d, .pv (.bool false)) :: l), H⟩ P) := by
  unfold XG
  rw [if_pos hd]
  cases b <;> simp [Br, XO, XA, wantC, -aopP_noPl, -newDsts, ← put_mk, ev]
theorem XG_no {e : Nat} {op : Op} {d : Nat} {b : Bool} (hd : d < n) : XG Y T pl rs F full r n j l H (some e) op false d (.pv (.bool b)) P ↔
    Br b (XA Y T pl rs F full r ⟨mk n j ((e, .undef) :: (d, .pv (.bool true)) :: l), H⟩ P)
      (XO Y T pl rs F full r (mk n j ((d, .pv (.bool false)) :: l)) (some e) (ev (aopP Y T pl (some e) H (aval (mk n j ((d, .pv (.bool false)) :: l))) op)) P) := by
  unfold XG
  rw [if_pos hd]
  cases b <;> simp [Br, XO, XA, wantC, -aopP_noPl, -newDsts, ← put_mk, ev]
theorem XG_yes0 {op : Op} {d : Nat} {b : Bool} (hd : d < n) : XG Y T pl rs F full r n j l H none op true d (.pv (.bool b)) P ↔
    Br b (XO Y T pl rs F full r (mk n j ((d, .pv (.bool true)) :: l)) none (ev (aopP Y T pl none H (aval (mk n j ((d, .pv (.bool true)) :: l))) op)) P)
      (XA Y T pl rs F full r ⟨mk n j ((d, .pv (.bool false)) :: l), H⟩ P) := by
  unfold XG
  rw [if_pos hd]
  cases b <;> simp [Br, XO, XA, wantC, -aopP_noPl, -newDsts, put_none, ev]
theorem XG_no0 {op : Op} {d : Nat} {b : Bool} (hd : d < n) : XG Y T pl rs F full r n j l H none op false d (.pv (.bool b)) P ↔
    Br b (XA Y T pl rs F full r ⟨mk n j ((d, .pv (.bool true)) :: l), H⟩ P)
      (XO Y T pl rs F full r (mk n j ((d, .pv (.bool false)) :: l)) none (ev (aopP Y T pl none H (aval (mk n j ((d, .pv (.bool false)) :: l))) op)) P) := by
  unfold XG
  rw [if_pos hd]
  cases b <;> simp [Br, XO, XA, wantC, -aopP_noPl, -newDsts, put_none, ev]
theorem XG_undef {e : Nat} {op : Op} {want : Bool} {d : Nat} : XG Y T pl rs F full r n j l H (some e) op want d (.tuple []) P ↔ XA Y T pl rs F full r ⟨mk n j ((e, .undef) :: (d, .undef) :: l), H⟩ P := by
  unfold XG
  have : (if d < n then wantC want (.tuple []) else some false) = some false := by split <;> rfl
  rw [this, ← put_mk n j ((d, .undef) :: l) e .undef]
  exact Iff.rfl
theorem XG_undef0 {op : Op} {want : Bool} {d : Nat} : XG Y T pl rs F full r n j l H none op want d (.tuple []) P ↔ XA Y T pl rs F full r ⟨mk n j ((d, .undef) :: l), H⟩ P := by
  unfold XG
  have : (if d < n then wantC want (.tuple []) else some false) = some false := by split <;> rfl
  rw [this]
  exact Iff.rfl
end
theorem enter_mk0 (nt : Nat) (H : List Blk) : enter nt [] H = ⟨mk nt .undef [], H⟩ := by
  unfold enter mk
  congr 1
  apply List.ext_getElem?
  intro i
  by_cases h : i < nt <;> simp [h, look]
theorem enter_mk {nt : Nat} {args : List SV} (H : List Blk) (h : args.length ≤ nt) : enter nt args H = ⟨mk nt .undef (args.zipIdx.map fun p => (p.2, p.1)), H⟩ := by
  unfold enter
  congr 1
  apply List.ext_getElem?
  intro i
  have main : ∀ (args : List SV) (k : Nat), k ≤ i → look .undef ((args.zipIdx k).map fun p => (p.2, p.1)) i = (args[i - k]?).getD .undef := by
    intro args
    induction args with
    | nil => intro k hk; simp [look]
    | cons a r ih =>
      intro k hk
      simp only [List.zipIdx_cons, List.map_cons, look_cons]
      split
      · rename_i e; subst e; simp
      · rename_i e
        rw [ih (k + 1) (by omega)]
        have : i - k = (i - (k + 1)) + 1 := by omega
        rw [this, List.getElem?_cons_succ]
  rw [mk_get]
  have := main args 0 (Nat.zero_le _)
  rw [this]
  by_cases h1 : i < args.length
  · rw [List.getElem?_append_left h1, if_pos (by omega)]
    simp [h1]
  · by_cases h2 : i < nt
    · rw [List.getElem?_append_right (by omega), if_pos h2]
      rw [Nat.sub_zero, List.getElem?_eq_none (Nat.le_of_not_lt h1), List.getElem?_replicate, if_pos (by omega)]
      rfl
    · rw [List.getElem?_append_right (by omega), if_neg h2]
      simp; omega
theorem enter_1 {nt : Nat} {a : SV} (H : List Blk) (h : 1 ≤ nt) : enter nt [a] H = ⟨mk nt .undef [(0, a)], H⟩ := enter_mk H h
theorem enter_2 {nt : Nat} {a b : SV} (H : List Blk) (h : 2 ≤ nt) : enter nt [a, b] H = ⟨mk nt .undef [(0, a), (1, b)], H⟩ := enter_mk H h
theorem enter_3 {nt : Nat} {a b c : SV} (H : List Blk) (h : 3 ≤ nt) : enter nt [a, b, c] H = ⟨mk nt .undef [(0, a), (1, b), (2, c)], H⟩ := enter_mk H h
theorem enter_4 {nt : Nat} {a b c d : SV} (H : List Blk) (h : 4 ≤ nt) : enter nt [a, b, c, d] H = ⟨mk nt .undef [(0, a), (1, b), (2, c), (3, d)], H⟩ := enter_mk H h
theorem enter_5 {nt : Nat} {a b c d e : SV} (H : List Blk) (h : 5 ≤ nt) : enter nt [a, b, c, d, e] H = ⟨mk nt .undef [(0, a), (1, b), (2, c), (3, d), (4, e)], H⟩ := enter_mk H h

/-- Forgetting all but some slots. -/
def Keeps (j : SV) (l : List (Nat × SV)) : List (Nat × SV) → Prop
  | [] => True
  | (d, v) :: r => look j l d = v ∧ Keeps j l r
theorem keeps_nil (j : SV) (l : List (Nat × SV)) : Keeps j l [] ↔ True := Iff.rfl
theorem keeps_cons (j : SV) (l r : List (Nat × SV)) (d : Nat) (v : SV) : Keeps j l ((d, v) :: r) ↔ look j l d = v ∧ Keeps j l r := Iff.rfl
theorem keeps_look {j : SV} {l : List (Nat × SV)} : ∀ {r : List (Nat × SV)}, Keeps j l r → ∀ i, isJ (look .J r i) = true ∨ look .J r i = look j l i
  | [], _, i => .inl rfl
  | (d, v) :: r, h, i => by
    rw [look_cons]
    split
    · rename_i e; subst e; exact .inr h.1.symm
    · exact keeps_look h.2 i
theorem le_mk {n : Nat} {j : SV} {l r : List (Nat × SV)} {H : List Blk} (h : Keeps j l r) : Le ⟨mk n .J r, H⟩ ⟨mk n j l, H⟩ := by
  refine ⟨rfl, by simp [mk_len], fun i a b ha hb => ?_⟩
  simp only [mk_get] at ha hb
  split at ha
  · rename_i hi
    rw [if_pos hi] at hb
    cases ha; cases hb
    exact keeps_look h i
  · cases ha
theorem X_keep {Y : TypeId → Option Ty} {T : FuncId → Option Spec} {rs : List ResultVar} {F : List Fr} {P : SV × List Blk → Prop} {c : Code} {n : Nat} {j : SV} {l r : List (Nat × SV)} {H : List Blk}
    (hx : X Y T rs F c ⟨mk n .J r, H⟩ P) (h : Keeps j l r) : X Y T rs F c ⟨mk n j l, H⟩ P := X_le (le_mk h) hx

attribute [congr] XQ_congr XW_congr XH_congr XO_congr XG_congr XS_congr XC_congr XF_congr
attribute [simp ↓] X_seq X_block X_scope X_label X_reg X_regD XQ_none XH_nil XH_strict XH_one XH_held XH_two XH_watch0 XH_watch1 XW_ptr XW_pv aopP_noPl aopP_move aopP_assign aopP_pick aopP_build aopP_buildSlice aopP_load aopP_loadS aopP_store aopP_storeS memOk_load memOk_store ifM_true aopP_nilCheck aopP_binOp aopP_unOp aopP_convert aopP_makeInterface aopP_makeFunc aopP_slice aopP_fieldAddr aopP_field aopP_indexAddr aopP_index aopP_extract aopP_call aopP_loadW aopP_storeW aopP_storeL aopP_callW aopP_allocW aopP_boxW loadW_ptr loadW_cptr  aopP_alloc aopP_box X_cond_mk K_seq K_loop K_block K_nil_mk E_seq E_loop E_block X_ret_mk XA_nil XA_plain_mk XA_guard_mk XO_some_mk XO_some_none XO_none XO_ite XO_map XS_some XG_yes XG_no XG_yes0 XG_no0 XG_undef XG_undef0
  Br_true Br_false Br_decide Br_beq Br_bne Br_not Br_and Br_or XC_bool XF_some look_nil look_cons aval_mk aval_const aval_func gslot_zero gslot_succ aresult_mk aresult_cell_mk aresults tab_nil tab_cons specFn_pure specFn_heap specFn_read rdC_some rdP_some resCs resC aop avals aCallOp aBuild layAll aSlice aSlice3 aFull aBound aBuildSlice aMakeFunc
attribute [simp ↓ low] Br_any
attribute [simp] cusD cusOf XQ_none XH_nil XH_one XH_held XH_two XW_ptr XW_pv frameC_same frameC_set watchTmp watch0 stepBack traceB tmpOf aAppendX strTo isU8 aConvX aConvY ev_eq XO_some_mk XO_some_none XO_none XO_ite XO_map XS_some XG_yes XG_no XG_yes0 XG_no0 XG_undef XG_undef0 XC_bool XF_some Is_mk map_ite retC_some retC_none retC_ite callP_some aresult_mk aresult_cell_mk wantC keeps_nil keeps_cons
end Go.Pm
