/- A region whose order is drawn: every order that its edges allow comes to the text's end. No program in sight. -/
import Derived.Test.YtkckpmcpmngiiaaGreatDoorPmDraw
set_option linter.unusedSimpArgs false
set_option linter.unusedVariables false
set_option linter.unusedSectionVars false
namespace Go.Pm

section
variable (Y : TypeId → Option Ty) (T : FuncId → Option Spec) (pl : PL) (ops : Array Oper)

noncomputable def astep (i : Nat) (s : St) : Option St := match ops[i]? with
  | none => some s
  | some o => aops Y T pl ops.toList [o] s

noncomputable def afold : List Nat → St → Option St
  | [], s => some s
  | i :: r, s => (astep Y T pl ops i s).bind (afold r)

/-- Before, by the edges that always bind. -/
def bef (i j : Nat) : Bool := ((masks ops.toList []).getD j 0).testBit i

/-- Two operations that may change places. -/
def Swappable (i j : Nat) : Prop := ∀ s s', (astep Y T pl ops i s).bind (astep Y T pl ops j) = some s' → (astep Y T pl ops j s).bind (astep Y T pl ops i) = some s'

variable {Y T pl ops}

theorem aops_cons (full : List Oper) (o : Oper) (r : List Oper) (s : St) : aops Y T pl full (o :: r) s = (aops Y T pl full [o] s).bind (aops Y T pl full r) := by
  simp only [aops]
  split
  · split <;> rfl
  · rfl
  · rfl

theorem aops_afold : ∀ (k : Nat) (n : Nat), k + n = ops.size → ∀ s, aops Y T pl ops.toList (ops.toList.drop k) s = afold Y T pl ops (List.range' k n) s
  | k, 0, h, s => by
    have : ops.toList.drop k = [] := by simp; omega
    rw [this]; rfl
  | k, n + 1, h, s => by
    have hk : k < ops.toList.length := by simp; omega
    rw [List.drop_eq_getElem_cons hk, aops_cons]
    simp only [List.range'_succ, afold, astep]
    have : ops[k]? = some (ops.toList[k]) := by simp
    rw [this]
    congr 1
    funext s'
    exact aops_afold (k + 1) n (by omega) s'

theorem aops_range (s : St) : aops Y T pl ops.toList ops.toList s = afold Y T pl ops (List.range ops.size) s := by
  have := aops_afold (Y := Y) (T := T) (pl := pl) (ops := ops) 0 ops.size (by simp) s
  simpa [List.range_eq_range'] using this

theorem afold_front {i : Nat} : ∀ (l1 : List Nat) (l2 : List Nat) (s s' : St), (∀ x ∈ l1, Swappable Y T pl ops x i) → afold Y T pl ops (l1 ++ i :: l2) s = some s' → afold Y T pl ops (i :: (l1 ++ l2)) s = some s'
  | [], l2, s, s', _, h => h
  | x :: l1, l2, s, s', hx, h => by
    simp only [List.cons_append, afold] at h
    cases hs : astep Y T pl ops x s with
    | none => simp [hs] at h
    | some s1 =>
      simp [hs] at h
      have h2 := afold_front l1 l2 s1 s' (fun y hy => hx y (by simp [hy])) h
      simp only [afold] at h2
      cases hi : astep Y T pl ops i s1 with
      | none => simp [hi] at h2
      | some s2 =>
        simp [hi] at h2
        have h3 := hx x (by simp) s s2 (by simp [hs, hi])
        simp only [List.cons_append, afold]
        cases h4 : astep Y T pl ops i s with
        | none => simp [h4] at h3
        | some s3 => simp [h4] at h3; simp [h3, h2]

/-- Every order that the edges allow comes to s'. -/
def anyOk (Y : TypeId → Option Ty) (T : FuncId → Option Spec) (pl : PL) (ops : Array Oper) : Nat → Array Bool → St → St → Prop
  | 0, listed, s, s' => Region.ready .any ops listed = [] ∧ s = s'
  | n + 1, listed, s, s' => (Region.ready .any ops listed = [] → s = s') ∧ ∀ i ∈ Region.ready .any ops listed, ∃ s1, astep Y T pl ops i s = some s1 ∧ anyOk Y T pl ops n (listed.setIfInBounds i true) s1 s'

def restOf (ops : Array Oper) (listed : Array Bool) : List Nat := (List.range ops.size).filter fun j => !listed.getD j true

def Closed (ops : Array Oper) (listed : Array Bool) : Prop := ∀ i j, bef ops i j = true → listed.getD j true = true → listed.getD i true = true

theorem getD_set (listed : Array Bool) (i j : Nat) (d : Bool) : (listed.setIfInBounds i true).getD j d = if i = j ∧ i < listed.size then true else listed.getD j d := by
  simp only [Array.getD_eq_getD_getElem?, Array.getElem?_setIfInBounds]
  by_cases h : i = j
  · subst h
    by_cases h2 : i < listed.size
    · simp [h2]
    · simp [h2]
  · simp [h]

theorem filter_split {p q : Nat → Bool} {n i : Nat} (hi : i < n) (hp : p i = true) (hq : ∀ j, q j = (p j && !(j == i))) :
    ∃ l1 l2, (List.range n).filter p = l1 ++ i :: l2 ∧ (List.range n).filter q = l1 ++ l2 ∧ ∀ x ∈ l1, x < i ∧ p x = true := by
  have e : List.range n = List.range i ++ i :: List.range' (i + 1) (n - i - 1) := by
    rw [List.range_eq_range', List.range_eq_range']
    have h1 : n = i + ((n - i - 1) + 1) := by omega
    rw [show List.range' 0 n = List.range' 0 (i + ((n - i - 1) + 1)) by rw [← h1]]
    rw [← List.range'_append_1, List.range'_succ]
    simp
  refine ⟨(List.range i).filter p, (List.range' (i + 1) (n - i - 1)).filter p, ?_, ?_, ?_⟩
  · rw [e, List.filter_append, List.filter_cons, if_pos hp]
  · rw [e, List.filter_append, List.filter_cons]
    have : q i = false := by rw [hq]; simp
    rw [if_neg (by simp [this])]
    congr 1
    · refine List.filter_congr fun x hx => ?_
      have : x < i := by simpa using hx
      rw [hq]
      have : (x == i) = false := by simp; omega
      simp [this]
    · refine List.filter_congr fun x hx => ?_
      have : i + 1 ≤ x := by simp at hx; exact hx.1
      rw [hq]
      have : (x == i) = false := by simp; omega
      simp [this]
  · intro x hx
    simp at hx
    exact hx

theorem mask_step (o : Oper) (acc : List Nat) (x : Nat) (h : (maskOf acc o).testBit x = true) : ∃ e ∈ o.after, Region.binds .any e = true ∧ (x = e.on ∨ (acc.getD e.on 0).testBit x = true) := by
  have main : ∀ (l : List Edge) (m : Nat), (l.foldl (fun m e => if Region.binds .any e then m ||| (2 ^ e.on) ||| acc.getD e.on 0 else m) m).testBit x = true → m.testBit x = true ∨ ∃ e ∈ l, Region.binds .any e = true ∧ (x = e.on ∨ (acc.getD e.on 0).testBit x = true) := by
    intro l
    induction l with
    | nil => intro m h; exact .inl h
    | cons e r ih =>
      intro m h
      simp only [List.foldl_cons] at h
      rcases ih _ h with h1 | ⟨e', h1, h2⟩
      · split at h1
        · rename_i hb
          simp only [Nat.testBit_or, Bool.or_eq_true] at h1
          rcases h1 with (h1 | h1) | h1
          · exact .inl h1
          · refine .inr ⟨e, by simp, hb, .inl ?_⟩
            simp [Nat.testBit_two_pow] at h1
            exact h1.symm
          · exact .inr ⟨e, by simp, hb, .inr h1⟩
        · exact .inl h1
      · exact .inr ⟨e', by simp [h1], h2⟩
  rcases main o.after.toList 0 h with h1 | ⟨e, h1, h2⟩
  · simp at h1
  · exact ⟨e, by simpa using h1, h2⟩

theorem masks_len : ∀ (l : List Oper) (acc : List Nat), (masks l acc).length = acc.length + l.length
  | [], acc => by simp [masks]
  | o :: r, acc => by simp [masks, masks_len r]; omega

theorem masks_keep : ∀ (l : List Oper) (acc : List Nat) (j : Nat), j < acc.length → (masks l acc)[j]? = acc[j]?
  | [], acc, j, _ => rfl
  | o :: r, acc, j, h => by
    simp only [masks]
    rw [masks_keep r _ j (by simp; omega), List.getElem?_append_left h]

theorem masks_get : ∀ (l : List Oper) (acc : List Nat) (j : Nat) (o : Oper), l[j]? = some o → ∃ acc', (masks l acc)[acc.length + j]? = some (maskOf acc' o) ∧ (∀ k, (acc'.getD k 0).testBit = ((masks l acc).getD k 0).testBit ∨ acc'.getD k 0 = 0)
  | [], acc, j, o, h => by simp at h
  | o' :: r, acc, 0, o, h => by
    simp at h; subst h
    refine ⟨acc, ?_, fun k => ?_⟩
    · simp only [masks]; rw [masks_keep r _ _ (by simp)]; simp
    · by_cases hk : k < acc.length
      · refine .inl ?_
        have := masks_keep (o' :: r) acc k hk
        simp only [List.getD_eq_getElem?_getD, this]
      · refine .inr ?_
        simp [List.getD_eq_getElem?_getD, List.getElem?_eq_none (Nat.le_of_not_lt hk)]
  | o' :: r, acc, j + 1, o, h => by
    simp at h
    obtain ⟨acc', h1, h2⟩ := masks_get r (acc ++ [maskOf acc o']) j o h
    refine ⟨acc', ?_, ?_⟩
    · simp only [masks]
      simp at h1
      rw [← h1]; congr 1; omega
    · simpa only [masks] using h2

theorem bef_step {i j : Nat} {o : Oper} (ho : ops[j]? = some o) (h : bef ops i j = true) : ∃ e ∈ o.after, Region.binds .any e = true ∧ (i = e.on ∨ bef ops i e.on = true) := by
  obtain ⟨acc', h1, h2⟩ := masks_get ops.toList [] j o (by simpa using ho)
  unfold bef at h
  simp at h1
  rw [List.getD_eq_getElem?_getD, h1] at h
  obtain ⟨e, he, hb, h3⟩ := mask_step o acc' i h
  refine ⟨e, he, hb, ?_⟩
  rcases h3 with h3 | h3
  · exact .inl h3
  · rcases h2 e.on with h4 | h4
    · refine .inr ?_
      unfold bef; rw [← h4]; exact h3
    · rw [h4] at h3; simp at h3

theorem bef_none {i j : Nat} (ho : ops[j]? = none) : bef ops i j = false := by
  unfold bef
  have : (masks ops.toList []).length ≤ j := by rw [masks_len]; simpa using ho
  rw [List.getD_eq_getElem?_getD, List.getElem?_eq_none this]
  simp

theorem getD_true_iff {listed : Array Bool} (hl : listed.size = ops.size) {j : Nat} : listed.getD j false = true ↔ listed.getD j true = true ∧ j < ops.size := by
  simp only [Array.getD_eq_getD_getElem?]
  by_cases h : j < listed.size
  · simp [h, ← hl]
  · simp [h, ← hl]

/-- The check's facts. -/
structure DrawFacts (Y : TypeId → Option Ty) (T : FuncId → Option Spec) (pl : PL) (ops : Array Oper) : Prop where
  back : ∀ (i : Nat) (o : Oper) (e : Edge), ops[i]? = some o → e ∈ o.after → Region.binds .any e = true → e.on < i
  lt : ∀ i j, bef ops i j = true → j < ops.size → i < j
  swap : ∀ i j, i < j → j < ops.size → bef ops i j = false → Swappable Y T pl ops i j

theorem any_of_facts (F : DrawFacts Y T pl ops) : ∀ (n : Nat) (listed : Array Bool) (s s' : St), listed.size = ops.size → Closed ops listed → (restOf ops listed).length ≤ n → afold Y T pl ops (restOf ops listed) s = some s' → anyOk Y T pl ops n listed s s' := by
  have hready : ∀ listed : Array Bool, listed.size = ops.size → Region.ready .any ops listed = [] → restOf ops listed = [] := by
    intro listed hl hr
    by_cases hne : restOf ops listed = []
    · exact hne
    · exfalso
      have : ∃ i, i < ops.size ∧ listed.getD i true = false := by
        obtain ⟨x, hx⟩ := List.exists_mem_of_ne_nil _ hne
        simp [restOf] at hx
        exact ⟨x, hx.1, by simpa using hx.2⟩
      obtain ⟨m, ⟨hm1, hm2⟩, hmin⟩ : ∃ m, (m < ops.size ∧ listed.getD m true = false) ∧ ∀ k, k < m → ¬ (k < ops.size ∧ listed.getD k true = false) := by
        obtain ⟨i, hi⟩ := this
        have strong : ∀ n i, i ≤ n → (i < ops.size ∧ listed.getD i true = false) → ∃ m, (m < ops.size ∧ listed.getD m true = false) ∧ ∀ k, k < m → ¬ (k < ops.size ∧ listed.getD k true = false) := by
          intro n
          induction n with
          | zero => intro i hin hi; exact ⟨i, hi, fun k hk => by omega⟩
          | succ n ih =>
            intro i hin hi
            by_cases hex : ∃ k, k < i ∧ (k < ops.size ∧ listed.getD k true = false)
            · obtain ⟨k, hk, hk2⟩ := hex
              exact ih k (by omega) hk2
            · exact ⟨i, hi, fun k hk hk2 => hex ⟨k, hk, hk2⟩⟩
        exact strong i i (Nat.le_refl _) hi
      have : m ∈ Region.ready .any ops listed := by
        unfold Region.ready
        rw [List.mem_filter]
        refine ⟨by simpa using hm1, ?_⟩
        rw [hm2]
        have ho : ops[m]? = some ops[m] := Array.getElem?_eq_getElem hm1
        rw [ho]
        simp only [Bool.not_false, Bool.true_and, Option.map_some, Option.getD_some]
        rw [Array.all_eq_true_iff_forall_mem]
        intro e he
        cases hb : Region.binds .any e with
        | false => simp
        | true =>
          have hlt := F.back m _ e ho he hb
          have := hmin e.on hlt
          have h2 : e.on < ops.size := by omega
          simp only [Bool.not_true, Bool.false_or]
          refine (getD_true_iff hl).2 ⟨?_, h2⟩
          cases h3 : listed.getD e.on true with
          | true => rfl
          | false => exact absurd ⟨h2, h3⟩ this
      rw [hr] at this
      cases this
  intro n
  induction n with
  | zero =>
    intro listed s s' hl hc hlen h
    have hnil : restOf ops listed = [] := List.length_eq_zero_iff.1 (by omega)
    rw [hnil] at h
    refine ⟨?_, by simpa [afold] using h⟩
    unfold Region.ready
    rw [List.filter_eq_nil_iff]
    intro x hx hx2
    simp at hx2
    have : x ∈ restOf ops listed := by
      simp only [restOf, List.mem_filter]
      exact ⟨hx, by simpa using hx2.1⟩
    rw [hnil] at this; cases this
  | succ n ih =>
    intro listed s s' hl hc hlen h
    refine ⟨fun hr => ?_, fun i hi => ?_⟩
    · rw [hready listed hl hr] at h
      simpa [afold] using h
    · have hi0 := hi
      unfold Region.ready at hi
      rw [List.mem_filter] at hi
      obtain ⟨hi1, hi2⟩ := hi
      have hi1 : i < ops.size := by simpa using hi1
      have ho : ops[i]? = some ops[i] := Array.getElem?_eq_getElem hi1
      rw [ho] at hi2
      simp only [Option.map_some, Option.getD_some, Bool.and_eq_true, Bool.not_eq_true'] at hi2
      obtain ⟨hun, hedges⟩ := hi2
      have hbefore : ∀ x, bef ops x i = true → listed.getD x true = true := by
        intro x hx
        obtain ⟨e, he, hb, h3⟩ := bef_step ho hx
        rw [Array.all_eq_true_iff_forall_mem] at hedges
        have h4 := hedges e he
        simp only [hb, Bool.not_true, Bool.false_or] at h4
        have h5 := ((getD_true_iff hl).1 h4).1
        rcases h3 with rfl | h3
        · exact h5
        · exact hc x e.on h3 h5
      obtain ⟨l1, l2, e1, e2, h1⟩ := filter_split (p := fun j => !listed.getD j true) (q := fun j => !(listed.setIfInBounds i true).getD j true) hi1 (by simp [hun]) (by
        intro j
        simp only [getD_set]
        by_cases hij : i = j
        · subst hij
          simp [hl, hi1]
        · have : (j == i) = false := by simp; exact fun e => hij e.symm
          simp [hij, this])
      have e1' : restOf ops listed = l1 ++ i :: l2 := e1
      have e2' : restOf ops (listed.setIfInBounds i true) = l1 ++ l2 := e2
      rw [e1'] at h hlen
      have h2 := afold_front l1 l2 s s' (fun x hx => by
        obtain ⟨hxi, hxu⟩ := h1 x hx
        refine F.swap x i hxi hi1 ?_
        cases hb : bef ops x i with
        | false => rfl
        | true => have := hbefore x hb; rw [this] at hxu; cases hxu) h
      simp only [afold] at h2
      cases hs : astep Y T pl ops i s with
      | none => simp [hs] at h2
      | some s1 =>
        simp [hs] at h2
        refine ⟨s1, rfl, ih _ s1 s' (by simpa using hl) ?_ ?_ (by rw [e2']; exact h2)⟩
        · intro x j hb hj
          rw [getD_set] at hj ⊢
          split
          · rfl
          · split at hj
            · rename_i hij
              rw [← hij.1] at hb
              exact hbefore x hb
            · exact hc x j hb hj
        · rw [e2']; simp at hlen ⊢; omega

noncomputable def stepOut (Y : TypeId → Option Ty) (T : FuncId → Option Spec) (pl : PL) (ops : Array Oper) (o : Oper) (tm : List SV) (H : List Blk) : Option (SV × List Blk) :=
  match aWanted ops.toList tm o with
  | some true => aopP Y T pl o.dst H (aval tm) o.op
  | some false => some (.undef, H)
  | none => none

theorem astep_eq {i : Nat} {o : Oper} (ho : ops[i]? = some o) (s : St) : astep Y T pl ops i s = (stepOut Y T pl ops o s.tm s.H).map fun r => ⟨put s.tm o.dst r.1, r.2⟩ := by
  unfold astep stepOut
  simp only [ho, aops]
  split
  · rename_i hw
    rw [hw]
    cases h : aopP Y T pl o.dst s.H (aval s.tm) o.op with
    | none => rfl
    | some r => obtain ⟨v, H⟩ := r; rfl
  · rename_i hw; rw [hw]; rfl
  · rename_i hw; rw [hw]; rfl

theorem stepOut_put {o : Oper} {tm : List SV} {H : List Blk} {d : Option Tmp} {v : SV} (h : ∀ x, d = some x → x ∉ o.looksAt ops) : stepOut Y T pl ops o (put tm d v) H = stepOut Y T pl ops o tm H := by
  cases d with
  | none => rfl
  | some d =>
    have hd := h d rfl
    unfold Oper.looksAt at hd
    rw [List.mem_append] at hd
    have hw : aWanted ops.toList (put tm (some d) v) o = aWanted ops.toList tm o := by
      unfold aWanted
      cases hg : o.guard with
      | none => rfl
      | some g =>
        obtain ⟨j, want⟩ := g
        simp only []
        cases hj : (ops.toList[j]?).bind (·.dst) with
        | none => rfl
        | some d' =>
          have hne : d ≠ d' := by
            intro e; subst e
            apply hd
            refine .inr ?_
            rw [hg]
            have : (ops[j]?).bind (·.dst) = some d := by simpa using hj
            simp [this]
          simp only [put]
          rw [List.getElem?_set_ne hne]
    have ha : aopP Y T pl o.dst H (aval (put tm (some d) v)) o.op = aopP Y T pl o.dst H (aval tm) o.op := by
      refine aopP_congr fun x hx => ?_
      cases x with
      | tmp t =>
        have hne : d ≠ t := by
          intro e; subst e
          apply hd
          exact .inl (List.mem_filterMap.2 ⟨.tmp d, by simpa using hx, rfl⟩)
        simp only [aval, put]
        rw [List.getD_eq_getElem?_getD, List.getD_eq_getElem?_getD, List.getElem?_set_ne hne]
      | _ => rfl
    unfold stepOut
    rw [hw, ha]

theorem stepOut_heap {o : Oper} {tm : List SV} {H H' : List Blk} {v : SV} (h : stepOut Y T pl ops o tm H = some (v, H')) :
    (boxOp T o.op = false → SameBox H H') ∧ (effOp T o.op = false → H' = H ∧ ∀ H1, (lookOp T o.op = true → ExtBox H H1) → stepOut Y T pl ops o tm H1 = some (v, H1)) := by
  unfold stepOut at h ⊢
  split at h
  · rename_i hw
    obtain ⟨h1, h2⟩ := aopP_heap (fun _ => rfl) h
    exact ⟨h1, fun e => ⟨(h2 e).1, fun H1 hb => (h2 e).2 H1 hb⟩⟩
  · rename_i hw
    cases h
    exact ⟨fun _ => .refl _, fun _ => ⟨rfl, fun _ _ => rfl⟩⟩
  · cases h

theorem put_comm {tm : List SV} {d d' : Option Tmp} {v v' : SV} (h : ∀ x, d = some x → d' ≠ some x) : put (put tm d v) d' v' = put (put tm d' v') d v := by
  cases d with
  | none => rfl
  | some x =>
    cases d' with
    | none => rfl
    | some y =>
      simp only [put]
      have : x ≠ y := fun e => h x rfl (by rw [e])
      rw [List.set_comm _ _ this]

theorem fill_ext {H H' : List Blk} {k : Nat} {cs : Option TypeId × List SV} {v : SV} (h : fill H k cs = some (v, H')) : ExtBox H H' := by
  unfold fill at h
  split at h
  · rename_i hk
    cases h
    intro i _ ds hi
    rw [List.getElem?_set]
    split
    · rename_i e; subst e; rw [hk] at hi; cases hi
    · exact hi
  · cases h

theorem fill_comm {H H1 H2 : List Blk} {k1 k2 : Nat} {a b : Option TypeId × List SV} {v1 v2 : SV} (hne : k1 ≠ k2) (h1 : fill H k1 a = some (v1, H1)) (h2 : fill H1 k2 b = some (v2, H2)) :
    ∃ H3, fill H k2 b = some (v2, H3) ∧ fill H3 k1 a = some (v1, H2) := by
  unfold fill at h1 h2 ⊢
  split at h1
  · rename_i e1
    cases h1
    rw [List.getElem?_set_ne hne] at h2
    split at h2
    · rename_i e2
      cases h2
      refine ⟨_, rfl, ?_⟩
      rw [List.getElem?_set_ne (Ne.symm hne), e1]
      simp only [List.set_comm _ _ hne]
    · cases h2
  · cases h1

/-- What a new box will hold; nothing where the guard says no. -/
def stepNew (Y : TypeId → Option Ty) (ops : Array Oper) (o : Oper) (tm : List SV) : Option (Option (Option TypeId × List SV)) := match aWanted ops.toList tm o with
  | some true => (newCells Y (aval tm) o.op).map some
  | some false => some none
  | none => none

def fillO (H : List Blk) (k : Nat) : Option (Option TypeId × List SV) → Option (SV × List Blk)
  | some cs => fill H k cs
  | none => some (.undef, H)

theorem stepOut_new {o : Oper} {tm : List SV} {H : List Blk} {k : Nat} (hw : pl.wm = none) (hn : isNew o.op = true) (hp : pl o.dst = some k) : stepOut Y T pl ops o tm H = (stepNew Y ops o tm).bind (fillO H k) := by
  unfold stepOut stepNew
  split
  · simp only [aopP, hw, hn, hp, cond_true]
    cases newCells Y (aval tm) o.op <;> rfl
  · rfl
  · rfl

theorem fillO_ext {H H' : List Blk} {k : Nat} {c : Option (Option TypeId × List SV)} {v : SV} (h : fillO H k c = some (v, H')) : ExtBox H H' := by
  cases c with
  | none => cases h; exact fun _ _ _ h => h
  | some cs => exact fill_ext h

theorem fillO_comm {H H1 H2 : List Blk} {k1 k2 : Nat} {a b : Option (Option TypeId × List SV)} {v1 v2 : SV} (hne : k1 ≠ k2) (h1 : fillO H k1 a = some (v1, H1)) (h2 : fillO H1 k2 b = some (v2, H2)) :
    ∃ H3, fillO H k2 b = some (v2, H3) ∧ fillO H3 k1 a = some (v1, H2) := by
  cases a with
  | none => cases h1; exact ⟨H2, h2, rfl⟩
  | some a =>
    cases b with
    | none => cases h2; exact ⟨H, rfl, h1⟩
    | some b => exact fill_comm hne h1 h2

/-- A new box whose place was kept. -/
def NewAt (pl : PL) (o : Oper) : Prop := isNew o.op = true ∧ pl.wm = none ∧ ∃ k, pl o.dst = some k

theorem stepOut_ext {o : Oper} {tm : List SV} {H H' : List Blk} {v : SV} (hn : NewAt pl o) (h : stepOut Y T pl ops o tm H = some (v, H')) : ExtBox H H' := by
  obtain ⟨h1, hw, k, h2⟩ := hn
  rw [stepOut_new hw h1 h2] at h
  cases hs : stepNew Y ops o tm with
  | none => rw [hs] at h; cases h
  | some c => rw [hs] at h; exact fillO_ext h

theorem swap_new {i j : Nat} {oi oj : Oper} (hi : ops[i]? = some oi) (hj : ops[j]? = some oj)
    (h1 : ∀ x, oi.dst = some x → x ∉ oj.looksAt ops) (h2 : ∀ x, oj.dst = some x → x ∉ oi.looksAt ops) (h3 : ∀ x, oi.dst = some x → oj.dst ≠ some x)
    {k1 k2 : Nat} (hw : pl.wm = none) (ni : isNew oi.op = true) (nj : isNew oj.op = true) (p1 : pl oi.dst = some k1) (p2 : pl oj.dst = some k2) (hne : k1 ≠ k2) : Swappable Y T pl ops i j := by
  intro s s' h
  rw [astep_eq hi, stepOut_new hw ni p1] at h
  cases c1 : stepNew Y ops oi s.tm with
  | none => simp [c1] at h
  | some a =>
  simp only [c1, Option.bind_some] at h
  cases e1 : fillO s.H k1 a with
  | none => simp [e1] at h
  | some r1 =>
  obtain ⟨vi, H1⟩ := r1
  simp only [e1, Option.map_some, Option.bind_some] at h
  rw [astep_eq hj] at h
  simp only [stepOut_put h1] at h
  rw [stepOut_new hw nj p2] at h
  cases c2 : stepNew Y ops oj s.tm with
  | none => simp [c2] at h
  | some b =>
  simp only [c2, Option.bind_some] at h
  cases e2 : fillO H1 k2 b with
  | none => simp [e2] at h
  | some r2 =>
  obtain ⟨vj, H2⟩ := r2
  simp only [e2, Option.map_some, Option.some.injEq] at h
  subst h
  obtain ⟨H3, e3, e4⟩ := fillO_comm hne e1 e2
  rw [astep_eq hj, stepOut_new hw nj p2, c2]
  simp only [Option.bind_some, e3, Option.map_some]
  rw [astep_eq hi]
  simp only [stepOut_put h2]
  rw [stepOut_new hw ni p1, c1]
  simp only [Option.bind_some, e4, Option.map_some]
  rw [put_comm h3]

theorem swap_of {i j : Nat} {oi oj : Oper} (hi : ops[i]? = some oi) (hj : ops[j]? = some oj)
    (h1 : ∀ x, oi.dst = some x → x ∉ oj.looksAt ops) (h2 : ∀ x, oj.dst = some x → x ∉ oi.looksAt ops) (h3 : ∀ x, oi.dst = some x → oj.dst ≠ some x)
    (h4 : effOp T oi.op = false ∨ effOp T oj.op = false) (h5 : lookOp T oi.op = true → boxOp T oj.op = false ∨ (NewAt pl oj ∧ effOp T oi.op = false)) (h6 : lookOp T oj.op = true → boxOp T oi.op = false) : Swappable Y T pl ops i j := by
  intro s s' h
  rw [astep_eq hi] at h
  cases e1 : stepOut Y T pl ops oi s.tm s.H with
  | none => simp [e1] at h
  | some r1 =>
    obtain ⟨vi, H1⟩ := r1
    simp [e1] at h
    rw [astep_eq hj] at h
    simp only [stepOut_put h1] at h
    cases e2 : stepOut Y T pl ops oj s.tm H1 with
    | none => simp [e2] at h
    | some r2 =>
      obtain ⟨vj, H2⟩ := r2
      simp [e2] at h
      subst h
      obtain ⟨b1, c1⟩ := stepOut_heap e1
      obtain ⟨b2, c2⟩ := stepOut_heap e2
      rw [astep_eq hj]
      rcases h4 with h4 | h4
      · have c1' := (c1 h4).2
        have e0 := (c1 h4).1
        subst e0
        rw [e2]
        simp only [Option.map_some, Option.bind_some]
        rw [astep_eq hi]
        simp only [stepOut_put h2]
        rw [c1' H2 (fun hl => (h5 hl).elim (fun hb => (b2 hb).ext) (fun hn => stepOut_ext hn.1 e2))]
        simp only [Option.map_some]
        rw [put_comm h3]
      · have c2' := (c2 h4).2
        have e0 := (c2 h4).1
        subst e0
        rw [c2' s.H (fun hl => (b1 (h6 hl)).symm.ext)]
        simp only [Option.map_some, Option.bind_some]
        rw [astep_eq hi]
        simp only [stepOut_put h2, e1]
        simp only [Option.map_some]
        rw [put_comm h3]

theorem load_step {o : Oper} {tm : List SV} {H H' : List Blk} {v : SV} {base : Nat} (hw0 : pl.wm = none) (hp : pl none = some base) (hl : isLoad o.op = true) (h : stepOut Y T pl ops o tm H = some (v, H')) :
    H' = H ∧ ∀ H1 : List Blk, (∀ k, k < base → H1[k]? = H[k]?) → stepOut Y T pl ops o tm H1 = some (v, H1) := by
  unfold stepOut at h ⊢
  split at h
  · rename_i hw
    (try rw [hw])
    (try simp only [])
    cases hop : o.op <;> rw [hop] at hl <;> simp [isLoad] at hl
    rename_i t a
    rw [hop] at h
    simp only [aopP, hw0, isNew, isLoad, Bool.true_or, cond_true, cond_false, hp, memC, memOk] at h ⊢
    cases ha : aval tm a with
    | none => simp [ha, aop, ifM] at h
    | some u =>
      rw [ha] at h
      simp only [aop, ha] at h ⊢
      cases u with
      | ptr k off =>
        simp only [] at h ⊢
        by_cases hk : k < base
        · simp only [decide_eq_true hk, ifM] at h ⊢
          cases hL : aLoad Y H t (.ptr k off) with
          | none => simp [hL] at h
          | some r =>
            simp only [hL, Option.map_some, Option.some.injEq, Prod.mk.injEq] at h
            obtain ⟨rfl, rfl⟩ := h
            refine ⟨rfl, fun H1 hH => ?_⟩
            have : aLoad Y H1 t (.ptr k off) = some r := by
              rw [← hL]; unfold aLoad; simp only [hH k hk]
            simp [this]
        · simp only [decide_eq_false hk, ifM] at h; cases h
      | cptr cs =>
        simp only [ifM] at h ⊢
        cases hL : aLoad Y H t (.cptr cs) with
        | none => simp [hL] at h
        | some r =>
          simp only [hL, Option.map_some, Option.some.injEq, Prod.mk.injEq] at h
          obtain ⟨rfl, rfl⟩ := h
          refine ⟨rfl, fun H1 hH => ?_⟩
          have : aLoad Y H1 t (.cptr cs) = some r := by
            rw [← hL]; unfold aLoad; rfl
          simp [this]
      | cadr b0 o0 cs =>
        simp only [ifM] at h ⊢
        cases hL : aLoad Y H t (.cadr b0 o0 cs) with
        | none => simp [hL] at h
        | some r =>
          simp only [hL, Option.map_some, Option.some.injEq, Prod.mk.injEq] at h
          obtain ⟨rfl, rfl⟩ := h
          refine ⟨rfl, fun H1 hH => ?_⟩
          have : aLoad Y H1 t (.cadr b0 o0 cs) = some r := by
            rw [← hL]; unfold aLoad; rfl
          simp [this]
      | _ => simp only [ifM, aLoad] at h; split at h <;> simp_all
  · cases h; exact ⟨rfl, fun H1 _ => by rename_i hw; simp [hw]⟩
  · cases h

theorem store_step {o : Oper} {tm : List SV} {H H' : List Blk} {v : SV} {base : Nat} (hw0 : pl.wm = none) (hp : pl none = some base) (hl : isStore o.op = true) (h : stepOut Y T pl ops o tm H = some (v, H')) :
    ∀ k, k < base → H'[k]? = H[k]? := by
  unfold stepOut at h
  split at h
  · cases hop : o.op <;> rw [hop] at hl <;> simp [isStore] at hl
    rename_i t a x
    rw [hop] at h
    simp only [aopP, hw0, isNew, isLoad, isStore, Bool.or_true, cond_true, cond_false, hp, memC, memOk, aop] at h
    cases ha : aval tm a with
    | none => simp [ha, ifM] at h
    | some u =>
      rw [ha] at h
      cases u with
      | ptr k off =>
        simp only [] at h
        by_cases hk : base ≤ k
        · simp only [decide_eq_true hk, ifM] at h
          cases hx : aval tm x with
          | none => simp [hx] at h
          | some w =>
            simp only [hx] at h
            unfold aStore at h
            split at h
            · rename_i y k' off' vs _ e1 e2
              cases e1
              split at h
              · split at h
                · simp at h
                  obtain ⟨_, rfl⟩ := h
                  intro j hj
                  rw [List.getElem?_set_ne (by omega)]
                · simp at h
              · simp at h
            · simp at h
        · simp only [decide_eq_false hk, ifM] at h; cases h
      | _ => simp [ifM] at h
  · cases h; exact fun _ _ => rfl
  · cases h

theorem swap_mem {i j : Nat} {oi oj : Oper} (hi : ops[i]? = some oi) (hj : ops[j]? = some oj)
    (h1 : ∀ x, oi.dst = some x → x ∉ oj.looksAt ops) (h2 : ∀ x, oj.dst = some x → x ∉ oi.looksAt ops) (h3 : ∀ x, oi.dst = some x → oj.dst ≠ some x)
    {base : Nat} (hw0 : pl.wm = none) (hp : pl none = some base) (li : isLoad oi.op = true) (sj : isStore oj.op = true) : Swappable Y T pl ops i j := by
  intro s s' h
  rw [astep_eq hi] at h
  cases e1 : stepOut Y T pl ops oi s.tm s.H with
  | none => simp [e1] at h
  | some r1 =>
    obtain ⟨vi, H1⟩ := r1
    simp [e1] at h
    rw [astep_eq hj] at h
    simp only [stepOut_put h1] at h
    obtain ⟨e0, c1⟩ := load_step hw0 hp li e1
    subst e0
    cases e2 : stepOut Y T pl ops oj s.tm s.H with
    | none => simp [e2] at h
    | some r2 =>
      obtain ⟨vj, H2⟩ := r2
      simp [e2] at h
      subst h
      rw [astep_eq hj, e2]
      simp only [Option.map_some, Option.bind_some]
      rw [astep_eq hi]
      simp only [stepOut_put h2]
      rw [c1 H2 (store_step hw0 hp sj e2)]
      simp only [Option.map_some]
      rw [put_comm h3]

/-- What an append does to the heap. -/
inductive AppShape (f : List Blk → Option (SV × List Blk)) (H : List Blk) (r : SV) (H1 : List Blk) : Prop
  | same (e : H1 = H) (h : ∀ H', f H' = some (r, H'))
  | push (e : TypeId) (e1 : H1 = H ++ [.tok 0 e]) (h : ∀ H', H'.length = H.length → f H' = some (r, H' ++ [.tok 0 e]))
  | up (k v : Nat) (e : TypeId) (hk : H[k]? = some (.tok v e)) (e1 : H1 = H.set k (.tok (v + 1) e)) (h : ∀ H', H'[k]? = some (.tok v e) → f H' = some (r, H'.set k (.tok (v + 1) e)))

theorem aAppend_shape {H H1 : List Blk} {t t2 : TypeId} {x s r : SV} (h : aAppend Y H t t2 x s = some (r, H1)) : AppShape (fun H' => aAppend Y H' t t2 x s) H r H1 := by
  unfold aAppend at h
  split at h
  · cases h
  · rename_i ht
    split at h
    · rename_i e xs ss hk hxs hss
      split at h
      · cases h
      · rename_i y hy
        split at h
        · rename_i hemp
          cases h
          exact .same rfl fun H' => by unfold aAppend; rw [if_neg ht, hk, hxs, hss]; simp only [hy]; rw [if_pos hemp]
        · rename_i hemp
          split at h
          · rename_i hc
            split at h
            · cases h
              exact .push e rfl fun H' hl => by unfold aAppend; rw [if_neg ht, hk, hxs, hss]; simp only [hy]; rw [if_neg hemp, if_pos hc, hl]
            · cases h
              exact .push e rfl fun H' hl => by unfold aAppend; rw [if_neg ht, hk, hxs, hss]; simp only [hy]; rw [if_neg hemp, if_pos hc, hl]
            · rename_i k v s' es'
              split at h
              · rename_i v' e' hkt
                split at h
                · rename_i hve
                  cases h
                  obtain ⟨rfl, rfl⟩ := hve
                  exact .up k v e hkt rfl fun H' hl => by unfold aAppend; rw [if_neg ht, hk, hxs, hss]; simp only [hy]; rw [if_neg hemp, if_pos hc, hl]; simp
                · cases h
              · cases h
            · cases h
          · cases h
    · cases h

theorem aBuiltin_app {H : List Blk} {ts : List TypeId} {vs : List SV} {r : SV × List Blk} (h : aBuiltin Y H .append ts vs = some r) : ∃ t t2 x s, ts = [t, t2] ∧ vs = [x, s] := by
  match ts, vs with
  | [t, t2], [x, s] => exact ⟨t, t2, x, s, rfl, rfl⟩
  | [], _ => simp [aBuiltin] at h
  | [_], _ => simp [aBuiltin] at h
  | _ :: _ :: _ :: _, _ => simp [aBuiltin] at h
  | [_, _], [] => simp [aBuiltin] at h
  | [_, _], [_] => simp [aBuiltin] at h
  | [_, _], _ :: _ :: _ :: _ => simp [aBuiltin] at h

theorem step_app {o : Oper} {tm : List SV} {H H1 : List Blk} {r : SV} (hw : pl.wm = none) (ha : isApp o.op = true) (h : stepOut Y T pl ops o tm H = some (r, H1)) : AppShape (fun H' => stepOut Y T pl ops o tm H') H r H1 := by
  cases hop : o.op <;> rw [hop] at ha <;> simp [isApp] at ha
  rename_i c
  split at ha
  · rename_i hc
    have hp : ∀ H', aopP Y T pl o.dst H' (aval tm) o.op = aCallOp Y T H' (aval tm) c := fun H' => by
      rw [hop]; simp only [aopP, hw, isNew, isLoad, isStore, Bool.or_self, cond_false, aop]
    unfold stepOut at h ⊢
    split at h
    · rename_i hwt
      try simp only [hwt]
      rw [hp] at h
      have : (fun H' => aopP Y T pl o.dst H' (aval tm) o.op) = fun H' => aCallOp Y T H' (aval tm) c := funext hp
      rw [this]
      unfold aCallOp at h ⊢
      rw [hc] at h ⊢
      cases hv : avals (aval tm) c.args.toList with
      | none => rw [hv] at h; cases h
      | some vs =>
        rw [hv] at h
        simp only [] at h ⊢
        obtain ⟨t, t2, x, s, e1, e2⟩ := aBuiltin_app h
        subst e2
        rw [e1] at h ⊢
        simp only [aBuiltin] at h ⊢
        unfold aAppendX at h ⊢
        cases hs : strTo Y t t2 s with
        | some l => rw [hs] at h; exact aAppend_shape h
        | none => rw [hs] at h; exact aAppend_shape h
    · rename_i hwt
      cases h
      try simp only [hwt]
      exact .same rfl fun _ => rfl
    · cases h
  · cases ha

theorem fillO_len {H H' : List Blk} {k : Nat} {c : Option (Option TypeId × List SV)} {v : SV} (h : fillO H k c = some (v, H')) : H'.length = H.length ∧ ∀ (j : Nat) (u : Nat) (e : TypeId), H[j]? = some (.tok u e) ↔ H'[j]? = some (.tok u e) := by
  cases c with
  | none => cases h; exact ⟨rfl, fun _ _ _ => Iff.rfl⟩
  | some c =>
    simp only [fillO, fill] at h
    split at h
    · rename_i hk
      cases h
      refine ⟨by simp, fun j u e => ?_⟩
      rw [List.getElem?_set]
      split
      · rename_i e1
        subst e1
        rw [hk]
        split <;> simp
      · exact Iff.rfl
    · cases h

theorem fillO_push {H H' : List Blk} {k : Nat} {c : Option (Option TypeId × List SV)} {v : SV} {b : Blk} (hb : b ≠ .hole) : fillO (H ++ [b]) k c = some (v, H') ↔ ∃ H1, fillO H k c = some (v, H1) ∧ H' = H1 ++ [b] := by
  cases c with
  | none => simp only [fillO, Option.some.injEq, Prod.mk.injEq]; constructor
            · rintro ⟨rfl, rfl⟩; exact ⟨H, ⟨rfl, rfl⟩, rfl⟩
            · rintro ⟨H1, ⟨rfl, rfl⟩, rfl⟩; exact ⟨rfl, rfl⟩
  | some c =>
    simp only [fillO, fill]
    rcases Nat.lt_or_ge k H.length with hk | hk
    · rw [List.getElem?_append_left hk]
      split
      · simp only [Option.some.injEq, Prod.mk.injEq]
        rw [List.set_append_left _ _ hk]
        constructor
        · rintro ⟨rfl, rfl⟩; exact ⟨_, ⟨rfl, rfl⟩, rfl⟩
        · rintro ⟨H1, ⟨rfl, rfl⟩, rfl⟩; exact ⟨rfl, rfl⟩
      · simp
    · have h1 : (H ++ [b])[k]? ≠ some .hole := by
        intro e
        rcases Nat.lt_or_ge H.length k with h | h
        · rw [List.getElem?_eq_none (by simp; omega)] at e; cases e
        · have : k = H.length := by omega
          subst this
          simp at e
          exact hb e
      have h2 : H[k]? ≠ some .hole := by rw [List.getElem?_eq_none hk]; simp
      split
      · rename_i e; exact absurd e h1
      · simp

theorem fillO_up {H H' : List Blk} {k kt u : Nat} {e : TypeId} {c : Option (Option TypeId × List SV)} {v : SV} (ht : H[kt]? = some (.tok u e)) : fillO (H.set kt (.tok (u + 1) e)) k c = some (v, H') ↔ ∃ H1, fillO H k c = some (v, H1) ∧ H' = H1.set kt (.tok (u + 1) e) := by
  cases c with
  | none => simp only [fillO, Option.some.injEq, Prod.mk.injEq]; constructor
            · rintro ⟨rfl, rfl⟩; exact ⟨H, ⟨rfl, rfl⟩, rfl⟩
            · rintro ⟨H1, ⟨rfl, rfl⟩, rfl⟩; exact ⟨rfl, rfl⟩
  | some c =>
    simp only [fillO, fill]
    by_cases hk : kt = k
    · subst hk
      have h1 : (H.set kt (.tok (u + 1) e))[kt]? = some (.tok (u + 1) e) := List.getElem?_set_self (List.getElem?_eq_some_iff.1 ht).1
      rw [h1, ht]
      simp
    · rw [List.getElem?_set_ne hk]
      split
      · simp only [Option.some.injEq, Prod.mk.injEq]
        constructor
        · rintro ⟨rfl, rfl⟩; exact ⟨_, ⟨rfl, rfl⟩, List.set_comm _ _ hk⟩
        · rintro ⟨H1, ⟨rfl, rfl⟩, rfl⟩; exact ⟨rfl, List.set_comm _ _ hk⟩
      · simp

/-- An append, and a place that is filled. -/
theorem app_fill {f : List Blk → Option (SV × List Blk)} {H H1 H2 : List Blk} {k : Nat} {c : Option (Option TypeId × List SV)} {r v : SV} (hs : AppShape f H r H1) (h : fillO H1 k c = some (v, H2)) : ∃ H3, fillO H k c = some (v, H3) ∧ f H3 = some (r, H2) := by
  cases hs with
  | same e hf => subst e; exact ⟨H2, h, hf _⟩
  | push e e1 hf =>
    subst e1
    obtain ⟨H3, h1, rfl⟩ := (fillO_push (by simp)).1 h
    exact ⟨H3, h1, hf _ (fillO_len h1).1⟩
  | up kt u e hk e1 hf =>
    subst e1
    obtain ⟨H3, h1, rfl⟩ := (fillO_up hk).1 h
    exact ⟨H3, h1, hf _ (((fillO_len h1).2 kt u e).1 hk)⟩

theorem fill_app {f : List Blk → Option (SV × List Blk)} {H H1 H2 : List Blk} {k : Nat} {c : Option (Option TypeId × List SV)} {r v : SV} (h : fillO H k c = some (v, H1)) (hs : AppShape f H1 r H2) : ∃ H3, f H = some (r, H3) ∧ fillO H3 k c = some (v, H2) := by
  obtain ⟨hl, ht⟩ := fillO_len h
  cases hs with
  | same e hf => subst e; exact ⟨H, hf _, h⟩
  | push e e1 hf =>
    subst e1
    exact ⟨_, hf _ hl.symm, (fillO_push (by simp)).2 ⟨H1, h, rfl⟩⟩
  | up kt u e hk e1 hf =>
    subst e1
    have hk' := (ht kt u e).2 hk
    exact ⟨_, hf _ hk', (fillO_up hk').2 ⟨H1, h, rfl⟩⟩

theorem swap_app1 {i j : Nat} {oi oj : Oper} (hi : ops[i]? = some oi) (hj : ops[j]? = some oj)
    (h1 : ∀ x, oi.dst = some x → x ∉ oj.looksAt ops) (h2 : ∀ x, oj.dst = some x → x ∉ oi.looksAt ops) (h3 : ∀ x, oi.dst = some x → oj.dst ≠ some x)
    {k2 : Nat} (hw : pl.wm = none) (ai : isApp oi.op = true) (nj : isNew oj.op = true) (p2 : pl oj.dst = some k2) : Swappable Y T pl ops i j := by
  intro s s' h
  rw [astep_eq hi] at h
  cases e1 : stepOut Y T pl ops oi s.tm s.H with
  | none => simp [e1] at h
  | some r1 =>
  obtain ⟨vi, H1⟩ := r1
  simp only [e1, Option.map_some, Option.bind_some] at h
  rw [astep_eq hj] at h
  simp only [stepOut_put h1] at h
  rw [stepOut_new hw nj p2] at h
  cases c2 : stepNew Y ops oj s.tm with
  | none => simp [c2] at h
  | some b =>
  simp only [c2, Option.bind_some] at h
  cases e2 : fillO H1 k2 b with
  | none => simp [e2] at h
  | some r2 =>
  obtain ⟨vj, H2⟩ := r2
  simp only [e2, Option.map_some, Option.some.injEq] at h
  subst h
  obtain ⟨H3, e3, e4⟩ := app_fill (step_app hw ai e1) e2
  rw [astep_eq hj, stepOut_new hw nj p2, c2]
  simp only [Option.bind_some, e3, Option.map_some]
  rw [astep_eq hi]
  simp only [stepOut_put h2, e4, Option.map_some]
  rw [put_comm h3]

theorem swap_app2 {i j : Nat} {oi oj : Oper} (hi : ops[i]? = some oi) (hj : ops[j]? = some oj)
    (h1 : ∀ x, oi.dst = some x → x ∉ oj.looksAt ops) (h2 : ∀ x, oj.dst = some x → x ∉ oi.looksAt ops) (h3 : ∀ x, oi.dst = some x → oj.dst ≠ some x)
    {k1 : Nat} (hw : pl.wm = none) (ni : isNew oi.op = true) (p1 : pl oi.dst = some k1) (aj : isApp oj.op = true) : Swappable Y T pl ops i j := by
  intro s s' h
  rw [astep_eq hi, stepOut_new hw ni p1] at h
  cases c1 : stepNew Y ops oi s.tm with
  | none => simp [c1] at h
  | some a =>
  simp only [c1, Option.bind_some] at h
  cases e1 : fillO s.H k1 a with
  | none => simp [e1] at h
  | some r1 =>
  obtain ⟨vi, H1⟩ := r1
  simp only [e1, Option.map_some, Option.bind_some] at h
  rw [astep_eq hj] at h
  simp only [stepOut_put h1] at h
  cases e2 : stepOut Y T pl ops oj s.tm H1 with
  | none => simp [e2] at h
  | some r2 =>
  obtain ⟨vj, H2⟩ := r2
  simp only [e2, Option.map_some, Option.some.injEq] at h
  subst h
  obtain ⟨H3, e3, e4⟩ := fill_app e1 (step_app hw aj e2)
  rw [astep_eq hj, e3]
  simp only [Option.bind_some, Option.map_some]
  rw [astep_eq hi]
  simp only [stepOut_put h2]
  rw [stepOut_new hw ni p1, c1]
  simp only [Option.bind_some, e4, Option.map_some]
  rw [put_comm h3]

/-- Where a box is watched: what is read is another, and stands. -/
theorem load_watch {o : Oper} {tm : List SV} {H H' : List Blk} {v : SV} {w n : Nat} (hw : pl.wm = some (w, n)) (hl : isLoad o.op = true) (h : stepOut Y T pl ops o tm H = some (v, H')) :
    H' = H ∧ ∀ H1 : List Blk, (∀ k, k < n → k ≠ w → H1[k]? = H[k]?) → stepOut Y T pl ops o tm H1 = some (v, H1) := by
  unfold stepOut at h ⊢
  split at h
  · rename_i hwt
    (try rw [hwt])
    (try simp only [])
    cases hop : o.op <;> rw [hop] at hl <;> simp [isLoad] at hl
    rename_i t a
    rw [hop] at h
    simp only [aopP_watch hw, watchC, isLoad, cond_true, addrOf, Option.bind_some] at h ⊢
    cases ha : aval tm a with
    | none => simp [ha, aop, loadW] at h
    | some u =>
      rw [ha] at h
      simp only [aop, ha] at h ⊢
      cases u with
      | ptr k off =>
        simp only [loadW] at h ⊢
        cases hc : (decide (k ≠ w) && decide (k < n)) with
        | false => rw [hc] at h; cases h
        | true =>
          rw [hc] at h
          simp only [Bool.and_eq_true, decide_eq_true_eq] at hc
          simp only [ifM] at h ⊢
          cases hL : aLoad Y H t (.ptr k off) with
          | none => simp [hL] at h
          | some r =>
            simp only [hL, Option.map_some, Option.some.injEq, Prod.mk.injEq] at h
            obtain ⟨rfl, rfl⟩ := h
            refine ⟨rfl, fun H1 hH => ?_⟩
            have : aLoad Y H1 t (.ptr k off) = some r := by
              rw [← hL]; unfold aLoad; simp only [hH k hc.2 hc.1]
            simp [this]
      | cptr cs =>
        simp only [loadW] at h ⊢
        cases hL : aLoad Y H t (.cptr cs) with
        | none => simp [hL] at h
        | some r =>
          simp only [hL, Option.map_some, Option.some.injEq, Prod.mk.injEq] at h
          obtain ⟨rfl, rfl⟩ := h
          refine ⟨rfl, fun H1 hH => ?_⟩
          have : aLoad Y H1 t (.cptr cs) = some r := by
            rw [← hL]; unfold aLoad; rfl
          simp [this]
      | cadr b0 o0 cs =>
        simp only [loadW] at h ⊢
        cases hL : aLoad Y H t (.cadr b0 o0 cs) with
        | none => simp [hL] at h
        | some r =>
          simp only [hL, Option.map_some, Option.some.injEq, Prod.mk.injEq] at h
          obtain ⟨rfl, rfl⟩ := h
          refine ⟨rfl, fun H1 hH => ?_⟩
          have : aLoad Y H1 t (.cadr b0 o0 cs) = some r := by
            rw [← hL]; unfold aLoad; rfl
          simp [this]
      | _ => simp only [loadW, aLoad] at h; split at h <;> simp_all
  · cases h; exact ⟨rfl, fun H1 _ => by rename_i hwt; simp [hwt]⟩
  · cases h

theorem write_watch {o : Oper} {tm : List SV} {H H' : List Blk} {v : SV} {w n : Nat} (hw : pl.wm = some (w, n)) (hl : isLoad o.op = false) (hs : (isCallV o.op || (isStore o.op && pl.ws)) = true) (h : stepOut Y T pl ops o tm H = some (v, H')) :
    ∀ k, k < n → k ≠ w → H'[k]? = H[k]? := by
  unfold stepOut at h
  split at h
  · rw [aopP_watch hw] at h
    simp only [watchC, hl, hs, cond_true, cond_false] at h
    unfold frameC at h
    split at h
    · unfold ifP at h
      split at h
      · rename_i hp
        cases h
        rcases hp with rfl | ⟨hn, hf⟩
        · exact fun _ _ _ => rfl
        · exact fun k hk hkw => hf.2 k (by omega) hkw
      · cases h
    · cases h
  · cases h; exact fun _ _ _ => rfl
  · cases h

theorem swap_watch1 {i j : Nat} {oi oj : Oper} (hi : ops[i]? = some oi) (hj : ops[j]? = some oj)
    (h1 : ∀ x, oi.dst = some x → x ∉ oj.looksAt ops) (h2 : ∀ x, oj.dst = some x → x ∉ oi.looksAt ops) (h3 : ∀ x, oi.dst = some x → oj.dst ≠ some x)
    {w n : Nat} (hw : pl.wm = some (w, n)) (li : isLoad oi.op = true) (lj : isLoad oj.op = false) (sj : (isCallV oj.op || (isStore oj.op && pl.ws)) = true) : Swappable Y T pl ops i j := by
  intro s s' h
  rw [astep_eq hi] at h
  cases e1 : stepOut Y T pl ops oi s.tm s.H with
  | none => simp [e1] at h
  | some r1 =>
    obtain ⟨vi, H1⟩ := r1
    simp [e1] at h
    rw [astep_eq hj] at h
    simp only [stepOut_put h1] at h
    obtain ⟨e0, c1⟩ := load_watch hw li e1
    subst e0
    cases e2 : stepOut Y T pl ops oj s.tm s.H with
    | none => simp [e2] at h
    | some r2 =>
      obtain ⟨vj, H2⟩ := r2
      simp [e2] at h
      subst h
      rw [astep_eq hj, e2]
      simp only [Option.map_some, Option.bind_some]
      rw [astep_eq hi]
      simp only [stepOut_put h2]
      rw [c1 H2 (write_watch hw lj sj e2)]
      simp only [Option.map_some]
      rw [put_comm h3]

theorem swap_watch2 {i j : Nat} {oi oj : Oper} (hi : ops[i]? = some oi) (hj : ops[j]? = some oj)
    (h1 : ∀ x, oi.dst = some x → x ∉ oj.looksAt ops) (h2 : ∀ x, oj.dst = some x → x ∉ oi.looksAt ops) (h3 : ∀ x, oi.dst = some x → oj.dst ≠ some x)
    {w n : Nat} (hw : pl.wm = some (w, n)) (li : isLoad oi.op = false) (si : (isCallV oi.op || (isStore oi.op && pl.ws)) = true) (lj : isLoad oj.op = true) : Swappable Y T pl ops i j := by
  intro s s' h
  rw [astep_eq hi] at h
  cases e1 : stepOut Y T pl ops oi s.tm s.H with
  | none => simp [e1] at h
  | some r1 =>
    obtain ⟨vi, H1⟩ := r1
    simp [e1] at h
    rw [astep_eq hj] at h
    simp only [stepOut_put h1] at h
    cases e2 : stepOut Y T pl ops oj s.tm H1 with
    | none => simp [e2] at h
    | some r2 =>
      obtain ⟨vj, H2⟩ := r2
      simp [e2] at h
      subst h
      obtain ⟨e0, c2⟩ := load_watch hw lj e2
      subst e0
      have hf := write_watch hw li si e1
      rw [astep_eq hj, c2 s.H (fun k hk hkw => (hf k hk hkw).symm)]
      simp only [Option.map_some, Option.bind_some]
      rw [astep_eq hi]
      simp only [stepOut_put h2, e1, Option.map_some]
      rw [put_comm h3]

/-- The places kept are the new boxes' own. -/
structure PlOk (pl : PL) (ops : Array Oper) : Prop where
  nw : pl.wm = none
  has : ∀ (o : Oper) (d : Tmp), o ∈ ops.toList → isNew o.op = true → o.dst = some d → ∃ k, pl (some d) = some k
  inj : ∀ (d d' : Tmp) (k : Nat), pl (some d) = some k → pl (some d') = some k → d = d'
  mem : ∀ o : Oper, o ∈ ops.toList → isStore o.op = true → ∃ base, pl none = some base

theorem facts_of (hpl : held ops.toList true = true → PlOk pl ops) (hwt : (!held ops.toList true && watching ops.toList true) = true → ∃ w n, pl.wm = some (w, n) ∧ pl.ws = lateL ops.toList) (h : drawOk T ops.toList = true) : DrawFacts Y T pl ops := by
  unfold drawOk at h
  simp only [List.all_eq_true, List.mem_range] at h
  have back : ∀ (i : Nat) (o : Oper) (e : Edge), ops[i]? = some o → e ∈ o.after → Region.binds .any e = true → e.on < i := by
    intro i o e ho he hb
    have hi : i < ops.toList.length := by simpa using (Array.getElem?_eq_some_iff.1 ho).1
    have h1 := h i hi
    have ho' : ops.toList[i]? = some o := by simpa using ho
    simp only [ho', Bool.and_eq_true, List.all_eq_true] at h1
    have := h1.1.1 e (by simpa using he)
    simpa [hb] using this
  have lt : ∀ (j i : Nat), bef ops i j = true → i < j := by
    intro j
    induction j using Nat.strongRecOn with
    | _ j ih =>
      intro i hb
      cases ho : ops[j]? with
      | none => rw [bef_none ho] at hb; cases hb
      | some o =>
        obtain ⟨e, he, hb', h3⟩ := bef_step ho hb
        have := back j o e ho he hb'
        rcases h3 with rfl | h3
        · exact this
        · exact Nat.lt_trans (ih e.on this i h3) this
  refine ⟨back, fun i j hb _ => lt j i hb, fun i j hij hj hb => ?_⟩
  have hb2 : bef ops j i = false := by
    cases hb2 : bef ops j i with
    | false => rfl
    | true => have := lt i j hb2; omega
  have hi : i < ops.size := by omega
  have ei : ops[i]? = some ops[i] := Array.getElem?_eq_getElem hi
  have ej : ops[j]? = some ops[j] := Array.getElem?_eq_getElem hj
  have ei' : ops.toList[i]? = some ops[i] := by simp
  have ej' : ops.toList[j]? = some ops[j] := by simp
  have h1 := h i (by simpa using hi)
  have h2 := h j (by simpa using hj)
  simp only [ei', Bool.and_eq_true, List.all_eq_true] at h1
  simp only [ej', Bool.and_eq_true, List.all_eq_true] at h2
  have h1j := h1.1.2 j (by simpa using hj)
  have h2i := h2.1.2 i (by simpa using hi)
  have nij : (i == j) = false := by simp; omega
  have nji : (j == i) = false := by simp; omega
  unfold bef at hb hb2
  simp only [ej', hb, hb2, nij, Bool.false_or, Bool.or_false, Bool.and_eq_true] at h1j
  simp only [ei', hb, hb2, nji, Bool.false_or, Bool.or_false, Bool.and_eq_true] at h2i
  obtain ⟨⟨⟨a1, a2⟩, a3⟩, _⟩ := h1j
  obtain ⟨⟨⟨b1, b2⟩, b3⟩, _⟩ := h2i
  have q1 : ∀ x, ops[i].dst = some x → x ∉ ops[j].looksAt ops := by
    intro x hx
    rw [hx] at b1
    simp at b1
    exact b1.2
  have q2 : ∀ x, ops[j].dst = some x → x ∉ ops[i].looksAt ops := by
    intro x hx
    rw [hx] at a1
    simp at a1
    exact a1.2
  have q3 : ∀ x, ops[i].dst = some x → ops[j].dst ≠ some x := by
    intro x hx e
    rw [hx] at b1
    simp at b1
    exact b1.1 e
  have newAt : ∀ {k : Nat} (hk : k < ops.size), held ops.toList true = true → isNew ops[k].op = true → ops[k].dst.isSome = true → NewAt pl ops[k] := by
    intro k hk hh hn hd
    obtain ⟨d, hd⟩ := Option.isSome_iff_exists.1 hd
    refine ⟨hn, (hpl hh).nw, ?_⟩
    rw [hd]
    exact (hpl hh).has _ d (by simp) hn hd
  by_cases hnew : (held ops.toList true && isNew ops[i].op && isNew ops[j].op && ops[i].dst.isSome && ops[j].dst.isSome) = true
  · simp only [Bool.and_eq_true] at hnew
    obtain ⟨⟨⟨⟨hh, n1⟩, n2⟩, d1⟩, d2⟩ := hnew
    obtain ⟨_, _, k1, p1⟩ := newAt hi hh n1 d1
    obtain ⟨_, _, k2, p2⟩ := newAt hj hh n2 d2
    refine swap_new ei ej q1 q2 q3 (hpl hh).nw n1 n2 p1 p2 ?_
    intro e
    subst e
    obtain ⟨x, hx⟩ := Option.isSome_iff_exists.1 d1
    obtain ⟨y, hy⟩ := Option.isSome_iff_exists.1 d2
    rw [hx] at p1; rw [hy] at p2
    have := (hpl hh).inj x y k1 p1 p2
    subst this
    exact q3 x hx hy
  by_cases happ1 : (held ops.toList true && isNew ops[j].op && ops[j].dst.isSome && isApp ops[i].op) = true
  · simp only [Bool.and_eq_true] at happ1
    obtain ⟨⟨⟨hh, n2⟩, d2⟩, a⟩ := happ1
    obtain ⟨_, _, k2, p2⟩ := newAt hj hh n2 d2
    exact swap_app1 ei ej q1 q2 q3 (hpl hh).nw a n2 p2
  by_cases happ2 : (held ops.toList true && isNew ops[i].op && ops[i].dst.isSome && isApp ops[j].op) = true
  · simp only [Bool.and_eq_true] at happ2
    obtain ⟨⟨⟨hh, n1⟩, d1⟩, a⟩ := happ2
    obtain ⟨_, _, k1, p1⟩ := newAt hi hh n1 d1
    exact swap_app2 ei ej q1 q2 q3 (hpl hh).nw n1 p1 a
  by_cases hmem : (held ops.toList true && isLoad ops[i].op && isStore ops[j].op) = true
  · simp only [Bool.and_eq_true] at hmem
    obtain ⟨⟨hh, n1⟩, n2⟩ := hmem
    obtain ⟨base, hb0⟩ := (hpl hh).mem _ (by simp) n2
    exact swap_mem ei ej q1 q2 q3 (hpl hh).nw hb0 n1 n2
  have notl : ∀ (b : Bool) (o : Op), (isCallV o || (isStore o && b)) = true → isLoad o = false := fun b o ho => by cases o <;> simp [isCallV, isStore] at ho <;> rfl
  by_cases hwa1 : ((!held ops.toList true && watching ops.toList true) && isLoad ops[i].op && (isCallV ops[j].op || (isStore ops[j].op && lateL ops.toList))) = true
  · obtain ⟨⟨hwx, n1⟩, n2⟩ : ((!held ops.toList true && watching ops.toList true) = true ∧ isLoad ops[i].op = true) ∧ (isCallV ops[j].op || (isStore ops[j].op && lateL ops.toList)) = true := by
      rw [Bool.and_eq_true, Bool.and_eq_true] at hwa1; exact hwa1
    obtain ⟨w, n, hw, hws⟩ := hwt hwx
    rw [← hws] at n2
    exact swap_watch1 ei ej q1 q2 q3 hw n1 (notl _ _ n2) n2
  by_cases hwa2 : ((!held ops.toList true && watching ops.toList true) && isLoad ops[j].op && (isCallV ops[i].op || (isStore ops[i].op && lateL ops.toList))) = true
  · obtain ⟨⟨hwx, n1⟩, n2⟩ : ((!held ops.toList true && watching ops.toList true) = true ∧ isLoad ops[j].op = true) ∧ (isCallV ops[i].op || (isStore ops[i].op && lateL ops.toList)) = true := by
      rw [Bool.and_eq_true, Bool.and_eq_true] at hwa2; exact hwa2
    obtain ⟨w, n, hw, hws⟩ := hwt hwx
    rw [← hws] at n2
    exact swap_watch2 ei ej q1 q2 q3 hw (notl _ _ n2) n2 n1
  rw [Bool.not_eq_true] at hnew happ1 happ2 hmem hwa1 hwa2
  refine swap_of ei ej q1 q2 q3 ?_ ?_ ?_
  · rw [hnew, happ1, happ2] at a2
    simpa using a2
  · intro hl
    rw [hl, hmem, hwa1] at a3
    simp only [Bool.true_and, Bool.or_eq_true, Bool.and_eq_true, Bool.not_eq_true', decide_eq_true_eq, Bool.false_and, Bool.or_false] at a3
    rcases a3 with a3 | ⟨⟨⟨⟨hh, n2⟩, d2⟩, hne⟩, _⟩
    · exact .inl a3
    · exact .inr ⟨newAt hj hh n2 d2, hne⟩
  · intro hl
    rw [hl, hwa2] at b3
    simp only [Bool.true_and, Bool.or_eq_true, Bool.and_eq_true, Bool.not_eq_true', decide_eq_true_eq, Bool.or_false] at b3
    rcases b3 with (b3 | ⟨_, hlt⟩) | ⟨_, hlt⟩
    · exact b3
    · omega
    · omega
end
end Go.Pm
