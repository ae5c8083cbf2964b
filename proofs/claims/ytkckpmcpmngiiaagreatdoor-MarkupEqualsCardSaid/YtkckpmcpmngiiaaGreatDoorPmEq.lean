/- '==' and the other binary operations. -/
import Derived.Test.YtkckpmcpmngiiaaGreatDoorPmBuild
namespace Go.Pm

def veq : List TK → List Value → List Value → Option Bool
  | [], [], [] => some true
  | .int _ :: ks, .int k a :: x, .int k' b :: y => if k = k' then (veq ks x y).map ((a == b) && ·) else none
  | .bool :: ks, .bool a :: x, .bool b :: y => (veq ks x y).map ((a == b) && ·)
  | .str :: ks, .string a :: x, .string b :: y => (veq ks x y).map ((a.toList == b.toList) && ·)
  | _, _, _ => none

theorem veq_cells {C : Cf} : ∀ {ks : List TK} {a b : List SV} {xs ys : List Value} {r : Bool}, aeqCells ks a b = some r → RelL C a xs → RelL C b ys → veq ks xs ys = some r
  | [], a, b, xs, ys, r, h, ha, hb => by
    unfold aeqCells at h
    split at h <;> first
      | (cases h; have h1 : xs = [] := by simpa using ha.1
         have h2 : ys = [] := by simpa using hb.1
         subst h1; subst h2; rfl)
      | cases h
      | simp_all
  | k :: ks, a, b, xs, ys, r, h, ha, hb => by
    unfold aeqCells at h
    split at h
    · cases h
      rename_i e; cases e
    · rename_i kk ks' k1 a1 x k2 b1 y e
      cases e
      obtain ⟨u, us, rfl, h1, h2⟩ := ha.uncons
      obtain ⟨v, vs, rfl, h3, h4⟩ := hb.uncons
      split at h
      · rename_i hk
        cases hq : aeqCells ks x y with
        | none => simp [hq] at h
        | some q =>
          simp [hq] at h
          cases h1 with | pv _ _ h1 => cases h1; cases h3 with | pv _ _ h3 => cases h3; simp [veq, hk, veq_cells hq h2 h4, h]
      · cases h
    · rename_i ks' a1 x b1 y e
      cases e
      obtain ⟨u, us, rfl, h1, h2⟩ := ha.uncons
      obtain ⟨v, vs, rfl, h3, h4⟩ := hb.uncons
      cases hq : aeqCells ks x y with
      | none => simp [hq] at h
      | some q =>
        simp [hq] at h
        cases h1 with | pv _ _ h1 => cases h1; cases h3 with | pv _ _ h3 => cases h3; simp [veq, veq_cells hq h2 h4, h]
    · rename_i ks' a1 x b1 y e
      cases e
      obtain ⟨u, us, rfl, h1, h2⟩ := ha.uncons
      obtain ⟨v, vs, rfl, h3, h4⟩ := hb.uncons
      cases hq : aeqCells ks x y with
      | none => simp [hq] at h
      | some q =>
        simp [hq] at h
        cases h1 with | pv _ _ h1 => cases h1; cases h3 with | pv _ _ h3 => cases h3; simp [veq, veq_cells hq h2 h4, h]
    · cases h

theorem veq_length : ∀ {ks : List TK} {xs ys : List Value} {r : Bool}, veq ks xs ys = some r → xs.length = ks.length ∧ ys.length = ks.length
  | ks, xs, ys, r, h => by
    induction ks generalizing xs ys r with
    | nil =>
      unfold veq at h
      split at h <;> first | exact ⟨rfl, rfl⟩ | cases h | simp_all
    | cons k ks ih =>
      unfold veq at h
      split at h
      · rename_i e; cases e
      · rename_i e; cases e
        split at h
        · cases hq : veq ks _ _ with
          | none => rw [hq] at h; cases h
          | some q => have := ih _ _ _ hq; simp [this]
        · cases h
      · rename_i e; cases e
        cases hq : veq ks _ _ with
        | none => rw [hq] at h; cases h
        | some q => have := ih _ _ _ hq; simp [this]
      · rename_i e; cases e
        cases hq : veq ks _ _ with
        | none => rw [hq] at h; cases h
        | some q => have := ih _ _ _ hq; simp [this]
      · cases h

theorem veq_nil {xs ys : List Value} {q : Bool} (h : veq [] xs ys = some q) : xs = [] ∧ ys = [] ∧ q = true := by
  have hl := veq_length h
  have e1 : xs = [] := List.eq_nil_of_length_eq_zero hl.1
  have e2 : ys = [] := List.eq_nil_of_length_eq_zero hl.2
  subst e1; subst e2
  simp [veq] at h
  exact ⟨rfl, rfl, h⟩

theorem veq_append : ∀ {k1 k2 : List TK} {xs ys : List Value} {r : Bool}, veq (k1 ++ k2) xs ys = some r →
    ∃ r1 r2, veq k1 (xs.take k1.length) (ys.take k1.length) = some r1 ∧ veq k2 (xs.drop k1.length) (ys.drop k1.length) = some r2 ∧ r = (r1 && r2)
  | [], k2, xs, ys, r, h => ⟨true, r, by simp [veq], by simpa using h, by simp⟩
  | k :: k1, k2, xs, ys, r, h => by
    simp only [List.cons_append] at h
    unfold veq at h
    split at h
    · rename_i e; cases e
    · rename_i kk ks' kx a x ky b y e; cases e
      split at h
      · rename_i hk
        cases hq : veq (k1 ++ k2) x y with
        | none => rw [hq] at h; cases h
        | some q =>
          rw [hq] at h; simp at h
          obtain ⟨r1, r2, h1, h2, h3⟩ := veq_append hq
          exact ⟨(a == b) && r1, r2, by simp [veq, hk, h1], by simpa using h2, by rw [← h, h3]; simp [Bool.and_assoc]⟩
      · cases h
    · rename_i ks' a x b y e; cases e
      cases hq : veq (k1 ++ k2) x y with
      | none => rw [hq] at h; cases h
      | some q =>
        rw [hq] at h; simp at h
        obtain ⟨r1, r2, h1, h2, h3⟩ := veq_append hq
        exact ⟨(a == b) && r1, r2, by simp [veq, h1], by simpa using h2, by rw [← h, h3]; simp [Bool.and_assoc]⟩
    · rename_i ks' a x b y e; cases e
      cases hq : veq (k1 ++ k2) x y with
      | none => rw [hq] at h; cases h
      | some q =>
        rw [hq] at h; simp at h
        obtain ⟨r1, r2, h1, h2, h3⟩ := veq_append hq
        exact ⟨(a.toList == b.toList) && r1, r2, by simp [veq, h1], by simpa using h2, by rw [← h, h3]; simp [Bool.and_assoc]⟩
    · cases h

/-- The value that cells make at a type. -/
def aggDesc : TypeDesc → Bool
  | .struct _ | .array _ _ => true
  | _ => false

section
variable {P : Program}

theorem sizeOf_run {t : TypeId} {d : TypeDesc} (h : P.underlying t = some d) (w : World) : (sizeOf t).run P w = .ok (P.cellsOf t) w := by
  unfold Program.underlying at h
  cases hi : P.info? t with
  | none => simp [hi] at h
  | some i => simp [sizeOf, typeInfo, hi, Program.cellsOf]

theorem isAgg_run {t : TypeId} {d : TypeDesc} (h : P.underlying t = some d) (w : World) : (isAgg t).run P w = .ok (aggDesc d) w := by
  unfold Go.isAgg
  cases d <;> simp [run_underlying h, aggDesc]

/-- A part of a value whose cells are xs. -/
theorem part_run {t : TypeId} {d : TypeDesc} (h : P.underlying t = some d) (xs : List Value) (off : Nat) (hoff : off < xs.length) (w : World) :
    (part t xs.toArray off).run P w = .ok (if aggDesc d then .agg ((xs.drop off).take (P.cellsOf t)).toArray else xs[off]) w := by
  cases hd : aggDesc d with
  | true =>
    have hex : xs.toArray.extract off (off + P.cellsOf t) = ((xs.drop off).take (P.cellsOf t)).toArray := by
      simp [List.extract_toArray, List.extract_eq_take_drop]
    simp only [part, Sem.run_bind, isAgg_run h, hd, Result.andThen_ok, Sem.run_ite, if_true, sizeOf_run h, Sem.run_pure, hex]
  | false =>
    have : xs.toArray[off]? = some xs[off] := by simp [hoff]
    simp only [part, Sem.run_bind, isAgg_run h, hd, Result.andThen_ok, Sem.run_ite, this]
    rfl

def EqAt (P : Program) (n : Nat) (t : TypeId) (ks : List TK) : Prop :=
  ∀ (d : TypeDesc) (xs ys : List Value) (r : Bool) (w : World), P.underlying t = some d → veq ks xs ys = some r → (aggDesc d = true → True) →
    (Op.equalIn n t (if aggDesc d then .agg xs.toArray else xs.headD Go.undef) (if aggDesc d then .agg ys.toArray else ys.headD Go.undef)).run P w = .ok r w

theorem part_eq {n : Nat} {t : TypeId} {kf : List TK} (hE : EqAt P n t kf) {d : TypeDesc} (hd : P.underlying t = some d) (hone : aggDesc d = false → kf.length = 1) (hlen : kf.length = P.cellsOf t)
    (xs ys : List Value) (o : Nat) (r1 : Bool) (w : World) (h1 : veq kf ((xs.drop o).take kf.length) ((ys.drop o).take kf.length) = some r1) :
    ∃ a b, (part t xs.toArray o).run P w = .ok a w ∧ (part t ys.toArray o).run P w = .ok b w ∧ (Op.equalIn n t a b).run P w = .ok r1 w := by
  have hl1 := veq_length h1
  have hlx : kf.length ≤ xs.length - o := by
    have := hl1.1; simp at this; omega
  have hly : kf.length ≤ ys.length - o := by
    have := hl1.2; simp at this; omega
  cases hag : aggDesc d with
  | true =>
    by_cases hz : o < xs.length ∧ o < ys.length
    · have hx := part_run hd xs o hz.1 w
      have hy := part_run hd ys o hz.2 w
      refine ⟨_, _, hx, hy, ?_⟩
      have := hE d _ _ r1 w hd h1 (fun _ => trivial)
      simp only [hag, if_true] at this ⊢
      rw [← hlen]
      exact this
    · have hz0 : kf.length = 0 := by omega
      have hk0 : P.cellsOf t = 0 := by omega
      have hx : (part t xs.toArray o).run P w = .ok (.agg #[]) w := by
        simp [part, isAgg_run hd, hag, sizeOf_run hd, hk0]
      have hy : (part t ys.toArray o).run P w = .ok (.agg #[]) w := by
        simp [part, isAgg_run hd, hag, sizeOf_run hd, hk0]
      refine ⟨_, _, hx, hy, ?_⟩
      have := hE d _ _ r1 w hd h1 (fun _ => trivial)
      simp only [hag, if_true, hz0, List.take_zero] at this
      exact this
  | false =>
    have h1l := hone hag
    have hz : o < xs.length ∧ o < ys.length := by omega
    have hx := part_run hd xs o hz.1 w
    have hy := part_run hd ys o hz.2 w
    refine ⟨_, _, hx, hy, ?_⟩
    have := hE d _ _ r1 w hd h1 (fun _ => trivial)
    have g1 : ((xs.drop o).take kf.length).headD Go.undef = xs[o] := by
      rw [h1l, List.drop_eq_getElem_cons hz.1]; rfl
    have g2 : ((ys.drop o).take kf.length).headD Go.undef = ys[o] := by
      rw [h1l, List.drop_eq_getElem_cons hz.2]; rfl
    simp only [hag, Bool.false_eq_true, if_false, g1, g2] at this ⊢
    exact this

theorem flatFields_eq {n : Nat} {F : TypeId → Option (List TK)} (hF : ∀ t ks, F t = some ks → EqAt P n t ks ∧ ∃ d, P.underlying t = some d ∧ (aggDesc d = false → ks.length = 1)) :
    ∀ (fs : List Field) (o : Nat) (ks : List TK) (xs ys : List Value) (r : Bool) (w : World), flatFields P F o fs = some ks → veq ks (xs.drop o) (ys.drop o) = some r → o ≤ xs.length → o ≤ ys.length →
      (Op.eqFields n xs.toArray ys.toArray fs).run P w = .ok r w
  | [], o, ks, xs, ys, r, w, h, hv, _, _ => by
    simp [flatFields] at h; subst h
    have := veq_length hv
    have e1 : xs.drop o = [] := List.eq_nil_of_length_eq_zero this.1
    have e2 : ys.drop o = [] := List.eq_nil_of_length_eq_zero this.2
    rw [e1, e2] at hv
    simp [veq] at hv
    subst hv
    simp [Op.eqFields]
  | f :: fs, o, ks, xs, ys, r, w, h, hv, ho1, ho2 => by
    simp only [flatFields] at h
    split at h
    · rename_i hc
      simp at hc
      obtain ⟨hnm, rfl⟩ := hc
      split at h
      · rename_i kf hk
        split at h
        · rename_i hlen
          simp at hlen
          cases hr : flatFields P F (f.offset + kf.length) fs with
          | none => simp [hr] at h
          | some ks' =>
            simp [hr] at h
            subst h
            obtain ⟨r1, r2, h1, h2, h3⟩ := veq_append hv
            obtain ⟨hE, d, hd, hone⟩ := hF _ _ hk
            have hl1 := veq_length h1
            have hlx : kf.length ≤ xs.length - f.offset := by
              have := hl1.1; simp at this; omega
            have hly : kf.length ≤ ys.length - f.offset := by
              have := hl1.2; simp at this; omega
            have rest := flatFields_eq hF fs (f.offset + kf.length) ks' xs ys r2 w hr (by simpa [List.drop_drop, Nat.add_comm] using h2) (by omega) (by omega)
            obtain ⟨a, b, ha, hb, he⟩ := part_eq hE hd hone hlen xs ys f.offset r1 w h1
            simp only [Op.eqFields, hnm, ne_eq, not_false_eq_true, if_true, Sem.run_bind, ha, hb, he, Result.andThen_ok, Sem.run_ite]
            cases r1 with
            | true => simp [rest, h3]
            | false => simp [h3]
        · cases h
      · cases h
    · cases h

/-- The elements of an array, one by one. -/
def eqElems (n : Nat) (e : TypeId) (sz : Nat) (xs ys : Array Value) : List Nat → Sem Bool
  | [] => pure true
  | i :: r => do
    let a ← part e xs (i * sz)
    let b ← part e ys (i * sz)
    let q ← Op.equalIn n e a b
    if (!q) = true then pure false else eqElems n e sz xs ys r

theorem run_equalIn_array (w : World) (n : Nat) (t : TypeId) (len e sz : Nat) (xs ys : Array Value) (ht : P.underlying t = some (.array len e)) (hs : ∀ w, (sizeOf e).run P w = .ok sz w) :
    (Op.equalIn (n + 1) t (.agg xs) (.agg ys)).run P w = (eqElems n e sz xs ys (List.range len)).run P w := by
  simp only [Op.equalIn, Sem.run_bind, run_underlying ht, Result.andThen_ok, hs]
  rw [Std.Legacy.Range.forIn_eq_forIn_range']
  have : List.range' 0 (Std.Legacy.Range.size [0:len]) 1 = List.range len := by simp [Std.Legacy.Range.size, List.range_eq_range']
  simp only [] at this ⊢
  rw [this]
  generalize List.range len = is
  clear ht this
  induction is generalizing w with
  | nil => simp [eqElems]
  | cons i is ih =>
    simp only [List.forIn_cons, eqElems, Sem.run_bind, Sem.run_ite]
    generalize (part e xs (i * sz)).run P w = r1
    cases r1 with
    | ok a w1 =>
      simp only [Result.andThen_ok]
      generalize (part e ys (i * sz)).run P w1 = r2
      cases r2 with
      | ok b w2 =>
        simp only [Result.andThen_ok]
        generalize (Op.equalIn n e a b).run P w2 = r3
        cases r3 with
        | ok r w3 =>
          cases r
          · simp only [Result.andThen_ok, Bool.not_false, if_true, Sem.run_pure]
          · simp only [Result.andThen_ok, Bool.not_true, Bool.false_eq_true, if_false, Sem.run_pure]
            exact ih w3
        | halt x w3 => simp [Result.andThen]
      | halt x w2 => simp [Result.andThen]
    | halt x w1 => simp [Result.andThen]

theorem eqElems_run {n : Nat} {e : TypeId} {kf : List TK} (hE : EqAt P n e kf) {d : TypeDesc} (hd : P.underlying e = some d) (hone : aggDesc d = false → kf.length = 1) (hlen : kf.length = P.cellsOf e)
    (xs ys : List Value) : ∀ (m i : Nat) (r : Bool) (w : World), veq (List.replicate m kf).flatten (xs.drop (i * kf.length)) (ys.drop (i * kf.length)) = some r →
      (eqElems n e kf.length xs.toArray ys.toArray (List.range' i m)).run P w = .ok r w
  | 0, i, r, w, h => by
    simp only [List.replicate_zero, List.flatten_nil] at h
    have hl := veq_length h
    have e1 : xs.drop (i * kf.length) = [] := List.eq_nil_of_length_eq_zero hl.1
    have e2 : ys.drop (i * kf.length) = [] := List.eq_nil_of_length_eq_zero hl.2
    rw [e1, e2] at h
    simp [veq] at h
    subst h
    simp [eqElems]
  | m + 1, i, r, w, h => by
    simp only [List.replicate_succ, List.flatten_cons] at h
    obtain ⟨r1, r2, h1, h2, h3⟩ := veq_append h
    obtain ⟨a, b, ha, hb, he⟩ := part_eq hE hd hone hlen xs ys (i * kf.length) r1 w h1
    have rest := eqElems_run hE hd hone hlen xs ys m (i + 1) r2 w (by simpa [List.drop_drop, Nat.add_mul] using h2)
    simp only [List.range'_succ, eqElems, Sem.run_bind, ha, hb, he, Result.andThen_ok, Sem.run_ite]
    cases r1 with
    | true => simp [rest, h3]
    | false => simp [h3]

theorem flat_eq : ∀ (dp : Nat) (t : TypeId) (ks : List TK), flatTy P dp t = some ks → ∀ n, dp ≤ n → EqAt P n t ks ∧ ∃ d, P.underlying t = some d ∧ (aggDesc d = false → ks.length = 1)
  | 0, t, ks, h, _, _ => by simp [flatTy] at h
  | dp + 1, t, ks, h, n, hn => by
    obtain ⟨n, rfl⟩ : ∃ m, n = m + 1 := ⟨n - 1, by omega⟩
    unfold flatTy at h
    split at h
    · rename_i hu
      cases h
      refine ⟨fun d xs ys r w hd hv _ => ?_, _, hu, fun _ => rfl⟩
      rw [hu] at hd; cases hd
      unfold veq at hv
      split at hv <;> first | (rename_i e; cases e; done) | skip
      · rename_i e; cases e
        cases hx : veq [] _ _ with
        | none => rw [hx] at hv; cases hv
        | some q =>
          rw [hx] at hv
          obtain ⟨_, _, rfl⟩ := veq_nil hx
          simp at hv; subst hv
          simp [aggDesc, Op.equalIn, run_underlying hu]
      · cases hv
    · rename_i k hu
      cases h
      refine ⟨fun d xs ys r w hd hv _ => ?_, _, hu, fun _ => rfl⟩
      rw [hu] at hd; cases hd
      unfold veq at hv
      split at hv <;> first | (rename_i e; cases e; done) | skip
      · rename_i e; cases e
        split at hv
        · rename_i hk
          cases hx : veq [] _ _ with
          | none => rw [hx] at hv; cases hv
          | some q =>
            rw [hx] at hv
            obtain ⟨_, _, rfl⟩ := veq_nil hx
            simp at hv; subst hv
            simp [aggDesc, Op.equalIn, run_underlying hu, hk]
        · cases hv
      · cases hv
    · rename_i hu
      cases h
      refine ⟨fun d xs ys r w hd hv _ => ?_, _, hu, fun _ => rfl⟩
      rw [hu] at hd; cases hd
      unfold veq at hv
      split at hv <;> first | (rename_i e; cases e; done) | skip
      · rename_i e; cases e
        cases hx : veq [] _ _ with
        | none => rw [hx] at hv; cases hv
        | some q =>
          rw [hx] at hv
          obtain ⟨_, _, rfl⟩ := veq_nil hx
          simp at hv; subst hv
          simp [aggDesc, Op.equalIn, run_underlying hu, beq_toListBytes]
      · cases hv
    · rename_i len e hu
      split at h
      · rename_i kf hk
        split at h
        · rename_i hlen
          cases h
          simp at hlen
          obtain ⟨hE, d, hd, hone⟩ := flat_eq dp e kf hk n (by omega)
          refine ⟨fun d' xs ys r w hd' hv _ => ?_, _, hu, fun h => by simp [aggDesc] at h⟩
          rw [hu] at hd'; cases hd'
          simp only [aggDesc, if_true]
          rw [run_equalIn_array w n t len e kf.length _ _ hu (fun w => by rw [hlen]; exact sizeOf_run hd w), List.range_eq_range']
          exact eqElems_run hE hd hone hlen xs ys len 0 r w (by simpa using hv)
        · cases h
      · cases h
    · rename_i fields hu
      split at h
      · cases h
      · rename_i hst
        have hfo : P.fieldsOf t = fields := by simp [Program.fieldsOf, hu]
        refine ⟨fun d' xs ys r w hd' hv _ => ?_, _, hu, fun h => by simp [aggDesc] at h⟩
        rw [hu] at hd'; cases hd'
        simp only [aggDesc, if_true]
        rw [run_equalIn_struct w n t _ _ (by rw [hfo]; exact hu) (by simpa using hst), hfo]
        exact flatFields_eq (fun t' ks' h' => flat_eq dp t' ks' h' n (by omega)) fields.toList 0 ks xs ys r w h (by simpa using hv) (Nat.zero_le _) (Nat.zero_le _)
    · cases h

theorem flat_guardFields {n : Nat} {F : TypeId → Option (List TK)} (hF : ∀ t ks, F t = some ks → P.eqGuardType n t = false) :
    ∀ (fs : List Field) (o : Nat) (ks : List TK), flatFields P F o fs = some ks → (fs.any fun f => f.name != "_" && P.eqGuardType n f.type) = false
  | [], _, _, _ => rfl
  | f :: fs, o, ks, h => by
    simp only [flatFields] at h
    split at h
    · split at h
      · rename_i kf hk
        split at h
        · cases hr : flatFields P F (o + kf.length) fs with
          | none => simp [hr] at h
          | some ks' =>
            have := flat_guardFields hF fs _ ks' hr
            simp only [List.any_cons, this, hF _ _ hk, Bool.and_false, Bool.or_false]
        · cases h
      · cases h
    · cases h

theorem flat_guard : ∀ (dp : Nat) (t : TypeId) (ks : List TK), flatTy P dp t = some ks → ∀ n, dp ≤ n → P.eqGuardType n t = false
  | 0, t, ks, h, _, _ => by simp [flatTy] at h
  | dp + 1, t, ks, h, n, hn => by
    obtain ⟨n, rfl⟩ : ∃ m, n = m + 1 := ⟨n - 1, by omega⟩
    unfold flatTy at h
    unfold Program.eqGuardType
    split at h
    · rename_i hu; simp [hu]
    · rename_i hu; simp [hu]
    · rename_i hu; simp [hu]
    · rename_i len e hu
      simp only [hu]
      split at h
      · rename_i kf hk; exact flat_guard dp e kf hk n (by omega)
      · cases h
    · rename_i fields hu
      simp only [hu]
      split at h
      · cases h
      · have := flat_guardFields (fun t' ks' h' => flat_guard dp t' ks' h' n (by omega)) fields.toList 0 ks h
        rw [← this, Array.any_toList]
    · cases h

end
end Go.Pm
