/- The interpreter's code held against the model's. -/
import Derived.Test.YtkckpmcpmngiiaaGreatDoorPmOp
import Derived.Test.YtkckpmcpmngiiaaGreatDoorPmDraw2
import Derived.Test.YtkckpmcpmngiiaaGreatDoorPmCus
import Derived.Scope
import Derived.LoopN
set_option linter.unusedSimpArgs false
set_option linter.unusedVariables false
set_option linter.unusedSectionVars false
namespace Go.Pm

/-- The interpreter's state and the model's. -/
structure StRel (C : Cf) (s : St) (a : Act) : Prop where
  H : C.H = s.H
  tm : RelL C s.tm a.tmps.toList
  defers : a.defers = []

theorem put_rel {C C' : Cf} (EV : Evo C C') {tm : List SV} {a : Act} (h : RelL C tm a.tmps.toList) {dst : Option Tmp} {v : SV} {u : Value} (hv : RelS C' v u) : RelL C' (put tm dst v) (a.put dst u).tmps.toList := by
  cases dst with
  | none => exact h.evo EV
  | some d =>
    simp only [put, Act.put, Array.toList_setIfInBounds]
    exact (h.evo EV).set d hv

theorem put_defers (a : Act) (dst : Option Tmp) (u : Value) : (a.put dst u).defers = a.defers := by cases dst <;> rfl

theorem yielded_rel {C : Cf} {ops : Array Oper} {tm : List SV} {tmps : Array Value} (h : RelL C tm tmps.toList) (o : Oper) {b : Bool} (hw : aWanted ops.toList tm o = some b) : Region.wanted o (yielded ops tmps) = b := by
  unfold aWanted at hw
  unfold Region.wanted
  cases hg : o.guard with
  | none => simp [hg] at hw; simp [hw]
  | some g =>
    obtain ⟨j, want⟩ := g
    simp only [hg] at hw ⊢
    have e1 : (ops.toList[j]?).bind (·.dst) = (ops[j]?).bind (·.dst) := by simp
    rw [e1] at hw
    cases hd : (ops[j]?).bind (·.dst) with
    | none => simp [hd] at hw; subst hw; simp [yielded, hd]
    | some d =>
      simp only [hd] at hw
      have hy : yielded ops tmps j = match tmps[d]? with | some (.bool b) => some b | _ => none := by unfold yielded; rw [hd]; rfl
      rw [hy]
      cases hs : tm[d]? with
      | none =>
        simp [hs] at hw
        have hl : tmps[d]? = none := by
          have h1 : tm.length ≤ d := by
            rcases Nat.lt_or_ge d tm.length with h | h
            · rw [List.getElem?_eq_getElem h] at hs; cases hs
            · exact h
          have := h.1; simp at this
          exact Array.getElem?_eq_none (by omega)
        subst hw; simp [hl]
      | some c =>
        rw [hs] at hw
        obtain ⟨u, hu, hr⟩ := h.get hs
        have hu' : tmps[d]? = some u := by simpa using hu
        rw [hu']
        cases hr with
        | pv p v hp => cases hp <;> simp at hw <;> subst hw <;> first | rfl | (simp; done) | (cases want <;> rename_i b <;> cases b <;> rfl)
        | own k v s es vc e g val _ _ _ hp _ => cases hp; simp at hw; subst hw; simp
        | _ => simp at hw; subst hw; simp

/-- The invariant, and what stood at the start still standing. -/
def InvJ (W0 : World) (C : Cf) : Prop := Inv C ∧ J0 W0 C

section
variable {P : Program} {Y : TypeId → Option Ty} (E : Env P Y) {W0 : World} {T : FuncId → Option Spec} (hT : TOk P W0 T)
include E hT

theorem aops_sound {pl : PL} {ops : Array Oper} {Q : Exit → Act → World → Prop} : ∀ (rest : List Oper) {C : Cf} {s s' : St} {a : Act}, aops Y T pl ops.toList rest s = some s' → InvJ W0 C → StRel C s a →
    (∀ C' a', InvJ W0 C' → Evo C C' → StRel C' s' a' → Q .normal a' C'.w) → wpList P ops Q rest a C.w
  | [], C, s, s', a, h, I, R, hq => by
    simp [aops] at h; subst h
    exact hq C a I (Evo.refl C) R
  | o :: rest, C, s, s', a, h, I, R, hq => by
    simp only [aops] at h
    simp only [wpList]
    split at h
    · rename_i hw
      rw [if_pos (yielded_rel R.tm o hw)]
      split at h
      · rename_i v H' hop
        refine .inl (aopP_sound E hT I.1 I.2 (ρ := aval s.tm) (by rw [R.H]; exact hop) (aval_eval (vs := a.tmps) R.tm a rfl) ?_)
        intro u C' hg
        exact aops_sound rest h ⟨hg.inv, I.2.evo hg.evo⟩ ⟨hg.H, put_rel hg.evo R.tm hg.rel, by rw [put_defers]; exact R.defers⟩ (fun C'' a' I' EV' R' => hq C'' a' I' (hg.evo.trans EV') R')
      · cases h
    · rename_i hw
      rw [if_neg (by rw [yielded_rel R.tm o hw]; simp)]
      exact aops_sound rest h I ⟨R.H, put_rel (Evo.refl C) R.tm (undef_rel C), by rw [put_defers]; exact R.defers⟩ hq
    · cases h

theorem any_sound {pl : PL} {ops : Array Oper} {Q : Exit → Act → World → Prop} : ∀ (n : Nat) (listed : Array Bool) {C : Cf} {s s' : St} {a : Act}, anyOk Y T pl ops n listed s s' → InvJ W0 C → StRel C s a →
    (∀ C' a', InvJ W0 C' → Evo C C' → StRel C' s' a' → Q .normal a' C'.w) → wpAny P .any ops Q n listed a C.w := by
  intro n
  induction n with
  | zero =>
    intro listed C s s' a h I R hq
    obtain ⟨h1, rfl⟩ := h
    exact ⟨h1, hq C a I (Evo.refl C) R⟩
  | succ n ih =>
    intro listed C s s' a h I R hq
    obtain ⟨h1, h2⟩ := h
    refine ⟨fun e => by have := h1 e; subst this; exact hq C a I (Evo.refl C) R, fun i hi => ?_⟩
    obtain ⟨s1, h3, h4⟩ := h2 i hi
    unfold wpOp
    cases ho : ops[i]? with
    | none =>
      simp [astep, ho] at h3
      subst h3
      exact ih _ h4 I R hq
    | some o =>
      simp only [astep, ho, aops] at h3
      simp only []
      split at h3
      · rename_i hw
        rw [if_pos (yielded_rel R.tm o hw)]
        split at h3
        · rename_i v H' hop
          cases h3
          refine .inl (aopP_sound E hT I.1 I.2 (ρ := aval s.tm) (by rw [R.H]; exact hop) (aval_eval (vs := a.tmps) R.tm a rfl) ?_)
          intro u C' hg
          exact ih _ h4 ⟨hg.inv, I.2.evo hg.evo⟩ ⟨hg.H, put_rel hg.evo R.tm hg.rel, by rw [put_defers]; exact R.defers⟩ (fun C'' a' I' EV' R' => hq C'' a' I' (hg.evo.trans EV') R')
        · cases h3
      · rename_i hw
        rw [if_neg (by rw [yielded_rel R.tm o hw]; simp)]
        cases h3
        exact ih _ h4 I ⟨R.H, put_rel (Evo.refl C) R.tm (undef_rel C), by rw [put_defers]; exact R.defers⟩ hq
      · cases h3

omit E hT in
theorem drawn_evo (C : Cf) (n : Nat) : Evo C { C with w := { C.w with drawn := n } } :=
  ⟨rfl, rfl, rfl, Nat.le_refl _, fun _ _ h => h, fun _ _ _ => rfl, fun _ _ _ => rfl, fun k g h => .inr ⟨k, g, h, rfl⟩, fun _ _ h => .inl h,
    fun _ cs _ h h' => ⟨⟨cs, h, rfl⟩, h'⟩, fun _ v _ g h h' => ⟨v, g, h, Nat.le_refl _, h', fun _ => rfl⟩⟩

omit E hT in
theorem drawn_inv {C : Cf} (I : Inv C) (n : Nat) : Inv { C with w := { C.w with drawn := n } } :=
  ⟨I.len, I.inb, fun k cs g h1 h2 => by
    obtain ⟨arr, t, a1, a2, a3, a4⟩ := I.box k cs g h1 h2
    exact ⟨arr, t, a1, a2, fun j c u b1 b2 => (drawn_evo C n).rel (a3 j c u b1 b2), a4⟩, I.boxS, I.tok, I.tokS, I.boxT, I.dis⟩

omit E hT in
theorem plFrom_ge {d : Tmp} : ∀ {ds : List Tmp} {n k : Nat}, plFrom d n ds = some k → n ≤ k
  | [], n, k, h => by cases h
  | x :: r, n, k, h => by
    simp only [plFrom] at h
    cases hb : Nat.beq x d with
    | true => rw [hb] at h; cases h; exact Nat.le_refl _
    | false => rw [hb] at h; have := plFrom_ge (ds := r) h; omega

omit E hT in
theorem plFrom_inj {d d' : Tmp} : ∀ {ds : List Tmp} {n k : Nat}, plFrom d n ds = some k → plFrom d' n ds = some k → d = d'
  | [], n, k, h, _ => by cases h
  | x :: r, n, k, h, h' => by
    simp only [plFrom] at h h'
    cases hb : Nat.beq x d with
    | true =>
      rw [hb] at h; cases h
      cases hb' : Nat.beq x d' with
      | true => rw [← Nat.eq_of_beq_eq_true hb, ← Nat.eq_of_beq_eq_true hb']
      | false => rw [hb'] at h'; have := plFrom_ge (ds := r) h'; omega
    | false =>
      rw [hb] at h
      cases hb' : Nat.beq x d' with
      | true => rw [hb'] at h'; cases h'; have := plFrom_ge (ds := r) h; omega
      | false => rw [hb'] at h'; exact plFrom_inj (ds := r) h h'

omit E hT in
theorem plFrom_has {d : Tmp} : ∀ {ds : List Tmp} (n : Nat), d ∈ ds → ∃ k, plFrom d n ds = some k
  | [], n, h => by cases h
  | x :: r, n, h => by
    simp only [plFrom]
    cases hb : Nat.beq x d with
    | true => exact ⟨n, rfl⟩
    | false =>
      have hne : d ≠ x := by intro e; subst e; rw [Nat.beq_refl] at hb; cases hb
      rcases List.mem_cons.1 h with h | h
      · exact absurd h hne
      · exact plFrom_has (ds := r) (n + 1) h

omit E hT in
theorem newDsts_mem {o : Oper} {d : Tmp} (hn : isNew o.op = true) (hd : o.dst = some d) : ∀ {l : List Oper}, o ∈ l → d ∈ newDsts l
  | [], h => by cases h
  | x :: r, h => by
    rcases List.mem_cons.1 h with h | h
    · subst h; simp [newDsts, hn, hd]
    · have := newDsts_mem hn hd h
      simp only [newDsts]
      cases isNew x.op with
      | false => simpa using this
      | true => cases x.dst with
        | none => simpa using this
        | some y => simp [this]

omit E hT in
theorem hasStore_mem {o : Oper} (hs : isStore o.op = true) : ∀ {l : List Oper}, o ∈ l → hasStore l = true
  | x :: r, h => by
    simp only [hasStore, Bool.or_eq_true]
    rcases List.mem_cons.1 h with h | h
    · subst h; exact .inl hs
    · exact .inr (hasStore_mem hs h)

omit E hT in
theorem plOf_ok {ops : Array Oper} (base : Nat) : PlOk (plOf (hasStore ops.toList) base (newDsts ops.toList)) ops :=
  ⟨rfl, fun o d ho hn hd => plFrom_has base (newDsts_mem hn hd ho), fun d d' k h h' => plFrom_inj h h', fun o ho hs => ⟨base, by show plFn (hasStore ops.toList) base (newDsts ops.toList) none = _; unfold plFn; rw [hasStore_mem hs ho]; rfl⟩⟩

theorem draw_sound {pl : PL} {id : Nat} {ops : Array Oper} {Q : Exit → Act → World → Prop} (hm : P.follows .mixedOrders = true) (hpl : held ops.toList true = true → PlOk pl ops) (hwt : (!held ops.toList true && watching ops.toList true) = true → ∃ w n, pl.wm = some (w, n) ∧ pl.ws = lateL ops.toList) (hd : drawOk T ops.toList = true) {C : Cf} {s s' : St} {a : Act} (h : aops Y T pl ops.toList ops.toList s = some s') (I : InvJ W0 C) (R : StRel C s a)
    (hq : ∀ C' a', InvJ W0 C' → Evo C C' → StRel C' s' a' → Q .normal a' C'.w) : (Code.region id ops true).wp P Q a C.w := by
  refine wp_region_any hm ?_
  rw [aops_range] at h
  have F := facts_of (Y := Y) hpl hwt hd
  have e0 : restOf ops (Array.replicate ops.size false) = List.range ops.size := by
    unfold restOf
    rw [List.filter_eq_self]
    intro x hx
    have : x < ops.size := by simpa using hx
    simp [Array.getD_eq_getD_getElem?, this]
  have hany := any_of_facts F ops.size (Array.replicate ops.size false) s s' (by simp) (by
    intro i j hb hj
    rcases Nat.lt_or_ge j ops.size with h1 | h1
    · simp [Array.getD_eq_getD_getElem?, h1] at hj
    · rw [bef_none (Array.getElem?_eq_none h1)] at hb; cases hb) (by rw [e0]; simp) (by rw [e0]; exact h)
  have EV := drawn_evo C (C.w.drawn + 1)
  exact any_sound E hT ops.size _ (C := { C with w := { C.w with drawn := C.w.drawn + 1 } }) hany ⟨drawn_inv I.1 _, I.2.evo EV⟩ ⟨R.H, R.tm.evo EV, R.defers⟩ (fun C' a' I' EV' R' => hq C' a' I' (EV.trans EV') R')

omit E hT in
theorem avals_tmp2 {C : Cf} {tm : List SV} {a : Act} (R : RelL C tm a.tmps.toList) {t : Tmp} {x : SV} (h : aval tm (.tmp t) = some x) : RelS C x (a.eval (.tmp t)) := aval_eval (vs := a.tmps) R a rfl _ _ h

/-- The last operations of a region that appends in place. -/
theorem tail_sound {ops : Array Oper} {c : Cus} (CF : CusFacts ops c) {Q : Exit → Act → World → Prop} {C : Cf} {s s' : St} {a : Act} (h : atail Y c s = some s') (I : InvJ W0 C) (R : StRel C s a)
    (hq : ∀ C' a', InvJ W0 C' → Evo C C' → StRel C' s' a' → Q .normal a' C'.w) {fuel : Nat} (hfu : 6 ≤ fuel) {listed : Array Bool} (hls : listed.size = 16) (hl1 : ∀ m, m < 10 → listed.getD m false = true) (hl2 : ∀ m, 10 ≤ m → listed.getD m false = false) :
    wpAny P .any ops Q fuel listed a C.w := by
  unfold atail at h
  split at h
  · rename_i e0 x vs n k o st zs hk hxs hv hix hbx hz
    split at h
    · rename_i xs ps hxe hps
      split at h
      · rename_i hc
        obtain ⟨rfl, hn, hzl, hst, b1, b2, b3, b4⟩ := hc
        unfold atailR at h
        split at h
        · rename_i r H1 happ
          split at h
          · rename_i hh hfa
            split at h
            · rename_i H2 hsto
              cases h
              rw [← R.H] at happ
              have rx := avals_tmp2 R.tm hxs
              have rv := avals_tmp2 R.tm hv
              have rn := avals_tmp2 R.tm hix
              have rb := avals_tmp2 R.tm hbx
              have rz := avals_tmp2 R.tm hz
              -- the element
              generalize hva : a.eval (.tmp c.v) = va at rv
              cases rv with | agg _ us hul hu1 hur =>
              have RL : RelL C vs us := ⟨hul, hur⟩
              obtain ⟨p1, p2⟩ := pcells_rel hps RL
              have hrow : Row C.w C.S ps.length [ps] us := by
                have := chunks_row (w := C.w) (S := C.S) ps.length 1 ps us (by simp) p1 p2
                simpa [chunks] using this
              -- the zero element
              generalize hza : a.eval (.tmp c.z) = vz at rz
              cases rz with | tight _ _ bz oz hpz =>
              have hst' : st = ps.length := by
                cases hpz with | slice _ _ _ _ _ _ _ hs0 _ _ _ =>
                rw [← hzl]; exact (hs0 0 zs rfl).symm
              subst hst'
              generalize hxa : a.eval (.tmp c.xs) = vx at rx
              have hyy : ∃ y, Y c.e = some y ∧ y.size = ps.length ∧ 0 < ps.length := by
                unfold aAppend at happ
                rw [if_neg (by simp), hk, hxe] at happ
                simp only [sliceElems] at happ
                split at happ
                · cases happ
                · rename_i y hy
                  rw [if_neg (by simp)] at happ
                  split at happ
                  · rename_i hcc
                    have := hcc.2.1
                    simp [strideOk] at this
                    exact ⟨y, hy, this.symm, by have := hcc.2.2.1; omega⟩
                  · cases happ
              obtain ⟨y, hy, hys, hpos⟩ := hyy
              obtain ⟨news0, hrow0, hbz, hcz, hcell⟩ := row_of hpz hpos
              have hnl0 : news0.length = ps.length := by have := hrow0.len; simpa using this
              have hone0 : ∀ u ∈ news0, u.oneCell' = true := fun u hu => by
                obtain ⟨j, hj⟩ := List.getElem?_of_mem hu; exact hrow0.one j u hj
              obtain ⟨oo, cl, ho, hgu, hd, hop, hcb, hca, hct⟩ := CF.a
              obtain ⟨v, w1, C', b, cap, eb, fz, cur, xs', hrun, hg, hxs', hvv, hwb, hfz, hfit, hw, hnb⟩ := append_two E I.1 (ty := oo.type) (vs := .slice (some ⟨bz, oz, none⟩) [zs].length [zs].length) happ rx hrow (fun e y1 hk1 hy1 => by
                rw [hk] at hk1; cases hk1
                rw [hy] at hy1; cases hy1
                rw [hys]
                exact Src.ofSlice (P := P) C.w (E.slice hk) _ 1 1 news0 (by rw [hnl0]; omega) (fun j u hj => by rw [Addr.add_lit]; exact (hcell j u hj).1) hone0) hnl0 hone0
              rw [hxe] at hxs'
              cases hxs'
              have hnv : a.eval (.tmp c.ix) = .int .i64 (xs.length : Nat) := by
                generalize a.eval (.tmp c.ix) = q at rn
                cases rn with | pv _ _ rn =>
                cases rn; rw [hn]
              -- the header's box
              generalize hba : a.eval (.tmp c.bx) = vb at rb
              cases rb with | ptr _ _ cs g hH hG =>
              obtain ⟨off, hhe, hfr⟩ := fld_any E hfa
              subst hhe
              have hgb : g.blk ≠ b := hnb k g _ cs hH hG
              obtain ⟨⟨cs1, hH1, hcl⟩, hG1⟩ := hg.evo.boxk k cs g hH hG
              rw [hg.H] at hH1
              have hsto' := hsto
              unfold aStore at hsto'
              have hown : ∃ k1 v1 s1 es1, r = .own k1 v1 s1 es1 := by
                unfold aAppend at happ
                rw [if_neg (by simp), hk, hxe] at happ
                simp only [sliceElems, hy] at happ
                rw [if_neg (by simp)] at happ
                split at happ
                · split at happ
                  · cases happ; exact ⟨_, _, _, _, rfl⟩
                  · cases happ; exact ⟨_, _, _, _, rfl⟩
                  · split at happ
                    · split at happ
                      · cases happ; exact ⟨_, _, _, _, rfl⟩
                      · cases happ
                    · cases happ
                  · cases happ
                · cases happ
              obtain ⟨k1, v1, s1, es1, rfl⟩ := hown
              split at hsto'
              · rename_i yt k2 off2 vs2 hyt e1 e2
                cases e1
                cases e2
                rw [hH1] at hsto'
                simp only [] at hsto'
                split at hsto'
                · rename_i hcc
                  have hyt1 : yt.size = 1 := hcc.1.symm
                  have rh : RelS C' (.ptr k (o + off)) (.pointer (some ⟨g.blk, o + off, none⟩)) := hg.evo.rel (.ptr k (o + off) cs g hH hG)
                  obtain ⟨C'', hrun2, hg2⟩ := store_run E hg.inv (t := c.t) (by rw [hg.H]; exact hsto) rh hg.rel
                  obtain ⟨arr, T1, hgn, hasz, _, _⟩ := hg.inv.box k cs1 g (by rw [hg.H]; exact hH1) hG1
                  have hfitn : o + off + 1 ≤ arr.size := by have := hcc.2; rw [hyt1] at this; omega
                  have hvc : v.cells = #[v] := by rw [hvv]; rfl
                  have hsa := sto_any E hyt (vx := v) (off := o + off) hgn (by simp) (by rw [hvc, hyt1]; rfl) (by rw [hyt1]; exact hfitn) (by rw [hvc]; simp; rw [hvv]; rfl)
                  rw [hrun2, hvc] at hsa
                  have hwe : C''.w = C'.w.setRow g.blk (setV arr.toList (o + off) [v]).toArray := by
                    injection hsa
                  have hn1 : w1.heap[g.blk]? = some (.cells arr T1 (0, 0)) := by
                    rw [hw, setRow_other _ _ _ _ hgb] at hgn; exact hgn
                  have hsz : a.tmps.size = s.tm.length := by have := R.tm.1; simpa using this
                  have hvs : us.length = y.size := by rw [p1, hys]
                  -- the order
                  have step : wpOp P ops Q 10 (wpAny P .any ops Q (fuel - 1) (listed.setIfInBounds 10 true)) a C.w := by
                    unfold wpOp
                    simp only [ho]
                    rw [if_pos (by simp [Region.wanted, hgu])]
                    refine .inl (wp_value (v := v) (w' := w1) ?_ ?_)
                    · have hargs : cl.args.map a.eval = (cl.args.toList.map a.eval).toArray := by apply Array.ext'; simp
                      have hat : cl.argTypes = #[c.t, c.t] := by rw [← Array.toList_inj]; simpa using hct
                      simp only [List.length_singleton] at hza hrun
                      simp [execOp, hop, resolve, hcb, invoke, builtin, hargs, hca, hxa, hza, hat, hrun]
                    · rw [hd]
                      subst hvv
                      have hok := CF.ok
                      unfold cusOk at hok
                      simp only [List.all_cons, List.all_nil, Bool.and_eq_true, bne_iff_ne, ne_eq, Bool.and_true] at hok
                      have hra : c.r < a.tmps.size := by rw [hsz]; exact b1
                      refine tail_any E CF (a0 := a) (b := b) (n := xs.length) (cap := cap) (gn := g.blk) (o := o) (off := off) (vx := .agg us.toArray) hk hy hyt hyt1 hnv hva hba hfr hwb (by rw [hys]; exact hfz) (by rw [hys]; exact hfit) (by show us.toArray.size = _; simpa using hvs)
                        (fun u hu => by
                          have hu : u ∈ us := by simpa [Value.cells] using hu
                          obtain ⟨j, hj⟩ := List.getElem?_of_mem hu; exact hrow.one j u hj) hn1 (by simp) hfitn hgb (by rw [hsz]; exact b2) (by rw [hsz]; exact b3) (by rw [hsz]; exact b4) (fun a' T => ?_) (fuel - 1) 0 0 _ _ _ (by omega) (by omega) (by omega) ?_ ?_ (by simp)
                      · have hw2 : C''.w = (w1.setRow b (setV cur.toList (xs.length * y.size) (Value.agg us.toArray).cells.toList).toArray).setRow g.blk (setV arr.toList (o + off) [.slice (some ⟨b, 0, none⟩) (xs.length + 1) cap]).toArray := by
                          rw [hwe, hw, hys]; rfl
                        rw [← hw2]
                        have EV := hg.evo.trans hg2.evo
                        refine hq C'' a' ⟨hg2.inv, I.2.evo EV⟩ EV ⟨hg2.H, ⟨by simp [T.sz, hsz], fun jj cc uu j1 j2 => ?_⟩, by rw [T.df]; exact R.defers⟩
                        have j2 : a'.tmps[jj]? = some uu := by simpa using j2
                        by_cases q4 : jj = c.h
                        · subst q4
                          rw [List.getElem?_set_self (by simpa using b4)] at j1
                          rw [T.h (by omega)] at j2
                          cases j1; cases j2
                          exact hg2.evo.rel rh
                        rw [List.getElem?_set_ne (fun e => q4 e.symm)] at j1
                        by_cases q3 : jj = c.q
                        · subst q3
                          rw [List.getElem?_set_self (by simpa using b3)] at j1
                          rw [T.q (by omega)] at j2
                          cases j1; cases j2
                          exact EV.rel (.ptr k o cs g hH hG)
                        rw [List.getElem?_set_ne (fun e => q3 e.symm)] at j1
                        by_cases q2 : jj = c.p
                        · subst q2
                          rw [List.getElem?_set_self (by simpa using b2)] at j1
                          rw [T.p (by omega)] at j2
                          cases j1; cases j2
                          exact .cptr [] b _ (fun _ => Go.undef) (fun j p h => by simp at h) (fun j p h => by simp at h) (fun j p h => by simp at h)
                        rw [List.getElem?_set_ne (fun e => q2 e.symm)] at j1
                        by_cases q1 : jj = c.r
                        · subst q1
                          rw [List.getElem?_set_self b1] at j1
                          rw [T.r] at j2
                          cases j1; cases j2
                          exact hg2.evo.rel hg.rel
                        rw [List.getElem?_set_ne (fun e => q1 e.symm)] at j1
                        rw [T.keep jj q1 q2 q3 q4] at j2
                        exact EV.rel (R.tm.2 jj cc uu j1 (by simpa using j2))
                      · have hs10 : 10 < listed.size := by omega
                        refine ⟨by simp [hls], fun m hm => ?_, ?_, ?_, ?_, ?_, ?_⟩
                        · rw [set_at hs10]
                          split
                          · rfl
                          · exact hl1 m (by omega)
                        all_goals (rw [set_at hs10, if_neg (by decide), hl2 _ (by decide)]; rfl)
                      · refine ⟨by simp [Act.put], rfl, fun t q1 q2 q3 q4 => ?_, ?_, fun h => by omega, fun h => by omega, fun h => by omega⟩
                        · rw [put_get hra, if_neg (fun e => q1 e.symm)]
                        · rw [put_get hra, if_pos rfl]
                  obtain ⟨f, rfl⟩ : ∃ f, fuel = f + 1 := ⟨fuel - 1, by omega⟩
                  refine ⟨fun hr => ?_, fun m hm => ?_⟩
                  · have := ready_nil CF.back (by rw [hls, CF.size]) hr 10 (by rw [CF.size]; omega)
                    rw [hl2 10 (by omega)] at this; cases this
                  · obtain ⟨m1, m2, m3⟩ := ready_mem hm
                    rw [CF.size] at m1
                    rw [getD_two (by omega)] at m2
                    have : m = 10 := by
                      rcases Nat.lt_trichotomy m 10 with h | h | h
                      · rw [hl1 m h] at m2; cases m2
                      · exact h
                      · obtain ⟨o1, e1, x1, x2, x3, x4⟩ := CF.eA m h m1
                        have := m3 o1 e1 x1 x2 x3
                        rw [x4, hl2 10 (by omega)] at this; cases this
                    subst this
                    exact step
                · cases hsto'
              · cases hsto'
            · cases h
          · cases h
        · cases h
      · cases h
    · cases h
  · cases h

omit E hT in
theorem any_of_draw {pl : PL} {ops : Array Oper} (hpl : held ops.toList true = true → PlOk pl ops) (hwt : (!held ops.toList true && watching ops.toList true) = true → ∃ w n, pl.wm = some (w, n) ∧ pl.ws = lateL ops.toList) (hd : drawOk T ops.toList = true) {s s' : St} (h : aops Y T pl ops.toList ops.toList s = some s') :
    anyOk Y T pl ops ops.size (Array.replicate ops.size false) s s' := by
  rw [aops_range] at h
  have F := facts_of (Y := Y) hpl hwt hd
  have e0 : restOf ops (Array.replicate ops.size false) = List.range ops.size := by
    unfold restOf
    rw [List.filter_eq_self]
    intro x hx
    have : x < ops.size := by simpa using hx
    simp [Array.getD_eq_getD_getElem?, this]
  exact any_of_facts F ops.size (Array.replicate ops.size false) s s' (by simp) (by
    intro i j hb hj
    rcases Nat.lt_or_ge j ops.size with h1 | h1
    · simp [Array.getD_eq_getD_getElem?, h1] at hj
    · rw [bef_none (Array.getElem?_eq_none h1)] at hb; cases hb) (by rw [e0]; simp) (by rw [e0]; exact h)

omit E hT in
theorem app_getD {listed : Array Bool} (hl : listed.size = 10) (m : Nat) : (listed ++ Array.replicate 6 false).getD m false = if m < 10 then listed.getD m false else false := by
  simp only [Array.getD_eq_getD_getElem?, Array.getElem?_append, hl]
  split
  · rfl
  · simp only [Array.getElem?_replicate]; split <;> rfl

/-- The first operations, in any order. -/
theorem pre_sound {pl : PL} {ops pre : Array Oper} {c : Cus} (CF : CusFacts ops c) (hpre : ∀ m, m < 10 → ops[m]? = pre[m]?) (hps : pre.size = 10) {Q : Exit → Act → World → Prop} {s1 : St} : ∀ (n : Nat) (listed : Array Bool) {C : Cf} {s : St} {a : Act}, listed.size = 10 → anyOk Y T pl pre n listed s s1 → InvJ W0 C → StRel C s a →
    (∀ C' a' fuel listed', 6 ≤ fuel → listed'.size = 16 → (∀ m, m < 10 → listed'.getD m false = true) → (∀ m, 10 ≤ m → listed'.getD m false = false) → InvJ W0 C' → Evo C C' → StRel C' s1 a' → wpAny P .any ops Q fuel listed' a' C'.w) →
    wpAny P .any ops Q (n + 6) (listed ++ Array.replicate 6 false) a C.w := by
  have back : ∀ (i : Nat) (o : Oper) (e : Edge), pre[i]? = some o → e ∈ o.after → Region.binds .any e = true → e.on < i := fun i o e ho => by
    have hi := (Array.getElem?_eq_some_iff.1 ho).1
    rw [hps] at hi
    rw [← hpre i hi] at ho
    exact CF.back i o e ho
  have done : ∀ {listed : Array Bool} {C : Cf} {s : St} {a : Act} {fuel : Nat}, listed.size = 10 → Region.ready .any pre listed = [] → 6 ≤ fuel → InvJ W0 C → StRel C s1 a →
      (∀ C' a' fuel listed', 6 ≤ fuel → listed'.size = 16 → (∀ m, m < 10 → listed'.getD m false = true) → (∀ m, 10 ≤ m → listed'.getD m false = false) → InvJ W0 C' → Evo C C' → StRel C' s1 a' → wpAny P .any ops Q fuel listed' a' C'.w) →
      wpAny P .any ops Q fuel (listed ++ Array.replicate 6 false) a C.w := by
    intro listed C s a fuel hl hr hf I R hq
    have h := ready_nil back (by rw [hl, hps]) hr
    refine hq C a fuel _ hf (by simp [hl]) (fun m hm => ?_) (fun m hm => ?_) I (Evo.refl C) R
    · rw [app_getD hl, if_pos hm]; exact h m (by omega)
    · rw [app_getD hl, if_neg (by omega)]
  intro n
  induction n with
  | zero =>
    intro listed C s a hl h I R hq
    obtain ⟨h1, rfl⟩ := h
    exact done (s := s) hl h1 (by omega) I R hq
  | succ n ih =>
    intro listed C s a hl h I R hq
    obtain ⟨h1, h2⟩ := h
    by_cases hr : Region.ready .any pre listed = []
    · have := h1 hr
      subst this
      exact done (s := s) hl hr (by omega) I R hq
    · rw [show n + 1 + 6 = (n + 6) + 1 by omega]
      refine ⟨fun e => ?_, fun i hi => ?_⟩
      · have := ready_nil CF.back (by rw [CF.size]; simp [hl]) e 10 (by rw [CF.size]; omega)
        rw [app_getD hl, if_neg (by omega)] at this; cases this
      · obtain ⟨i1, i2, i3⟩ := ready_mem hi
        rw [CF.size] at i1
        rw [getD_two (by simp [hl]; omega)] at i2
        have hi10 : i < 10 := by
          rcases Nat.lt_trichotomy i 10 with h | h | h
          · exact h
          · subst h
            obtain ⟨x, hx⟩ := List.exists_mem_of_ne_nil _ hr
            obtain ⟨x1, x2, _⟩ := ready_mem hx
            rw [hps] at x1
            rw [getD_two (by omega)] at x2
            obtain ⟨o1, e1, y1, y2, y3, y4⟩ := CF.e10 x x1
            have := i3 o1 e1 y1 y2 y3
            rw [y4, app_getD hl, if_pos x1, x2] at this; cases this
          · obtain ⟨o1, e1, y1, y2, y3, y4⟩ := CF.eA i h i1
            have := i3 o1 e1 y1 y2 y3
            rw [y4, app_getD hl, if_neg (by omega)] at this; cases this
        rw [app_getD hl, if_pos hi10] at i2
        obtain ⟨o, ho⟩ : ∃ o, pre[i]? = some o := ⟨_, Array.getElem?_eq_getElem (by omega)⟩
        have ho' : ops[i]? = some o := by rw [hpre i hi10]; exact ho
        have hmem : i ∈ Region.ready .any pre listed := by
          simp only [Region.ready, List.mem_filter, List.mem_range, Bool.and_eq_true, Bool.not_eq_true']
          refine ⟨by omega, by rw [getD_two (by omega)]; exact i2, ?_⟩
          rw [ho]
          simp only [Option.map_some, Option.getD_some, Array.all_eq_true']
          intro e he
          cases hb : Region.binds .any e with
          | false => rfl
          | true =>
            have hlt := back i o e ho he hb
            have := i3 o e ho' he hb
            rw [app_getD hl, if_pos (by omega)] at this
            simp [this]
        obtain ⟨s2, h3, h4⟩ := h2 i hmem
        have hg := CF.gn i o hi10 ho'
        unfold wpOp
        simp only [ho']
        rw [if_pos (by simp [Region.wanted, hg])]
        have hset : (listed ++ Array.replicate 6 false).setIfInBounds i true = listed.setIfInBounds i true ++ Array.replicate 6 false := by
          apply Array.ext'
          simp only [Array.toList_setIfInBounds, Array.toList_append]
          rw [List.set_append_left _ _ (by simp [hl]; omega)]
        rw [hset]
        simp only [astep, ho, aops] at h3
        have hw : aWanted pre.toList s.tm o = some true := by simp [aWanted, hg]
        rw [hw] at h3
        simp only [] at h3
        split at h3
        · rename_i v H' hop
          cases h3
          refine .inl (aopP_sound E hT I.1 I.2 (ρ := aval s.tm) (by rw [R.H]; exact hop) (aval_eval (vs := a.tmps) R.tm a rfl) ?_)
          intro u C' hg'
          exact ih _ (by simp [hl]) h4 ⟨hg'.inv, I.2.evo hg'.evo⟩ ⟨hg'.H, put_rel hg'.evo R.tm hg'.rel, by rw [put_defers]; exact R.defers⟩ (fun C'' a' fuel l' f1 f2 f3 f4 I' EV' R' => hq C'' a' fuel l' f1 f2 f3 f4 I' (hg'.evo.trans EV') R')
        · cases h3

/-- A region that appends in place. -/
theorem cus_any {pl : PL} {id : Nat} {ops : Array Oper} {c : Cus} (hm : P.follows .mixedOrders = true) (CF : CusFacts ops c) {Q : Exit → Act → World → Prop} {C : Cf} {s s1 s' : St} {a : Act}
    (h1 : anyOk Y T pl (ops.toList.take 10).toArray 10 (Array.replicate 10 false) s s1) (h2 : atail Y c s1 = some s') (I : InvJ W0 C) (R : StRel C s a)
    (hq : ∀ C' a', InvJ W0 C' → Evo C C' → StRel C' s' a' → Q .normal a' C'.w) : (Code.region id ops true).wp P Q a C.w := by
  refine wp_region_any hm ?_
  have EV := drawn_evo C (C.w.drawn + 1)
  have e1 : Array.replicate ops.size false = Array.replicate 10 false ++ Array.replicate 6 false := by rw [CF.size]; rfl
  rw [e1, CF.size]
  refine pre_sound E hT (pre := (ops.toList.take 10).toArray) CF (fun m hm => ?_) (by simp [CF.size]) 10 _ (C := { C with w := { C.w with drawn := C.w.drawn + 1 } }) (by simp) h1 ⟨drawn_inv I.1 _, I.2.evo EV⟩ ⟨R.H, R.tm.evo EV, R.defers⟩ ?_
  · simp [List.getElem?_take, hm]
  · intro C' a' fuel l' f1 f2 f3 f4 I' EV' R'
    exact tail_sound E hT CF h2 I' R' (fun C'' a'' I'' EV'' R'' => hq C'' a'' I'' (EV.trans (EV'.trans EV'')) R'') f1 f2 f3 f4

theorem cus_sound {id : Nat} {ops : Array Oper} {c : Cus} (hm : P.follows .mixedOrders = true) (CF : CusFacts ops c) (hd : drawOk T (ops.toList.take 10) = true) {Q : Exit → Act → World → Prop} {C : Cf} {s s1 s' : St} {a : Act}
    (h1 : aregN Y T (ops.toList.take 10) true s = some s1) (h2 : atail Y c s1 = some s') (I : InvJ W0 C) (R : StRel C s a)
    (hq : ∀ C' a', InvJ W0 C' → Evo C C' → StRel C' s' a' → Q .normal a' C'.w) : (Code.region id ops true).wp P Q a C.w := by
  have hsz : (ops.toList.take 10).toArray.size = 10 := by simp [CF.size]
  have hd' : drawOk T (ops.toList.take 10).toArray.toList = true := by simpa using hd
  unfold aregN at h1
  cases hh : held (ops.toList.take 10) true with
  | false =>
    rw [hh] at h1
    simp only [cond_false] at h1
    cases hw : watching (ops.toList.take 10) true with
    | false =>
      rw [hw] at h1
      have := any_of_draw (Y := Y) (T := T) (pl := noPl) (ops := (ops.toList.take 10).toArray) (fun e => by simp only [] at e; rw [hh] at e; cases e) (fun e => by simp only [] at e; rw [hw] at e; simp at e) hd' (s := s) (s' := s1) h1
      rw [hsz] at this
      exact cus_any E hT hm CF this h2 I R hq
    | true =>
      rw [hw] at h1
      simp only [cond_true] at h1
      cases hk : watchK (aval s.tm (.tmp (watchTmp (ops.toList.take 10)))) with
      | none => rw [hk] at h1; cases h1
      | some w =>
        rw [hk] at h1
        have := any_of_draw (Y := Y) (T := T) (pl := watchPl (lateL (ops.toList.take 10)) w s.H.length) (ops := (ops.toList.take 10).toArray) (fun e => by simp only [] at e; rw [hh] at e; cases e) (fun _ => ⟨w, _, rfl, rfl⟩) hd' (s := s) (s' := s1) h1
        rw [hsz] at this
        exact cus_any E hT hm CF this h2 I R hq
  | true =>
    rw [hh] at h1
    simp only [cond_true] at h1
    obtain ⟨C1, hw, hH, I1, EV1⟩ := keep_good I.1 (newDsts (ops.toList.take 10)).length
    have := any_of_draw (Y := Y) (T := T) (pl := plOf (hasStore (ops.toList.take 10)) (mbase s.H (newDsts (ops.toList.take 10))) (newDsts (ops.toList.take 10))) (ops := (ops.toList.take 10).toArray) (fun _ => plOf_ok _) (fun e => by simp only [] at e; rw [hh] at e; simp at e) hd' h1
    rw [hsz] at this
    rw [← hw]
    exact cus_any E hT hm CF this h2 (C := C1) ⟨I1, I.2.evo EV1⟩ ⟨by rw [hH, R.H]; rfl, R.tm.evo EV1, R.defers⟩ (fun C' a' I' EV' R' => hq C' a' I' (EV1.trans EV') R')

theorem region_sound {id : Nat} {ops : Array Oper} {d : Bool} {Q : Exit → Act → World → Prop} (hm : P.follows .mixedOrders = true) (hd : codeOk T (.region id ops d) = true) {C : Cf} {s s' : St} {a : Act} (h : areg Y T ops.toList d s = some s') (I : InvJ W0 C) (R : StRel C s a)
    (hq : ∀ C' a', InvJ W0 C' → Evo C C' → StRel C' s' a' → Q .normal a' C'.w) : (Code.region id ops d).wp P Q a C.w := by
  unfold areg at h
  cases d with
  | false =>
    simp only [cusD, aregN, held, watching, Bool.false_and, cond_false] at h
    exact wp_region_list (aops_sound E hT ops.toList h I R hq)
  | true =>
    simp only [codeOk] at hd
    cases hcu : cusD ops.toList true with
    | some c =>
      rw [hcu] at hd h
      simp only [Bool.and_eq_true, decide_eq_true_eq] at hd h
      split at h
      · rename_i s1 h1
        exact cus_sound E hT hm (cus_facts hcu hd.1.2 hd.2) hd.1.1 h1 h I R hq
      · cases h
    | none =>
    rw [hcu] at hd h
    simp only [] at hd h
    unfold aregN at h
    cases hh : held ops.toList true with
    | false =>
      rw [hh] at h
      simp only [cond_false] at h
      cases hw : watching ops.toList true with
      | false =>
        rw [hw] at h
        exact draw_sound E hT hm (fun e => by rw [hh] at e; cases e) (fun e => by rw [hw] at e; simp at e) hd h I R hq
      | true =>
        rw [hw] at h
        simp only [cond_true] at h
        cases hk : watchK (aval s.tm (.tmp (watchTmp ops.toList))) with
        | none => rw [hk] at h; cases h
        | some w =>
          rw [hk] at h
          exact draw_sound E hT hm (fun e => by rw [hh] at e; cases e) (fun _ => ⟨w, _, rfl, rfl⟩) hd h I R hq
    | true =>
      rw [hh] at h
      simp only [cond_true] at h
      obtain ⟨C1, hw, hH, I1, EV1⟩ := keep_good I.1 (newDsts ops.toList).length
      rw [← hw]
      refine draw_sound E hT hm (fun _ => plOf_ok _) (fun e => by rw [hh] at e; simp at e) hd h (C := C1) ⟨I1, I.2.evo EV1⟩ ⟨by rw [hH, R.H]; rfl, R.tm.evo EV1, R.defers⟩ (fun C' a' I' EV' R' => hq C' a' I' (EV1.trans EV') R')

/-- Where the code has come to. -/
def OutRel (W0 : World) (C : Cf) (o : Out) : Exit → Act → World → Prop
  | .normal, a, w => ∃ C' s, o = .norm s ∧ InvJ W0 C' ∧ Evo C C' ∧ StRel C' s a ∧ C'.w = w
  | .exit id, a, w => ∃ C' s, o = .exit id s ∧ InvJ W0 C' ∧ Evo C C' ∧ StRel C' s a ∧ C'.w = w
  | .ret, a, w => ∃ C' s, o = .ret s ∧ InvJ W0 C' ∧ Evo C C' ∧ StRel C' s a ∧ C'.w = w
  | _, _, _ => False

theorem OutRel.evo {C C' : Cf} (h : Evo C C') {o : Out} {e : Exit} {a : Act} {w : World} (hr : OutRel W0 C' o e a w) : OutRel W0 C o e a w := by
  cases e <;> simp only [OutRel] at hr ⊢
  all_goals first
    | (obtain ⟨D, s, h1, h2, h3, h4⟩ := hr; exact ⟨D, s, h1, h2, h.trans h3, h4⟩)

/-- The code, and a loop's rounds, at some fuel. -/
def CodeAt (P : Program) (Y : TypeId → Option Ty) (W0 : World) (T : FuncId → Option Spec) (n : Nat) : Prop :=
  ∀ (c : Code) {C : Cf} {s : St} {a : Act} {o : Out}, codeOk T c = true → acode Y T n c s = some o → InvJ W0 C → StRel C s a → c.wp P (OutRel W0 C o) a C.w
def LoopAt (P : Program) (Y : TypeId → Option Ty) (W0 : World) (T : FuncId → Option Spec) (n : Nat) : Prop :=
  ∀ (b : Code) {C : Cf} {s : St} {a : Act} {o : Out}, codeOk T b = true → acode Y T n (.loop b) s = some o → InvJ W0 C → StRel C s a → Code.rounds P b (OutRel W0 C o) n a C.w

theorem loop_step {n : Nat} (HA : CodeAt P Y W0 T n) (HL : LoopAt P Y W0 T n) : LoopAt P Y W0 T (n + 1) := by
  intro b C s a o hc h I R
  simp only [acode] at h
  rw [rounds_succ]
  split at h
  · rename_i s1 h1
    refine wp_mono (HA b hc h1 I R) ?_
    intro e a' w hr
    cases e <;> simp only [OutRel, Exit.then] at hr ⊢
    · obtain ⟨D, s2, e1, I', EV, R', rfl⟩ := hr
      cases e1
      have := HL b hc h I' R'
      have mono : ∀ (m : Nat) (a : Act) (w : World), Code.rounds P b (OutRel W0 D o) m a w → Code.rounds P b (OutRel W0 C o) m a w := by
        intro m
        induction m with
        | zero => intro a w h; exact h.elim
        | succ m ih =>
          intro a w h
          rw [rounds_succ] at h ⊢
          refine wp_mono h ?_
          intro e a w hr
          cases e <;> simp only [Exit.then] at hr ⊢
          · exact ih a w hr
          all_goals exact OutRel.evo E hT EV hr
      exact mono n _ _ this
    · obtain ⟨D, s2, e1, _⟩ := hr; cases e1
    · obtain ⟨D, s2, e1, _⟩ := hr; cases e1
  · rename_i hne
    refine wp_mono (HA b hc h I R) ?_
    intro e a' w hr
    cases e <;> simp only [OutRel, Exit.then] at hr ⊢
    · obtain ⟨D, s2, e1, _⟩ := hr
      subst e1
      exact absurd h (hne s2)
    · exact hr
    · exact hr

theorem code_step (hm : P.follows .mixedOrders = true) {n : Nat} (HA : CodeAt P Y W0 T n) (HB : LoopAt P Y W0 T (n + 1)) : CodeAt P Y W0 T (n + 1) := by
    intro c C s a o hc h I R
    cases c with
    | skip => simp [acode] at h; subst h; exact wp_skip ⟨C, s, rfl, I, Evo.refl C, R, rfl⟩
    | region id ops draw =>
      simp only [acode] at h
      split at h
      · rename_i s' hs
        cases h
        exact region_sound E hT hm hc hs I R (fun C' a' I' EV R' => ⟨C', s', rfl, I', EV, R', rfl⟩)
      · cases h
    | seq x y =>
      simp only [codeOk, Bool.and_eq_true] at hc
      simp only [acode] at h
      refine wp_seq ?_
      split at h
      · rename_i s1 h1
        refine wp_mono (HA x hc.1 h1 I R) ?_
        intro e a' w hr
        cases e <;> simp only [OutRel, Exit.then] at hr ⊢
        · obtain ⟨D, s2, e1, I', EV, R', rfl⟩ := hr
          cases e1
          exact wp_mono (HA y hc.2 h I' R') (fun e a w hr => hr.evo E hT EV)
        · obtain ⟨D, s2, e1, _⟩ := hr; cases e1
        · obtain ⟨D, s2, e1, _⟩ := hr; cases e1
      · rename_i hne
        refine wp_mono (HA x hc.1 h I R) ?_
        intro e a' w hr
        cases e <;> simp only [OutRel, Exit.then] at hr ⊢
        · obtain ⟨D, s2, e1, _⟩ := hr
          subst e1
          exact absurd h (hne s2)
        · exact hr
        · exact hr
    | cond x y z =>
      simp only [codeOk, Bool.and_eq_true] at hc
      simp only [acode] at h
      split at h
      · rename_i t ht
        have hx := aval_eval (vs := a.tmps) R.tm a rfl x _ ht
        generalize hv : a.eval x = v at hx
        cases hx with | pv _ _ hx =>
        cases hx
        refine wp_cond hv ?_
        cases t with
        | true => exact HA y hc.1 (by simpa using h) I R
        | false => exact HA z hc.2 (by simpa using h) I R
      · cases h
    | block id b =>
      simp only [codeOk] at hc
      simp only [acode] at h
      refine wp_block ?_
      split at h
      · rename_i i s' hb
        refine wp_mono (HA b hc hb I R) ?_
        intro e a' w hr
        cases e <;> simp only [OutRel, Exit.inBlock] at hr ⊢
        · obtain ⟨D, s2, e1, _⟩ := hr; cases e1
        · rename_i j
          obtain ⟨D, s2, e1, I', EV, R', hw⟩ := hr
          cases e1
          split at h
          · rename_i hi
            cases h
            rw [if_pos hi]
            exact ⟨D, s', rfl, I', EV, R', hw⟩
          · rename_i hi
            cases h
            rw [if_neg hi]
            exact ⟨D, s', rfl, I', EV, R', hw⟩
        · obtain ⟨D, s2, e1, _⟩ := hr; cases e1
      · rename_i hne
        refine wp_mono (HA b hc h I R) ?_
        intro e a' w hr
        cases e <;> simp only [OutRel, Exit.inBlock] at hr ⊢
        · exact hr
        · obtain ⟨D, s2, e1, _⟩ := hr
          subst e1
          exact absurd h (hne _ _)
        · exact hr
    | loop b => exact wp_loop_rounds (n + 1) (HB b (by simpa [codeOk] using hc) h I R)
    | exit id => simp [acode] at h; subst h; exact wp_exit ⟨C, s, rfl, I, Evo.refl C, R, rfl⟩
    | ret => simp [acode] at h; subst h; exact wp_ret ⟨C, s, rfl, I, Evo.refl C, R, rfl⟩
    | scope b =>
      simp only [codeOk] at hc
      simp only [acode] at h
      refine wp_scope_straight (wp_mono (HA b hc h I R) ?_)
      intro e a' w hr
      cases e <;> simp only [OutRel, Exit.noGoto] at hr ⊢
      all_goals exact hr
    | label l => simp [acode] at h; subst h; exact wp_label ⟨C, s, rfl, I, Evo.refl C, R, rfl⟩
    | rangeFunc f ps asg body => simp [acode] at h
    | goto l => simp [acode] at h
    | refuse w => simp [acode] at h

theorem both_sound (hm : P.follows .mixedOrders = true) : ∀ n, CodeAt P Y W0 T n ∧ LoopAt P Y W0 T n
  | 0 => ⟨fun c C s a o _ h _ _ => by simp [acode] at h, fun b C s a o _ h _ _ => by simp [acode] at h⟩
  | n + 1 => by
    obtain ⟨h1, h2⟩ := both_sound hm n
    have h3 := loop_step E hT h1 h2
    exact ⟨code_step E hT hm h1 h3, h3⟩
end
end Go.Pm
