/- What the laws share: what the library's variables hold, out of the world's shape; trees as they come in, read out of the memory. -/
import Derived.Test.YtkckpmcpmngiiaaGreatDoorLawA
import Derived.Test.YtkckpmcpmngiiaaGreatDoorTie
import Derived.Test.YtkckpmcpmngiiaaGreatDoorCards
import Derived.WalkKit
import Derived.ProofKit
import Derived.Handy
import Derived.Lay
import Derived.SevenTiedAt
import Derived.Lib.SmallJoins
import Derived.Lib.LaidTab
import Derived.SizedLaws
import Derived.ChangeSame
import Derived.ChangeVars
import Derived.JoinedOf
import Derived.JoinedAt
import Derived.RowKit
import Derived.LaidLaws
import Derived.OpenShut
import Derived.Deep.Strs
import Derived.Carry
import Derived.Shelf.Vars
import Derived.HandedShaped
set_option linter.unusedVariables false
set_option maxRecDepth 100000
namespace Go.Proofs.YtkckpmcpmngiiaaGreatDoor
open Go Go.ChangeShapes Go.WideShapes Go.ChangeAt Go.RowKit Go.Joins
abbrev kindsP : List LaidKind := [.data, .pinned]
noncomputable abbrev laidP : List (String × DataW Unit) := Rows.markupEscapesRow.laid
theorem own : ownKnob Tryz.prog.godebug = none := by kernel_rfl
theorem laidP_met (os : Os) (args : Array Value) : laidMet Tryz.prog laidP ((World.laidAll Tryz.prog os laidP).forCall (fun _ _ => 0) ⟨#[], args, []⟩).memory :=
  laidMet_laidAll _ (by kernel_rfl) (by kernel_rfl)
theorem laid_of {W : World} (h : W.ShapedOpen Tryz.prog) : Laid W :=
  Go.Proofs.cell_of_shapedOpen_int (zero := #[.int .i64 0]) (t := 3) h (of_decide_eq_true (by kernel_rfl)) (by kernel_rfl) rfl (by kernel_rfl) (by kernel_rfl) Tryz.underlying3
/-- The plain wrap with a condition on the world and the world's shape. -/
theorem handed_and_shaped {H : Type} {enc : TypeId × Value → H} {a : Assume} {C : Checked} {os : Os} {f : FuncId} {fn : Func} {s : ChangeSpec} {conds : List PathCond} {apart fresh handsOn again : Bool} {X : World → Array Value → Prop}
    (hX : ∀ (w w' : World) (args : Array Value), w.heap = w'.heap → X w args → X w' args)
    (own : ownKnob C.prog.godebug = none) (started : os.Started) (noInit : C.prog.inits.idxOf? f = none) (hfn : C.prog.funcs[f]? = some fn)
    (witness : ∃ (w : World) (tape : Tape) (i : Input), w.os = os ∧ (w.forCall tape i).Shaped C.prog ∧ i.vars = [] ∧ Input.okWide C.prog (w.forCall tape i) .any w.heap.size f i ∧
      ((s.pre enc C.prog fn conds apart (w.forCall tape i).memory i.args ∧ X (w.forCall tape i).memory i.args) ∧ sizedMet enc C.prog fn (OpenSpec.ofChange s) apart (w.forCall tape i).memory i.args) ∧ a.holds C.prog (lone (Frame.enter C.prog f i.args .normal) [] (w.forCall tape i)))
    (contract : ∀ (W : World) (base : Nat) (args : Array Value) (ds gs : List (DataW H)) (before : List MemPlace),
      (∀ (j : Nat) t v, fn.params[j]? = some t → args[j]? = some v → Value.okWide C.prog W .any base t v) →
      DataW.Whole enc C.prog fn.params.toList s.vars apart W args.toList ds gs before →
      X W args → W.ShapedOpen C.prog →
      Calls C.prog f args W fun e W' => ∃ v, e = .returned v ∧ s.post enc C.prog fn apart fresh handsOn again W args v W') :
    ReturnsInHanded a C os f .any (fun w args => (s.pre enc C.prog fn conds apart w args ∧ X w args) ∧ sizedMet enc C.prog fn (OpenSpec.ofChange s) apart w args) (s.post enc C.prog fn apart fresh handsOn again) := by
  refine returnsInHanded_of_calls own started noInit witness ?_
  intro w tape i _ hsh _ hok hpre hholds
  obtain ⟨_, _, _, fn', hfn', _, _, _, _, hval⟩ := hok
  have e : fn' = fn := Option.some.inj (hfn'.symm.trans hfn)
  subst e
  obtain ⟨⟨⟨ds, gs, before, hw, hc⟩, hx⟩, hz⟩ := hpre
  have hw' := DataW.Whole.of_heap (w' := w.forCall tape i) (by rfl) hw
  refine (contract (w.forCall tape i) w.heap.size i.args ds gs before hval hw' (hX _ _ _ (by rfl) hx) hsh).mono fun e W' ⟨v, he, hp⟩ => ?_
  subst he
  exact ChangeSpec.post_blind hp
theorem rel_I (C : Pm.Cf) (k : IntKind) (n : Int) : Pm.RelS C (.int k n) (.int k n) := .pv _ _ (.int _ _)
/-! ## Trees out of the memory -/
theorem list_of {α : Type} {R : Nat → α → Prop} : ∀ n : Nat, (∀ i, i < n → ∃ o, R i o) → ∃ l : List α, l.length = n ∧ ∀ i o, l[i]? = some o → R i o
  | 0, _ => ⟨[], rfl, fun i o h => by simp at h⟩
  | n + 1, h => by
    obtain ⟨l, h1, h2⟩ := list_of n (fun i hi => h i (by omega))
    obtain ⟨o, ho⟩ := h n (by omega)
    refine ⟨l ++ [o], by simp [h1], fun i o' hi => ?_⟩
    rcases Nat.lt_or_ge i l.length with hl | hl
    · rw [List.getElem?_append_left hl] at hi; exact h2 i o' hi
    · have hi2 : i < (l ++ [o]).length := (List.getElem?_eq_some_iff.1 hi).1
      have : i = l.length := by simp at hi2; omega
      subst this
      simp at hi
      subst hi
      rw [h1]; exact ho
/-- Cells of a row, as values: what a cell holds. -/
def RelRow (W : World) (ps : List Pm.PV) (us : List Value) : Prop := ∀ (j : Nat) (p : Pm.PV) (v : Value), ps[j]? = some p → us[j]? = some v → Pm.RelP W (fun b _ => b < W.heap.size) p v
theorem read_slice {H : Type} {enc : TypeId × Value → H} {W : World} {t e : TypeId} {s : Nat} (ht : Tryz.prog.underlying t = some (.slice e)) (hs : Tryz.prog.cellsOf e = s + 1) {fuel : Nat} {cs : List Value} {x : DataW H × List MemPlace}
    (h : DataW.trod enc Tryz.prog W 0 (fun _ => true) true (fuel + 1) t cs = some x) (Q : List Pm.PV → Prop)
    (el : ∀ (cs : List Value) (y : DataW H × List MemPlace), DataW.trod enc Tryz.prog W 0 (fun _ => true) true fuel e cs = some y → ∃ ps, Q ps ∧ ps.length = s + 1 ∧ cs.length = s + 1 ∧ RelRow W ps cs) :
    ∃ v p, cs = [v] ∧ Pm.RelP W (fun b _ => b < W.heap.size) p v ∧ ((p = .nilSlice ∨ p = .empS) ∨ ∃ es : List (List Pm.PV), p = .slice (s + 1) es ∧ ∀ (i : Nat) (r : List Pm.PV), es[i]? = some r → Q r) := by
  rcases DataW.trod_slice ht h with ⟨hcs, hx⟩ | ⟨a, len, cap, elems, rest, n, hn, hcs, _, hb, hl, hm, hlen, hel, _, _⟩
  · exact ⟨_, _, hcs, .nilSlice, .inl (.inl rfl)⟩
  · obtain rfl : n = fuel := by omega
    cases len with
    | zero => exact ⟨_, _, hcs, .empS a cap, .inl (.inr rfl)⟩
    | succ len =>
      rw [hs] at hel
      have rows : ∀ i, i < len + 1 → ∃ o : List Pm.PV × List Value, Q o.1 ∧ o.1.length = s + 1 ∧ o.2.length = s + 1 ∧ RelRow W o.1 o.2 ∧ ∀ (j : Nat), j < s + 1 → W.cell? ((a.add (i * (s + 1))).add j) = o.2[j]? := by
        intro i hi
        have hi' := hel i hi
        have he : elems[i]? = some (elems[i]'(by omega)) := List.getElem?_eq_getElem _
        rw [he, Option.bind_eq_some_iff] at hi'
        obtain ⟨cs, hc, hy⟩ := hi'
        obtain ⟨ps, h1, h2, h3, h4⟩ := el _ _ hy
        obtain ⟨_, hc2, hc3⟩ := World.cells?_some hc
        exact ⟨(ps, cs), h1, h2, h3, h4, hc3⟩
      obtain ⟨os, ho1, ho2⟩ := list_of (len + 1) rows
      have hsp : a.spot = none := by
        obtain ⟨o, -, -, h3, -, h5⟩ := rows 0 (by omega)
        have h0 := h5 0 (by omega)
        have : o.2[0]? = some (o.2[0]'(by omega)) := List.getElem?_eq_getElem _
        rw [this] at h0
        unfold World.cell? at h0
        split at h0
        · split at h0
          · cases h0
          · rename_i hh
            have : (a.add (0 * (s + 1))).add 0 = a := by cases a; simp [Addr.add]
            rw [this] at hh
            cases hsp : a.spot with
            | none => rfl
            | some z => rw [hsp] at hh; exact absurd rfl hh
        · cases h0
      obtain ⟨ab, ao, spot⟩ := a
      obtain rfl : spot = none := hsp
      have cell : ∀ (i : Nat) (o : List Pm.PV × List Value) (j : Nat) (p : Pm.PV), os[i]? = some o → o.1[j]? = some p → ∃ v, o.2[j]? = some v ∧ W.cell? ⟨ab, ao + i * (s + 1) + j, none⟩ = some v := fun i o j p hi hj => by
        obtain ⟨-, h2, h3, -, h5⟩ := ho2 i o hi
        have hj' : j < s + 1 := by have := (List.getElem?_eq_some_iff.1 hj).1; omega
        have h0 := h5 j hj'
        have hv : o.2[j]? = some (o.2[j]'(by omega)) := List.getElem?_eq_getElem _
        rw [hv] at h0
        refine ⟨_, hv, ?_⟩
        rw [← h0, Addr.add_lit, Addr.add_lit]
      have row : ∀ (i : Nat) (r : List Pm.PV), (os.map Prod.fst)[i]? = some r → ∃ o, os[i]? = some o ∧ r = o.1 := fun i r hr => by
        rw [List.getElem?_map, Option.map_eq_some_iff] at hr
        obtain ⟨o, h1, rfl⟩ := hr
        exact ⟨o, h1, rfl⟩
      have key : Pm.RelP W (fun b _ => b < W.heap.size) (.slice (s + 1) (os.map Prod.fst)) (.slice (some ⟨ab, ao, none⟩) (os.map Prod.fst).length cap) := by
        refine .slice (s + 1) _ ab ao cap (fun i j => ((os[i]?).map fun o => o.2.getD j (.bool false)).getD (.bool false)) (by simp; omega) (fun i r hr => ?_) (fun i r j p hr hj => ?_) (fun i r j p hr hj => ?_) (fun i r j p hr hj => ?_)
        · obtain ⟨o, h1, rfl⟩ := row i r hr; exact (ho2 i o h1).2.1
        · obtain ⟨o, h1, rfl⟩ := row i r hr
          obtain ⟨v, -, hv⟩ := cell i o j p h1 hj
          exact World.block_lt_of_cell? W _ hv
        · obtain ⟨o, h1, rfl⟩ := row i r hr
          obtain ⟨v, hv1, hv⟩ := cell i o j p h1 hj
          rw [hv]; simp [h1, List.getD, hv1]
        · obtain ⟨o, h1, rfl⟩ := row i r hr
          obtain ⟨v, hv1, hv⟩ := cell i o j p h1 hj
          simp only [h1, Option.map_some, Option.getD_some, List.getD, hv1]
          exact (ho2 i o h1).2.2.2.1 j p v hj hv1
      rw [show (os.map Prod.fst).length = len + 1 by simp [ho1]] at key
      refine ⟨_, _, hcs, key, .inr ⟨_, rfl, fun i r hr => ?_⟩⟩
      obtain ⟨o, h1, rfl⟩ := row i r hr
      exact (ho2 i o h1).1
theorem cells25 : Tryz.prog.cellsOf 25 = 4 := by kernel_rfl
theorem cells56 : Tryz.prog.cellsOf 56 = 2 := by kernel_rfl
theorem cells9 : Tryz.prog.cellsOf 9 = 1 := by kernel_rfl
theorem cells22 : Tryz.prog.cellsOf 22 = 1 := by kernel_rfl
theorem cells23 : Tryz.prog.cellsOf 23 = 1 := by kernel_rfl
theorem list2 {α : Type} {cs : List α} (h : cs.length = 2) : ∃ c0 c1, cs = [c0, c1] := by
  match cs, h with
  | [c0, c1], _ => exact ⟨c0, c1, rfl⟩
theorem list4 {α : Type} {cs : List α} (h : cs.length = 4) : ∃ c0 c1 c2 c3, cs = [c0, c1, c2, c3] := by
  match cs, h with
  | [c0, c1, c2, c3], _ => exact ⟨c0, c1, c2, c3, rfl⟩
theorem row2 {W : World} {p0 p1 : Pm.PV} {v0 v1 : Value} (h0 : Pm.RelP W (fun b _ => b < W.heap.size) p0 v0) (h1 : Pm.RelP W (fun b _ => b < W.heap.size) p1 v1) : RelRow W [p0, p1] [v0, v1] := by
  intro j p v hp hv
  match j with
  | 0 => simp at hp hv; subst hp hv; exact h0
  | 1 => simp at hp hv; subst hp hv; exact h1
  | j + 2 => simp at hp
theorem row4 {W : World} {p0 p1 p2 p3 : Pm.PV} {v0 v1 v2 v3 : Value} (h0 : Pm.RelP W (fun b _ => b < W.heap.size) p0 v0) (h1 : Pm.RelP W (fun b _ => b < W.heap.size) p1 v1)
    (h2 : Pm.RelP W (fun b _ => b < W.heap.size) p2 v2) (h3 : Pm.RelP W (fun b _ => b < W.heap.size) p3 v3) : RelRow W [p0, p1, p2, p3] [v0, v1, v2, v3] := by
  intro j p v hp hv
  match j with
  | 0 => simp at hp hv; subst hp hv; exact h0
  | 1 => simp at hp hv; subst hp hv; exact h1
  | 2 => simp at hp hv; subst hp hv; exact h2
  | 3 => simp at hp hv; subst hp hv; exact h3
  | j + 4 => simp at hp
theorem relStr {W : World} (s : ByteArray) : Pm.RelP W (fun b _ => b < W.heap.size) (.str s.data.toList) (.string s) := by
  have := Pm.RelP.str (w := W) (S := fun b _ => b < W.heap.size) s.data.toList
  have e : (⟨s.data.toList.toArray⟩ : ByteArray) = s := by cases s; simp
  rw [e] at this; exact this
/-- A pair of texts. -/
theorem readA {H : Type} {enc : TypeId × Value → H} {W : World} {fuel : Nat} {cs : List Value} {x : DataW H × List MemPlace} (h : DataW.trod enc Tryz.prog W 0 (fun _ => true) true fuel 56 cs = some x) :
    ∃ ps, (∃ a, ps = atRow a) ∧ ps.length = 2 ∧ cs.length = 2 ∧ RelRow W ps cs := by
  obtain ⟨y0, y1, n, hx, hl, h0, h1⟩ := trod_struct2 Tryz.underlying56 h
  rw [cells56] at hl
  obtain ⟨c0, c1, rfl⟩ := list2 hl
  simp [cells9] at h0 h1
  obtain ⟨s, e0, rfl, w0⟩ := DataW.trod_string Tryz.underlying9 h0
  obtain ⟨t, e1, rfl, w1⟩ := DataW.trod_string Tryz.underlying9 h1
  simp at e0 e1
  subst e0 e1
  exact ⟨_, ⟨(s.data.toList, t.data.toList), rfl⟩, rfl, rfl, row2 (relStr s) (relStr t)⟩
theorem unAt_of : ∀ es : List (List Pm.PV), (∀ (i : Nat) (r : List Pm.PV), es[i]? = some r → ∃ a, r = atRow a) → ∃ l, unAt es = some l
  | [], _ => ⟨[], rfl⟩
  | e :: r, h => by
    obtain ⟨a, rfl⟩ := h 0 e rfl
    obtain ⟨l, hl⟩ := unAt_of r (fun i x hx => h (i + 1) x (by simpa using hx))
    exact ⟨(a.1, a.2) :: l, by show (unAt r).map ((a.1, a.2) :: ·) = _; rw [hl]; rfl⟩
theorem rowsP_of : ∀ es : List (List Pm.PV), (∀ (i : Nat) (r : List Pm.PV), es[i]? = some r → ∃ n, ndP r = some n) → ∃ l, rowsP es = some l
  | [], _ => ⟨[], by simp only [rowsP]⟩
  | e :: r, h => by
    obtain ⟨n, hn⟩ := h 0 e rfl
    obtain ⟨l, hl⟩ := rowsP_of r (fun i x hx => h (i + 1) x (by simpa using hx))
    exact ⟨n :: l, by simp only [rowsP, hn, hl]⟩
theorem readN {H : Type} {enc : TypeId × Value → H} {W : World} : ∀ (fuel : Nat) (cs : List Value) (x : DataW H × List MemPlace), DataW.trod enc Tryz.prog W 0 (fun _ => true) true fuel 25 cs = some x →
    ∃ ps, (∃ n, ndP ps = some n) ∧ ps.length = 4 ∧ cs.length = 4 ∧ RelRow W ps cs := by
  intro fuel
  induction fuel using Nat.strongRecOn with
  | ind fuel ih =>
    intro cs x h
    obtain ⟨xs, m, hfu, rfl, hl, hlen, hf⟩ := DataW.trod_struct Tryz.underlying25 h
    rw [cells25] at hl
    obtain ⟨c0, c1, c2, c3, rfl⟩ := list4 hl
    obtain ⟨y0, y1, y2, y3, rfl⟩ := list4 hlen
    have h0 := hf 0 _ rfl
    have h1 := hf 1 _ rfl
    have h2 := hf 2 _ rfl
    have h3 := hf 3 _ rfl
    simp [cells9, cells22, cells23] at h0 h1 h2 h3
    obtain ⟨s, e0, rfl, w0⟩ := DataW.trod_string Tryz.underlying9 h0
    obtain ⟨t, e2, rfl, w2⟩ := DataW.trod_string Tryz.underlying9 h2
    simp at e0 e2
    subst e0 e2
    cases m with
    | zero => simp [DataW.trod] at h1
    | succ m =>
      obtain ⟨v1, p1, e1, r1, q1⟩ := read_slice (s := 1) Tryz.underlying22 cells56 h1 (fun r => ∃ a, r = atRow a) (fun cs y hy => readA hy)
      obtain ⟨v3, p3, e3, r3, q3⟩ := read_slice (s := 3) Tryz.underlying23 cells25 h3 (fun r => ∃ n, ndP r = some n) (fun cs y hy => ih m (by omega) cs y hy)
      simp at e1 e3
      subst e1 e3
      have a1 : ∃ l, atP p1 = some l := by
        rcases q1 with (rfl | rfl) | ⟨es, rfl, he⟩
        · exact ⟨[], rfl⟩
        · exact ⟨[], rfl⟩
        · exact unAt_of es he
      have a3 : ∃ l, kidP p3 = some l := by
        rcases q3 with (rfl | rfl) | ⟨es, rfl, he⟩
        · exact ⟨[], by simp only [kidP]⟩
        · exact ⟨[], by simp only [kidP]⟩
        · obtain ⟨l, hl⟩ := rowsP_of es he
          exact ⟨l, by simp only [kidP]; exact hl⟩
      obtain ⟨l1, a1⟩ := a1
      obtain ⟨l3, a3⟩ := a3
      exact ⟨[.str s.data.toList, p1, .str t.data.toList, p3], ⟨.mk s.data.toList l1 t.data.toList l3, by simp only [ndP, a1, a3]⟩, rfl, rfl, row4 (relStr s) r1 (relStr t) r3⟩
/-- A tree, as it comes in. -/
theorem open_tree {H : Type} {enc : TypeId × Value → H} {W : World} {base : Nat} {v : Value} {d : DataW H} {p : List MemPlace} (hval : Value.okWide Tryz.prog W .any base 25 v)
    (h : DataW.Trod enc Tryz.prog W 0 (fun _ => true) true 25 v d p) : ∃ (n : Nd) (a k : Pm.PV), atP a = some n.attrs ∧ kidP k = some n.kids ∧ Pm.RelS (Pm.start W) (nodeS n.name a n.text k) v := by
  obtain ⟨cs, rfl, hsz⟩ := okWide_struct Tryz.underlying25 hval
  obtain ⟨fuel, hf⟩ := h
  obtain ⟨ps, ⟨n, hn⟩, h1, h2, h3⟩ := readN fuel _ _ hf
  obtain ⟨a, k, rfl, ha, hk⟩ := ndP_or hn
  refine ⟨n, a, k, ha, hk, ?_⟩
  obtain ⟨l⟩ := cs
  simp only [Value.cells] at h2 h3
  obtain ⟨c0, c1, c2, c3, rfl⟩ := list4 h2
  have z0 := h3 0 _ _ rfl rfl
  have z1 := h3 1 _ _ rfl rfl
  have z2 := h3 2 _ _ rfl rfl
  have z3 := h3 3 _ _ rfl rfl
  have : Pm.RelL (Pm.start W) [.pv (.str n.name), .pv a, .pv (.str n.text), .pv k] [c0, c1, c2, c3] :=
    .cons (.pv _ _ z0) (.cons (.pv _ _ z1) (.cons (.pv _ _ z2) (.cons (.pv _ _ z3) (.nil _))))
  refine .agg _ _ this.1 (fun j x hj => ?_) this.2
  have := List.mem_of_getElem? hj
  simp at this
  rcases this with rfl | rfl | rfl | rfl <;> rfl
theorem keep_tree {H : Type} {enc : TypeId × Value → H} {W W' : World} {v : Value} {d : DataW H} {p : List MemPlace} (h : DataW.Trod enc Tryz.prog W 0 (fun _ => true) true 25 v d p) (hb : Below W.heap.size W W') (hlt : ∀ x ∈ p, x.block < W.heap.size) :
    DataW.Trod enc Tryz.prog W' 0 (fun b => decide (b < W.heap.size)) true 25 v d p :=
  Below.trod (by kernel_rfl) (by kernel_rfl) (of_decide_eq_true (by kernel_rfl)) h hb hlt
end Go.Proofs.YtkckpmcpmngiiaaGreatDoor
