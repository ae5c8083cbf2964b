/- What the seat's claims share ahead of the cards: the witness of the condition on the variables, note values and rows of them as data. -/
import Derived.Test.YtngapiffgoignaaDoorLawF
import Derived.Test.YtngapiffgoignaaDoorTie
import Derived.Test.YtngapiffgoignaaDoorCards
import Derived.WalkKit
import Derived.ProofKit
import Derived.Handy
import Derived.Lay
import Derived.SevenTiedAt
import Derived.Lib.SmallJoins
import Derived.Lib.LaidTab
import Derived.Stop.LaidErr
import Derived.SizedLaws
import Derived.ChangeSame
import Derived.ChangeVars
import Derived.JoinedOf
import Derived.JoinedAt
import Derived.RowKit
import Derived.LaidLaws
import Derived.OpenShut
import Derived.Deep.Strs
import Derived.Shelf.Vars
import Derived.Carry
set_option linter.unusedSimpArgs false
set_option linter.unusedVariables false
set_option maxRecDepth 100000
namespace Go.Proofs.YtngapiffgoignaaDoor
open Go Go.ChangeShapes Go.WideShapes Go.ChangeAt Go.RowKit Go.Joins
abbrev kindsL : List LaidKind := [.data, .data, .data]
theorem own : ownKnob Tryd.prog.godebug = none := by kernel_rfl
/-- What the rows list. -/
noncomputable abbrev laidL : List (String × DataW Unit) := Rows.durationTextsRow.laid
theorem laidL_met (os : Os) (args : Array Value) : laidMet Tryd.prog laidL ((World.laidAll Tryd.prog os laidL).forCall (fun _ _ => 0) ⟨#[], args, []⟩).memory :=
  laidMet_laidAll _ (by kernel_rfl) (by kernel_rfl)
theorem laid_of {W : World} (h : laidMet Tryd.prog laidL W) : Laid W :=
  ⟨Lib.tabIs_of_head (g := 0) (t := 118) (e := 89) (n := 20) (by kernel_rfl) (by kernel_rfl) Tryd.underlying118 Tryd.underlying89 (by kernel_rfl) (by kernel_rfl) h.tail.tail⟩
theorem cells23 : Tryd.prog.cellsOf 23 = 2 := by kernel_rfl
theorem cells3 : Tryd.prog.cellsOf 3 = 1 := by kernel_rfl
theorem list2 {α : Type} {cs : List α} (h : cs.length = 2) : ∃ c0 c1, cs = [c0, c1] := by
  match cs, h with
  | [c0, c1], _ => exact ⟨c0, c1, rfl⟩
abbrev wf64 (n : Int) : Prop := (Lit.int .i64 n).wf = true
abbrev dV {H : Type} (x y : Int) : DataW H := .agg [.lit (.int .i64 x), .lit (.int .i64 y)]
abbrev vV (x y : Int) : Value := .agg #[.int .i64 x, .int .i64 y]
theorem readV {H : Type} {enc : TypeId × Value → H} {W : World} {base : Nat} {sp : Nat → Bool} {hd : Bool} {fuel : Nat} {cs : List Value} {x : DataW H × List MemPlace}
    (h : DataW.trod enc Tryd.prog W base sp hd fuel 23 cs = some x) : ∃ a b, cs = [.int .i64 a, .int .i64 b] ∧ x = (dV a b, []) ∧ wf64 a ∧ wf64 b := by
  obtain ⟨xs, n, _, rfl, hl, hlen, hf⟩ := DataW.trod_struct Tryd.underlying23 h
  rw [cells23] at hl
  obtain ⟨c0, c1, rfl⟩ := list2 hl
  obtain ⟨y0, y1, rfl⟩ := list2 hlen
  have h0 := hf 0 _ rfl
  have h1 := hf 1 _ rfl
  simp [cells3] at h0 h1
  obtain ⟨a, e0, rfl, w0⟩ := DataW.trod_int Tryd.underlying3 h0
  obtain ⟨b, e1, rfl, w1⟩ := DataW.trod_int Tryd.underlying3 h1
  simp at e0 e1
  subst e0 e1
  exact ⟨a, b, rfl, by simp, w0, w1⟩
theorem openV {H : Type} {enc : TypeId × Value → H} {W : World} {base : Nat} {spare : Nat → Bool} {held : Bool} {b0 : Nat} {v : Value} {d : DataW H} {p : List MemPlace}
    (hv : Value.okWide Tryd.prog W .any b0 23 v) (h : DataW.Trod enc Tryd.prog W base spare held 23 v d p) : ∃ x y : Int, v = vV x y ∧ d = dV x y ∧ p = [] ∧ wf64 x ∧ wf64 y := by
  obtain ⟨cs, rfl, hsz⟩ := okWide_struct Tryd.underlying23 hv
  obtain ⟨fuel, hf⟩ := h
  obtain ⟨a, b, hc, hx, w⟩ := readV hf
  simp only [Value.cells] at hc
  simp only [Prod.mk.injEq] at hx
  refine ⟨a, b, ?_, hx.1, hx.2, w⟩
  obtain ⟨l⟩ := cs
  simp only at hc
  rw [hc]
theorem shutV {H : Type} {enc : TypeId × Value → H} (W' : World) (b : Nat) (sp : Nat → Bool) (hd : Bool) {x y : Int} (wx : wf64 x) (wy : wf64 y) :
    DataW.Trod enc Tryd.prog W' b sp hd 23 (vV x y) (dV x y) [] := by
  refine ⟨4, ?_⟩
  unfold DataW.trod
  rw [Tryd.underlying23]
  simp [Value.cells, cells23, cells3, DataW.trod, Tryd.underlying3, wx, wy]
theorem rel_V (C : Pm.Cf) (x y : Int) : Pm.RelS C (.agg [.i x, .i y]) (vV x y) := rel_cells C (x, y)
theorem rel_I (C : Pm.Cf) (k : IntKind) (n : Int) : Pm.RelS C (.int k n) (.int k n) := .pv _ _ (.int _ _)
theorem list_of {α : Type} {R : Nat → α → Prop} : ∀ n : Nat, (∀ i, i < n → ∃ o, R i o) → ∃ l : List α, l.length = n ∧ ∀ i o, l[i]? = some o → R i o
  | 0, _ => ⟨[], rfl, fun i o h => by simp at h⟩
  | n + 1, h => by
    obtain ⟨l, h1, h2⟩ := list_of n (fun i hi => h i (by omega))
    obtain ⟨o, ho⟩ := h n (by omega)
    refine ⟨l ++ [o], by simp [h1], fun i o' hi => ?_⟩
    rcases Nat.lt_or_ge i l.length with hl | hl
    · rw [List.getElem?_append_left hl] at hi; exact h2 i o' hi
    · have hi2 : i < (l ++ [o]).length := (List.getElem?_eq_some_iff.1 hi).1
      have : i = l.length := by simp at hi2; omega
      subst this
      simp at hi
      subst hi
      rw [h1]; exact ho
def valsV (o : Int × Int) : List Value := [.int .i64 o.1, .int .i64 o.2]
theorem rel_vals {w : World} {S : Nat → Nat → Prop} (o : Int × Int) : ∀ (j : Nat) (p : Pm.PV) (v : Value), (cV o)[j]? = some p → (valsV o)[j]? = some v → Pm.RelP w S p v := by
  intro j p v h1 h2
  unfold cV at h1
  unfold valsV at h2
  match j with
  | 0 => simp at h1 h2; subst h1 h2; exact .int _ _
  | 1 => simp at h1 h2; subst h1 h2; exact .int _ _
  | j + 2 => simp at h1
theorem open_vals {H : Type} {enc : TypeId × Value → H} {W : World} {base : Nat} {v : Value} {d : DataW H} {p : List MemPlace} (hval : Value.okWide Tryd.prog W .any base 24 v)
    (h : DataW.Trod enc Tryd.prog W 0 (fun _ => true) true 24 v d p) : ∃ pv l, lstP pv = some l ∧ Pm.RelS (Pm.start W) (.pv pv) v := by
  obtain ⟨a1, len, cap, rfl⟩ := okWide_slice Tryd.underlying24 hval
  obtain ⟨fuel, hf⟩ := h
  rcases DataW.trod_slice Tryd.underlying24 hf with ⟨hcs, hx⟩ | ⟨a, len', cap', elems, rest, n, _, hcs, _, hb, hl, hm, hlen, hel, _, _⟩
  · simp [Value.cells] at hcs
    obtain ⟨rfl, rfl, rfl⟩ := hcs
    exact ⟨.nilSlice, [], rfl, .pv _ _ .nilSlice⟩
  · simp [Value.cells] at hcs
    obtain ⟨rfl, rfl, rfl⟩ := hcs
    have hsp : a.spot = none := by
      simp only [Value.okWide, Tryd.underlying24, Cell.okWide, Cell.ok] at hval
      exact hval.2.2.2.1
    obtain ⟨ab, ao, spot⟩ := a
    obtain rfl : spot = none := hsp
    rw [cells23] at hel
    obtain ⟨os, ho1, ho2⟩ := list_of (R := fun i (o : Int × Int) => ∀ (j : Nat) (v : Value), (valsV o)[j]? = some v → W.cell? ⟨ab, ao + i * 2 + j, none⟩ = some v) len (fun i hi => by
      have hi' := hel i hi
      have he : elems[i]? = some elems[i] := by simp
      rw [he, Option.bind_eq_some_iff] at hi'
      obtain ⟨cs, hc, ht⟩ := hi'
      obtain ⟨x, y, rfl, _, _⟩ := readV ht
      refine ⟨(x, y), fun j v hv => ?_⟩
      obtain ⟨_, hc2, hc3⟩ := World.cells?_some hc
      have hj : j < 2 := (List.getElem?_eq_some_iff.1 hv).1
      have := hc3 j hj
      rw [Addr.add_lit, Addr.add_lit] at this
      rw [this]; exact hv)
    have hlt : ∀ (i : Nat) (o : Int × Int), os[i]? = some o → ab < W.heap.size := fun i o hi => World.block_lt_of_cell? W _ (ho2 i o hi 0 _ rfl)
    refine ⟨.slice 2 (rowsV os), os, lst_rows os, ?_⟩
    have key : Pm.RelP W (fun b _ => b < W.heap.size) (.slice 2 (rowsV os)) (.slice (some ⟨ab, ao, none⟩) (rowsV os).length cap) := by
      have row : ∀ (i : Nat) (e : List Pm.PV), (rowsV os)[i]? = some e → ∃ o, os[i]? = some o ∧ e = cV o := fun i e he => by
        unfold rowsV at he
        rw [List.getElem?_map, Option.map_eq_some_iff] at he
        obtain ⟨o, h1, rfl⟩ := he
        exact ⟨o, h1, rfl⟩
      have val : ∀ (o : Int × Int) (j : Nat) (p : Pm.PV), (cV o)[j]? = some p → ∃ v, (valsV o)[j]? = some v := fun o j p hp => by
        have : j < 2 := (List.getElem?_eq_some_iff.1 hp).1
        exact ⟨(valsV o)[j]'this, List.getElem?_eq_getElem _⟩
      refine .slice 2 _ ab ao cap (fun i j => ((os[i]?).map fun o => (valsV o).getD j (.bool false)).getD (.bool false)) (by simp [rowsV]; omega) (fun i e he => ?_) (fun i e j p he hj => ?_) (fun i e j p he hj => ?_) (fun i e j p he hj => ?_)
      · obtain ⟨o, h1, rfl⟩ := row i e he; rfl
      · obtain ⟨o, h1, rfl⟩ := row i e he; exact hlt i o h1
      · obtain ⟨o, h1, rfl⟩ := row i e he
        obtain ⟨v, hv⟩ := val o j p hj
        rw [ho2 i o h1 j v hv]
        simp [h1, List.getD, hv]
      · obtain ⟨o, h1, rfl⟩ := row i e he
        obtain ⟨v, hv⟩ := val o j p hj
        simp only [h1, Option.map_some, Option.getD_some, List.getD, hv]
        exact rel_vals o j p v hj hv
    rw [show (rowsV os).length = len by simp [rowsV, ho1]] at key
    exact .pv _ _ key
theorem keep_vals {H : Type} {enc : TypeId × Value → H} {W W' : World} {v : Value} {d : DataW H} {p : List MemPlace} (h : DataW.Trod enc Tryd.prog W 0 (fun _ => true) true 24 v d p) (hb : Below W.heap.size W W') (hlt : ∀ x ∈ p, x.block < W.heap.size) :
    DataW.Trod enc Tryd.prog W' 0 (fun b => decide (b < W.heap.size)) true 24 v d p :=
  Below.trod (by kernel_rfl) (by kernel_rfl) (of_decide_eq_true (by kernel_rfl)) h hb hlt
end Go.Proofs.YtngapiffgoignaaDoor
