/- What the seat's claims share ahead of the walks: the witness of the condition on the variables, pitches and intervals as data. -/
import Derived.Test.YtmmpjnjdddaldaaDoorIntA
import Derived.Test.YtmmpjnjdddaldaaDoorTie
import Derived.Test.YtmmpjnjdddaldaaDoorCards
import Derived.WalkKit
import Derived.ProofKit
import Derived.Handy
import Derived.Lay
import Derived.SevenTiedAt
import Derived.Lib.SmallJoins
import Derived.Lib.LaidTab
import Derived.Stop.LaidErr
import Derived.SizedLaws
import Derived.ChangeSame
import Derived.ChangeVars
import Derived.JoinedOf
import Derived.JoinedAt
import Derived.RowKit
import Derived.LaidLaws
import Derived.OpenShut
import Derived.Deep.Strs
set_option maxRecDepth 100000
namespace Go.Proofs.YtmmpjnjdddaldaaDoor
open Go Go.ChangeShapes Go.WideShapes Go.ChangeAt Go.RowKit Go.Joins

abbrev kindsL : List LaidKind := [.data, .data, .data]
theorem own : ownKnob Tryd.prog.godebug = none := by kernel_rfl
/-- What the rows list. -/
noncomputable abbrev laidL : List (String × DataW Unit) := Rows.intervalTransposesRow.laid
theorem laidL_met (os : Os) (args : Array Value) : laidMet Tryd.prog laidL ((World.laidAll Tryd.prog os laidL).forCall (fun _ _ => 0) ⟨#[], args, []⟩).memory :=
  laidMet_laidAll _ (by kernel_rfl) (by kernel_rfl)
theorem cells23 : Tryd.prog.cellsOf 23 = 3 := by kernel_rfl
theorem cells25 : Tryd.prog.cellsOf 25 = 2 := by kernel_rfl
theorem cells3 : Tryd.prog.cellsOf 3 = 1 := by kernel_rfl
theorem array2 {α : Type} {cs : Array α} (h : cs.size = 2) : ∃ c0 c1, cs = #[c0, c1] := by
  obtain ⟨l⟩ := cs
  match l, h with
  | [c0, c1], _ => exact ⟨c0, c1, rfl⟩
abbrev wf64 (n : Int) : Prop := (Lit.int .i64 n).wf = true
abbrev dP {H : Type} (x y f : Int) : DataW H := .agg [.lit (.int .i64 x), .lit (.int .i64 y), .lit (.int .i64 f)]
abbrev vP (x y f : Int) : Value := .agg #[.int .i64 x, .int .i64 y, .int .i64 f]
abbrev dI {H : Type} (x y : Int) : DataW H := .agg [.lit (.int .i64 x), .lit (.int .i64 y)]
abbrev vI (x y : Int) : Value := .agg #[.int .i64 x, .int .i64 y]
theorem trodI {H : Type} {enc : TypeId × Value → H} {W' : World} {b : Nat} {sp : Nat → Bool} {hd : Bool} {n : Int} (w : wf64 n) (m : Nat) : DataW.trod enc Tryd.prog W' b sp hd (m + 1) 3 [.int .i64 n] = some (.lit (.int .i64 n), []) := by
  unfold DataW.trod
  rw [Tryd.underlying3]
  simp [w]
theorem readsP {H : Type} {enc : TypeId × Value → H} (W' : World) (b : Nat) (sp : Nat → Bool) (hd : Bool) {x y f : Int} (wx : wf64 x) (wy : wf64 y) (wf : wf64 f) :
    DataW.Trod enc Tryd.prog W' b sp hd 23 (vP x y f) (dP x y f) [] := by
  refine ⟨4, ?_⟩
  unfold DataW.trod
  rw [Tryd.underlying23]
  simp [Value.cells, cells23, cells3, trodI wx, trodI wy, trodI wf]
theorem readsI {H : Type} {enc : TypeId × Value → H} (W' : World) (b : Nat) (sp : Nat → Bool) (hd : Bool) {x y : Int} (wx : wf64 x) (wy : wf64 y) :
    DataW.Trod enc Tryd.prog W' b sp hd 25 (vI x y) (dI x y) [] := by
  refine ⟨4, ?_⟩
  unfold DataW.trod
  rw [Tryd.underlying25]
  simp [Value.cells, cells25, cells3, trodI wx, trodI wy]
theorem array3 {α : Type} {cs : Array α} (h : cs.size = 3) : ∃ c0 c1 c2, cs = #[c0, c1, c2] := by
  obtain ⟨l⟩ := cs
  match l, h with
  | [c0, c1, c2], _ => exact ⟨c0, c1, c2, rfl⟩
theorem openP {H : Type} {enc : TypeId × Value → H} {W : World} {base : Nat} {spare : Nat → Bool} {held : Bool} {b0 : Nat} {v : Value} {d : DataW H} {p : List MemPlace}
    (hv : Value.okWide Tryd.prog W .any b0 23 v) (h : DataW.Trod enc Tryd.prog W base spare held 23 v d p) :
    ∃ x y f : Int, v = vP x y f ∧ d = dP x y f ∧ p = [] ∧ wf64 x ∧ wf64 y ∧ wf64 f := by
  obtain ⟨cs, rfl, hsz⟩ := okWide_struct Tryd.underlying23 hv
  obtain ⟨c0, c1, c2, rfl⟩ := array3 (hsz.trans cells23)
  obtain ⟨fuel, hf⟩ := h
  obtain ⟨y0, y1, y2, n, hx, _, h0, h1, h2⟩ := Deep.trod_struct3 Tryd.underlying23 hf
  simp [Value.cells, cells3] at h0 h1 h2
  obtain ⟨i0, e0, rfl, w0⟩ := DataW.trod_int Tryd.underlying3 h0
  obtain ⟨i1, e1, rfl, w1⟩ := DataW.trod_int Tryd.underlying3 h1
  obtain ⟨i2, e2, rfl, w2⟩ := DataW.trod_int Tryd.underlying3 h2
  simp at e0 e1 e2
  subst e0 e1 e2
  simp at hx
  exact ⟨i0, i1, i2, rfl, hx.1, hx.2, w0, w1, w2⟩
theorem openI {H : Type} {enc : TypeId × Value → H} {W : World} {base : Nat} {spare : Nat → Bool} {held : Bool} {b0 : Nat} {v : Value} {d : DataW H} {p : List MemPlace}
    (hv : Value.okWide Tryd.prog W .any b0 25 v) (h : DataW.Trod enc Tryd.prog W base spare held 25 v d p) :
    ∃ x y : Int, v = vI x y ∧ d = dI x y ∧ p = [] ∧ wf64 x ∧ wf64 y := by
  obtain ⟨cs, rfl, hsz⟩ := okWide_struct Tryd.underlying25 hv
  obtain ⟨c0, c1, rfl⟩ := array2 (hsz.trans cells25)
  obtain ⟨fuel, hf⟩ := h
  obtain ⟨y0, y1, n, hx, _, h0, h1⟩ := trod_struct2 Tryd.underlying25 hf
  simp [Value.cells, cells3] at h0 h1
  obtain ⟨i0, e0, rfl, w0⟩ := DataW.trod_int Tryd.underlying3 h0
  obtain ⟨i1, e1, rfl, w1⟩ := DataW.trod_int Tryd.underlying3 h1
  simp at e0 e1
  subst e0 e1
  simp at hx
  exact ⟨i0, i1, rfl, hx.1, hx.2, w0, w1⟩
theorem rel_P (C : Pm.Cf) (x y f : Int) : Pm.RelS C (P3 x y f) (vP x y f) := Pm.rel_agg3 C x y f
theorem rel_I2 (C : Pm.Cf) (x y : Int) : Pm.RelS C (I2 x y) (vI x y) := by
  have h : Pm.RelL C [Pm.SV.i x, .i y] [.int .i64 x, .int .i64 y] := Pm.RelL.cons (Pm.rel_int C x) (Pm.RelL.cons (Pm.rel_int C y) (Pm.RelL.nil C))
  refine .agg _ _ h.1 (fun j x hj => ?_) h.2
  have := List.mem_of_getElem? hj
  simp at this
  rcases this with rfl | rfl <;> rfl
end Go.Proofs.YtmmpjnjdddaldaaDoor
