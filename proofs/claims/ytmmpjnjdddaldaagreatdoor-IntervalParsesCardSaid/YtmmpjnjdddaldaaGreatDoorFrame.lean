/- What the seat's claims share ahead of the walks: what the library's variables hold, out of the condition; an interval as a datum. -/
import Derived.Test.YtmmpjnjdddaldaaGreatDoorLibZ
import Derived.Test.YtmmpjnjdddaldaaGreatDoorTie
import Derived.Test.YtmmpjnjdddaldaaGreatDoorCards
import Derived.WalkKit
import Derived.ProofKit
import Derived.Handy
import Derived.Lay
import Derived.SevenTiedAt
import Derived.Lib.SmallJoins
import Derived.Lib.LaidTab
import Derived.Stop.LaidErr
import Derived.SizedLaws
import Derived.ChangeSame
import Derived.ChangeVars
import Derived.JoinedOf
import Derived.JoinedAt
import Derived.RowKit
import Derived.LaidLaws
import Derived.OpenShut
import Derived.Deep.Strs
import Derived.Shelf.Vars
import Derived.HandedShaped
set_option maxRecDepth 100000
namespace Go.Proofs.YtmmpjnjdddaldaaGreatDoor
open Go Go.ChangeShapes Go.WideShapes Go.ChangeAt Go.RowKit Go.Joins
theorem own : ownKnob Tryz.prog.godebug = none := by kernel_rfl
abbrev kindsP : List LaidKind := [.data, .data, .data, .data, .sentinel, .sentinel, .pinned]
noncomputable abbrev laidP : List (String × DataW Unit) := Rows.intervalTextsRow.laid
theorem laidP_met (os : Os) (args : Array Value) : laidMet Tryz.prog laidP ((World.laidAll Tryz.prog os laidP).forCall (fun _ _ => 0) ⟨#[], args, []⟩).memory :=
  laidMet_laidAll _ (by kernel_rfl) (by kernel_rfl)
theorem gES : Tryz.prog.globalNamed "strconv.ErrSyntax" = some 0 := by kernel_rfl
theorem gER : Tryz.prog.globalNamed "strconv.ErrRange" = some 1 := by kernel_rfl
theorem gESType : (Tryz.prog.globals[0]?).map (·.type) = some 37 := by kernel_rfl
theorem gERType : (Tryz.prog.globals[1]?).map (·.type) = some 37 := by kernel_rfl
theorem cells134 : Tryz.prog.cellsOf 134 = 1 := by kernel_rfl
theorem cells9 : Tryz.prog.cellsOf 9 = 1 := by kernel_rfl
theorem cells23 : Tryz.prog.cellsOf 23 = 2 := by kernel_rfl
theorem cells3 : Tryz.prog.cellsOf 3 = 1 := by kernel_rfl
theorem star : "*" ++ "errors.errorString" = "*errors.errorString" := by decide
theorem row132 (u : TypeId) (h : Tryz.prog.typeName? 3 u = some "*errors.errorString") : u = 132 :=
  typeName_ptr_named (nm := "errors.errorString") (by rw [star]; kernel_rfl) (by kernel_rfl) (by decide) u (by rw [star]; exact h)
theorem laid_of {W : World} (h : laidMet Tryz.prog laidP W) : Laid W := by
  have h3 := h.tail.tail
  have h4 := h3.tail.tail
  obtain ⟨a1, s1, hv1, -, -, -⟩ := laid_sentinel h4 gER gERType Tryz.underlying37 row132 Tryz.underlying132 Tryz.underlying134 rfl rfl Tryz.underlying9 cells134 cells9
  obtain ⟨a0, s0, hv0, -, -, -⟩ := laid_sentinel h4.tail gES gESType Tryz.underlying37 row132 Tryz.underlying132 Tryz.underlying134 rfl rfl Tryz.underlying9 cells134 cells9
  refine ⟨⟨_, _, by have h0 := World.var?_cell gES hv0 0; simpa using h0⟩, ⟨_, _, by have h0 := World.var?_cell gER hv1 0; simpa using h0⟩, ?_⟩
  exact Lib.tabIs_of_head (g := 5) (t := 153) (e := 105) (n := 20) (by kernel_rfl) (by kernel_rfl) Tryz.underlying153 Tryz.underlying105 (by kernel_rfl) (by kernel_rfl) h3
theorem array2 {α : Type} {cs : Array α} (h : cs.size = 2) : ∃ c0 c1, cs = #[c0, c1] := by
  obtain ⟨l⟩ := cs
  match l, h with
  | [c0, c1], _ => exact ⟨c0, c1, rfl⟩
abbrev wf64 (n : Int) : Prop := (Lit.int .i64 n).wf = true
abbrev dI {H : Type} (x y : Int) : DataW H := .agg [.lit (.int .i64 x), .lit (.int .i64 y)]
abbrev vI (x y : Int) : Value := .agg #[.int .i64 x, .int .i64 y]
theorem trodI {H : Type} {enc : TypeId × Value → H} {W' : World} {b : Nat} {sp : Nat → Bool} {hd : Bool} {n : Int} (w : wf64 n) (m : Nat) : DataW.trod enc Tryz.prog W' b sp hd (m + 1) 3 [.int .i64 n] = some (.lit (.int .i64 n), []) := by
  unfold DataW.trod
  rw [Tryz.underlying3]
  simp [w]
theorem readsI {H : Type} {enc : TypeId × Value → H} (W' : World) (b : Nat) (sp : Nat → Bool) (hd : Bool) {x y : Int} (wx : wf64 x) (wy : wf64 y) :
    DataW.Trod enc Tryz.prog W' b sp hd 23 (vI x y) (dI x y) [] := by
  refine ⟨4, ?_⟩
  unfold DataW.trod
  rw [Tryz.underlying23]
  simp [Value.cells, cells23, cells3, trodI wx, trodI wy]
theorem openI {H : Type} {enc : TypeId × Value → H} {W : World} {base : Nat} {spare : Nat → Bool} {held : Bool} {b0 : Nat} {v : Value} {d : DataW H} {p : List MemPlace}
    (hv : Value.okWide Tryz.prog W .any b0 23 v) (h : DataW.Trod enc Tryz.prog W base spare held 23 v d p) :
    ∃ x y : Int, v = vI x y ∧ d = dI x y ∧ p = [] ∧ wf64 x ∧ wf64 y := by
  obtain ⟨cs, rfl, hsz⟩ := okWide_struct Tryz.underlying23 hv
  obtain ⟨c0, c1, rfl⟩ := array2 (hsz.trans cells23)
  obtain ⟨fuel, hf⟩ := h
  obtain ⟨y0, y1, n, hx, _, h0, h1⟩ := trod_struct2 Tryz.underlying23 hf
  simp [Value.cells, cells3] at h0 h1
  obtain ⟨i0, e0, rfl, w0⟩ := DataW.trod_int Tryz.underlying3 h0
  obtain ⟨i1, e1, rfl, w1⟩ := DataW.trod_int Tryz.underlying3 h1
  simp at e0 e1
  subst e0 e1
  simp at hx
  exact ⟨i0, i1, rfl, hx.1, hx.2, w0, w1⟩
theorem rel_I2 (C : Pm.Cf) (x y : Int) : Pm.RelS C (I2 x y) (vI x y) := by
  have h : Pm.RelL C [Pm.SV.i x, .i y] [.int .i64 x, .int .i64 y] := Pm.RelL.cons (Pm.rel_int C x) (Pm.RelL.cons (Pm.rel_int C y) (Pm.RelL.nil C))
  refine .agg _ _ h.1 (fun j x hj => ?_) h.2
  have := List.mem_of_getElem? hj
  simp at this
  rcases this with rfl | rfl <;> rfl
/-- The plain wrap with a condition on the world and the world's shape. -/
theorem handed_and_shaped {H : Type} {enc : TypeId × Value → H} {a : Assume} {C : Checked} {os : Os} {f : FuncId} {fn : Func} {s : ChangeSpec} {conds : List PathCond} {apart fresh handsOn again : Bool} {X : World → Array Value → Prop}
    (hX : ∀ (w w' : World) (args : Array Value), w.heap = w'.heap → X w args → X w' args)
    (own : ownKnob C.prog.godebug = none) (started : os.Started) (noInit : C.prog.inits.idxOf? f = none) (hfn : C.prog.funcs[f]? = some fn)
    (witness : ∃ (w : World) (tape : Tape) (i : Input), w.os = os ∧ (w.forCall tape i).Shaped C.prog ∧ i.vars = [] ∧ Input.okWide C.prog (w.forCall tape i) .any w.heap.size f i ∧
      ((s.pre enc C.prog fn conds apart (w.forCall tape i).memory i.args ∧ X (w.forCall tape i).memory i.args) ∧ sizedMet enc C.prog fn (OpenSpec.ofChange s) apart (w.forCall tape i).memory i.args) ∧ a.holds C.prog (lone (Frame.enter C.prog f i.args .normal) [] (w.forCall tape i)))
    (contract : ∀ (W : World) (base : Nat) (args : Array Value) (ds gs : List (DataW H)) (before : List MemPlace),
      (∀ (j : Nat) t v, fn.params[j]? = some t → args[j]? = some v → Value.okWide C.prog W .any base t v) →
      DataW.Whole enc C.prog fn.params.toList s.vars apart W args.toList ds gs before →
      X W args → W.ShapedOpen C.prog →
      Calls C.prog f args W fun e W' => ∃ v, e = .returned v ∧ s.post enc C.prog fn apart fresh handsOn again W args v W') :
    ReturnsInHanded a C os f .any (fun w args => (s.pre enc C.prog fn conds apart w args ∧ X w args) ∧ sizedMet enc C.prog fn (OpenSpec.ofChange s) apart w args) (s.post enc C.prog fn apart fresh handsOn again) := by
  refine returnsInHanded_of_calls own started noInit witness ?_
  intro w tape i _ hsh _ hok hpre hholds
  obtain ⟨_, _, _, fn', hfn', _, _, _, _, hval⟩ := hok
  have e : fn' = fn := Option.some.inj (hfn'.symm.trans hfn)
  subst e
  obtain ⟨⟨⟨ds, gs, before, hw, hc⟩, hx⟩, hz⟩ := hpre
  have hw' := DataW.Whole.of_heap (w' := w.forCall tape i) (by rfl) hw
  refine (contract (w.forCall tape i) w.heap.size i.args ds gs before hval hw' (hX _ _ _ (by rfl) hx) hsh).mono fun e W' ⟨v, he, hp⟩ => ?_
  subst he
  exact ChangeSpec.post_blind hp
end Go.Proofs.YtmmpjnjdddaldaaGreatDoor
