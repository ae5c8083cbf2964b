/- What the claims over Parse share: what the library's variables hold, out of the condition and out of the world's shape. -/
import Derived.Test.YtooajpojikkkdaaDoorFrame
import Derived.Test.YtooajpojikkkdaaDoorParseG
import Derived.Shelf.Vars
import Derived.HandedShaped
set_option maxRecDepth 100000
namespace Go.Proofs.YtooajpojikkkdaaDoor
open Go Go.ChangeShapes Go.WideShapes Go.ChangeAt Go.RowKit Go.Joins
abbrev kindsP : List LaidKind := [.data, .data, .data, .data, .sentinel, .sentinel, .pinned]
noncomputable abbrev laidP : List (String × DataW Unit) := Rows.metreTextsRow.laid
theorem laidP_met (os : Os) (args : Array Value) : laidMet Tryd.prog laidP ((World.laidAll Tryd.prog os laidP).forCall (fun _ _ => 0) ⟨#[], args, []⟩).memory :=
  laidMet_laidAll _ (by kernel_rfl) (by kernel_rfl)
theorem gES : Tryd.prog.globalNamed "strconv.ErrSyntax" = some 1 := by kernel_rfl
theorem gER : Tryd.prog.globalNamed "strconv.ErrRange" = some 2 := by kernel_rfl
theorem gESType : (Tryd.prog.globals[1]?).map (·.type) = some 72 := by kernel_rfl
theorem gERType : (Tryd.prog.globals[2]?).map (·.type) = some 72 := by kernel_rfl
theorem cells147 : Tryd.prog.cellsOf 147 = 1 := by kernel_rfl
theorem cells9 : Tryd.prog.cellsOf 9 = 1 := by kernel_rfl
theorem star : "*" ++ "errors.errorString" = "*errors.errorString" := by decide
theorem row145 (u : TypeId) (h : Tryd.prog.typeName? 3 u = some "*errors.errorString") : u = 145 :=
  typeName_ptr_named (nm := "errors.errorString") (by rw [star]; kernel_rfl) (by kernel_rfl) (by decide) u (by rw [star]; exact h)
theorem maxLen_int {W : World} (h : W.ShapedOpen Tryd.prog) : ∃ m, W.cell? ⟨0, 0, none⟩ = some (.int .i64 m) :=
  Go.Proofs.cell_of_shapedOpen_int (zero := #[.int .i64 0]) (t := 3) h (of_decide_eq_true (by kernel_rfl)) (by kernel_rfl) rfl (by kernel_rfl) (by kernel_rfl) Tryd.underlying3
theorem laid_of {W : World} (h : laidMet Tryd.prog laidP W) (hs : W.ShapedOpen Tryd.prog) : Laid W := by
  have h4 := h.tail.tail.tail.tail
  obtain ⟨a1, s1, hv1, -, -, -⟩ := laid_sentinel h4 gER gERType Tryd.underlying72 row145 Tryd.underlying145 Tryd.underlying147 rfl rfl Tryd.underlying9 cells147 cells9
  obtain ⟨a0, s0, hv0, -, -, -⟩ := laid_sentinel h4.tail gES gESType Tryd.underlying72 row145 Tryd.underlying145 Tryd.underlying147 rfl rfl Tryd.underlying9 cells147 cells9
  exact ⟨⟨_, _, by have h0 := World.var?_cell gES hv0 0; simpa using h0⟩, ⟨_, _, by have h0 := World.var?_cell gER hv1 0; simpa using h0⟩, maxLen_int hs⟩
/-- The plain wrap with a condition on the world and the world's shape. -/
theorem handed_and_shaped {H : Type} {enc : TypeId × Value → H} {a : Assume} {C : Checked} {os : Os} {f : FuncId} {fn : Func} {s : ChangeSpec} {conds : List PathCond} {apart fresh handsOn again : Bool} {X : World → Array Value → Prop}
    (hX : ∀ (w w' : World) (args : Array Value), w.heap = w'.heap → X w args → X w' args)
    (own : ownKnob C.prog.godebug = none) (started : os.Started) (noInit : C.prog.inits.idxOf? f = none) (hfn : C.prog.funcs[f]? = some fn)
    (witness : ∃ (w : World) (tape : Tape) (i : Input), w.os = os ∧ (w.forCall tape i).Shaped C.prog ∧ i.vars = [] ∧ Input.okWide C.prog (w.forCall tape i) .any w.heap.size f i ∧
      ((s.pre enc C.prog fn conds apart (w.forCall tape i).memory i.args ∧ X (w.forCall tape i).memory i.args) ∧ sizedMet enc C.prog fn (OpenSpec.ofChange s) apart (w.forCall tape i).memory i.args) ∧ a.holds C.prog (lone (Frame.enter C.prog f i.args .normal) [] (w.forCall tape i)))
    (contract : ∀ (W : World) (base : Nat) (args : Array Value) (ds gs : List (DataW H)) (before : List MemPlace),
      (∀ (j : Nat) t v, fn.params[j]? = some t → args[j]? = some v → Value.okWide C.prog W .any base t v) →
      DataW.Whole enc C.prog fn.params.toList s.vars apart W args.toList ds gs before →
      X W args → W.ShapedOpen C.prog →
      Calls C.prog f args W fun e W' => ∃ v, e = .returned v ∧ s.post enc C.prog fn apart fresh handsOn again W args v W') :
    ReturnsInHanded a C os f .any (fun w args => (s.pre enc C.prog fn conds apart w args ∧ X w args) ∧ sizedMet enc C.prog fn (OpenSpec.ofChange s) apart w args) (s.post enc C.prog fn apart fresh handsOn again) := by
  refine returnsInHanded_of_calls own started noInit witness ?_
  intro w tape i _ hsh _ hok hpre hholds
  obtain ⟨_, _, _, fn', hfn', _, _, _, _, hval⟩ := hok
  have e : fn' = fn := Option.some.inj (hfn'.symm.trans hfn)
  subst e
  obtain ⟨⟨⟨ds, gs, before, hw, hc⟩, hx⟩, hz⟩ := hpre
  have hw' := DataW.Whole.of_heap (w' := w.forCall tape i) (by rfl) hw
  refine (contract (w.forCall tape i) w.heap.size i.args ds gs before hval hw' (hX _ _ _ (by rfl) hx) hsh).mono fun e W' ⟨v, he, hp⟩ => ?_
  subst he
  exact ChangeSpec.post_blind hp
end Go.Proofs.YtooajpojikkkdaaDoor
