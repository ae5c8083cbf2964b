/- What the seat's claims share ahead of the walks: the witness of the condition on the variables, what the condition gives, a pitch as a datum. -/
import Derived.Test.YthoampbpeiehhaaDoorPitchK
import Derived.Test.YthoampbpeiehhaaDoorTie
import Derived.Test.YthoampbpeiehhaaDoorCards
import Derived.WalkKit
import Derived.ProofKit
import Derived.Handy
import Derived.Lay
import Derived.SevenTiedAt
import Derived.Lib.SmallJoins
import Derived.Lib.LaidTab
import Derived.Stop.LaidErr
import Derived.SizedLaws
import Derived.ChangeSame
import Derived.ChangeVars
import Derived.JoinedOf
import Derived.JoinedAt
import Derived.RowKit
import Derived.LaidLaws
set_option maxRecDepth 100000
namespace Go.Proofs.YthoampbpeiehhaaDoor
open Go Go.ChangeShapes Go.WideShapes Go.ChangeAt Go.RowKit Go.Joins

abbrev kindsL : List LaidKind := [.data, .data, .data, .sentinel, .sentinel]
theorem own : ownKnob Tryd.prog.godebug = none := by kernel_rfl
/-- What the rows list. -/
noncomputable abbrev laidL : List (String × DataW Unit) := Rows.pitchNumbersRow.laid
theorem laidL_met (os : Os) (args : Array Value) : laidMet Tryd.prog laidL ((World.laidAll Tryd.prog os laidL).forCall (fun _ _ => 0) ⟨#[], args, []⟩).memory :=
  laidMet_laidAll _ (by kernel_rfl) (by kernel_rfl)

theorem gES : Tryd.prog.globalNamed "strconv.ErrSyntax" = some 1 := by kernel_rfl
theorem gER : Tryd.prog.globalNamed "strconv.ErrRange" = some 2 := by kernel_rfl
theorem gESType : (Tryd.prog.globals[1]?).map (·.type) = some 69 := by kernel_rfl
theorem gERType : (Tryd.prog.globals[2]?).map (·.type) = some 69 := by kernel_rfl
theorem cells111 : Tryd.prog.cellsOf 111 = 1 := by kernel_rfl
theorem cells9 : Tryd.prog.cellsOf 9 = 1 := by kernel_rfl
theorem cells29 : Tryd.prog.cellsOf 29 = 3 := by kernel_rfl
theorem star : "*" ++ "errors.errorString" = "*errors.errorString" := by decide
theorem row109 (u : TypeId) (h : Tryd.prog.typeName? 3 u = some "*errors.errorString") : u = 109 :=
  typeName_ptr_named (nm := "errors.errorString") (by rw [star]; kernel_rfl) (by kernel_rfl) (by decide) u (by rw [star]; exact h)

theorem laid_of {W : World} (h : laidMet Tryd.prog laidL W) : Laid W := by
  have h3 := h.tail.tail
  have h4 := h3.tail
  obtain ⟨a1, s1, hv1, -, -, -⟩ := laid_sentinel h4 gER gERType Tryd.underlying69 row109 Tryd.underlying109 Tryd.underlying111 rfl rfl Tryd.underlying9 cells111 cells9
  obtain ⟨a0, s0, hv0, -, -, -⟩ := laid_sentinel h4.tail gES gESType Tryd.underlying69 row109 Tryd.underlying109 Tryd.underlying111 rfl rfl Tryd.underlying9 cells111 cells9
  refine ⟨⟨_, _, by have h0 := World.var?_cell gES hv0 0; simpa using h0⟩, ⟨_, _, by have h0 := World.var?_cell gER hv1 0; simpa using h0⟩, ?_⟩
  exact Lib.tabIs_of_head (g := 3) (t := 103) (e := 90) (n := 20) (by kernel_rfl) (by kernel_rfl) Tryd.underlying103 Tryd.underlying90 (by kernel_rfl) (by kernel_rfl) h3

theorem readsP {H : Type} {enc : TypeId × Value → H} (W' : World) (b : Nat) (sp : Nat → Bool) (hd : Bool) (x y f : Int) (wx : (Lit.int .i64 x).wf = true) (wy : (Lit.int .i64 y).wf = true) (wf : (Lit.int .i64 f).wf = true) :
    DataW.Trod enc Tryd.prog W' b sp hd 29 (.agg #[.int .i64 x, .int .i64 y, .int .i64 f]) (.agg [.lit (.int .i64 x), .lit (.int .i64 y), .lit (.int .i64 f)]) [] := by
  simpa using shut_agg3 (enc := enc) (w := W') (base := b) (spare := sp) (held := hd) (y0 := (.lit (.int .i64 x), [])) (y1 := (.lit (.int .i64 y), [])) (y2 := (.lit (.int .i64 f), [])) Tryd.underlying29 (by kernel_rfl) cells29 ⟨1, by simp [DataW.trod, Tryd.underlying3, wx]⟩ ⟨1, by simp [DataW.trod, Tryd.underlying3, wy]⟩ ⟨1, by simp [DataW.trod, Tryd.underlying3, wf]⟩

theorem openP {H : Type} {enc : TypeId × Value → H} {W : World} {base : Nat} {spare : Nat → Bool} {held : Bool} {b0 : Nat} {v : Value} {d : DataW H} {p : List MemPlace}
    (hv : Value.okWide Tryd.prog W .any b0 29 v) (h : DataW.Trod enc Tryd.prog W base spare held 29 v d p) :
    ∃ x y f : Int, v = .agg #[.int .i64 x, .int .i64 y, .int .i64 f] ∧ d = .agg [.lit (.int .i64 x), .lit (.int .i64 y), .lit (.int .i64 f)] ∧ p = [] ∧ (Lit.int .i64 x).wf = true ∧ (Lit.int .i64 y).wf = true ∧ (Lit.int .i64 f).wf = true := by
  obtain ⟨c0, c1, c2, y0, y1, y2, m, rfl, rfl, rfl, hy0, hy1, hy2⟩ := open_agg3 Tryd.underlying29 (by kernel_rfl) cells29 hv h
  obtain ⟨x, e0, rfl, wx⟩ := DataW.trod_int Tryd.underlying3 hy0
  obtain ⟨y, e1, rfl, wy⟩ := DataW.trod_int Tryd.underlying3 hy1
  obtain ⟨f, e2, rfl, wf⟩ := DataW.trod_int Tryd.underlying3 hy2
  simp at e0 e1 e2
  subst e0 e1 e2
  exact ⟨x, y, f, rfl, rfl, rfl, wx, wy, wf⟩

theorem wf_range {n : Int} (h : (Lit.int .i64 n).wf = true) : -9223372036854775808 ≤ n ∧ n ≤ 9223372036854775807 := by
  simpa [Lit.wf, IntKind.min, IntKind.max, IntKind.signed, IntKind.bits] using h
end Go.Proofs.YthoampbpeiehhaaDoor
