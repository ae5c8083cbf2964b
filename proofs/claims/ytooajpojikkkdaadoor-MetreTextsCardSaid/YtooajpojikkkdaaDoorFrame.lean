/- What the seat's claims share ahead of the walks: the witness of the condition on the variables, a time signature as a datum. -/
import Derived.Test.YtooajpojikkkdaaDoorMetreA
import Derived.Test.YtooajpojikkkdaaDoorTie
import Derived.Test.YtooajpojikkkdaaDoorCards
import Derived.WalkKit
import Derived.ProofKit
import Derived.Handy
import Derived.Lay
import Derived.SevenTiedAt
import Derived.Lib.SmallJoins
import Derived.Lib.LaidTab
import Derived.Stop.LaidErr
import Derived.SizedLaws
import Derived.ChangeSame
import Derived.ChangeVars
import Derived.JoinedOf
import Derived.JoinedAt
import Derived.RowKit
import Derived.LaidLaws
import Derived.OpenShut
import Derived.Deep.Strs
set_option maxRecDepth 100000
namespace Go.Proofs.YtooajpojikkkdaaDoor
open Go Go.ChangeShapes Go.WideShapes Go.ChangeAt Go.RowKit Go.Joins

abbrev kindsL : List LaidKind := [.data, .data, .data]
theorem own : ownKnob Tryd.prog.godebug = none := by kernel_rfl
/-- What the rows list. -/
noncomputable abbrev laidL : List (String × DataW Unit) := Rows.metreSplitsRow.laid
theorem laidL_met (os : Os) (args : Array Value) : laidMet Tryd.prog laidL ((World.laidAll Tryd.prog os laidL).forCall (fun _ _ => 0) ⟨#[], args, []⟩).memory :=
  laidMet_laidAll _ (by kernel_rfl) (by kernel_rfl)
theorem cells24 : Tryd.prog.cellsOf 24 = 8 := by kernel_rfl
theorem cells22 : Tryd.prog.cellsOf 22 = 6 := by kernel_rfl
theorem cells3 : Tryd.prog.cellsOf 3 = 1 := by kernel_rfl
theorem array8 {α : Type} {cs : Array α} (h : cs.size = 8) : ∃ c0 c1 c2 c3 c4 c5 c6 c7, cs = #[c0, c1, c2, c3, c4, c5, c6, c7] := by
  obtain ⟨l⟩ := cs
  match l, h with
  | [c0, c1, c2, c3, c4, c5, c6, c7], _ => exact ⟨c0, c1, c2, c3, c4, c5, c6, c7, rfl⟩
theorem list6 {α : Type} {cs : List α} (h : cs.length = 6) : ∃ c0 c1 c2 c3 c4 c5, cs = [c0, c1, c2, c3, c4, c5] := by
  match cs, h with
  | [c0, c1, c2, c3, c4, c5], _ => exact ⟨c0, c1, c2, c3, c4, c5, rfl⟩
abbrev wf64 (n : Int) : Prop := (Lit.int .i64 n).wf = true
abbrev dM {H : Type} (c u g0 g1 g2 g3 g4 g5 : Int) : DataW H := .agg [.lit (.int .i64 c), .lit (.int .i64 u), .agg [.lit (.int .i64 g0), .lit (.int .i64 g1), .lit (.int .i64 g2), .lit (.int .i64 g3), .lit (.int .i64 g4), .lit (.int .i64 g5)]]
abbrev vM (c u g0 g1 g2 g3 g4 g5 : Int) : Value := .agg #[.int .i64 c, .int .i64 u, .int .i64 g0, .int .i64 g1, .int .i64 g2, .int .i64 g3, .int .i64 g4, .int .i64 g5]
theorem trodI {H : Type} {enc : TypeId × Value → H} {W' : World} {b : Nat} {sp : Nat → Bool} {hd : Bool} {n : Int} (w : wf64 n) (m : Nat) : DataW.trod enc Tryd.prog W' b sp hd (m + 1) 3 [.int .i64 n] = some (.lit (.int .i64 n), []) := by
  unfold DataW.trod
  rw [Tryd.underlying3]
  simp [w]
theorem trodG {H : Type} {enc : TypeId × Value → H} {W' : World} {b : Nat} {sp : Nat → Bool} {hd : Bool} {g0 g1 g2 g3 g4 g5 : Int} (w0 : wf64 g0) (w1 : wf64 g1) (w2 : wf64 g2) (w3 : wf64 g3) (w4 : wf64 g4) (w5 : wf64 g5) (m : Nat) :
    DataW.trod enc Tryd.prog W' b sp hd (m + 2) 22 [.int .i64 g0, .int .i64 g1, .int .i64 g2, .int .i64 g3, .int .i64 g4, .int .i64 g5] = some (.agg [.lit (.int .i64 g0), .lit (.int .i64 g1), .lit (.int .i64 g2), .lit (.int .i64 g3), .lit (.int .i64 g4), .lit (.int .i64 g5)], []) := by
  unfold DataW.trod
  rw [Tryd.underlying22]
  simp only [cells22, cells3]
  have hr : List.range 6 = [0, 1, 2, 3, 4, 5] := rfl
  simp [hr, trodI w0, trodI w1, trodI w2, trodI w3, trodI w4, trodI w5]
theorem readsM {H : Type} {enc : TypeId × Value → H} (W' : World) (b : Nat) (sp : Nat → Bool) (hd : Bool) {c u g0 g1 g2 g3 g4 g5 : Int} (wc : wf64 c) (wu : wf64 u) (w0 : wf64 g0) (w1 : wf64 g1) (w2 : wf64 g2) (w3 : wf64 g3) (w4 : wf64 g4) (w5 : wf64 g5) :
    DataW.Trod enc Tryd.prog W' b sp hd 24 (vM c u g0 g1 g2 g3 g4 g5) (dM c u g0 g1 g2 g3 g4 g5) [] := by
  refine ⟨4, ?_⟩
  unfold DataW.trod
  rw [Tryd.underlying24]
  simp [Value.cells, cells24, cells22, cells3, trodI wc, trodI wu, trodG w0 w1 w2 w3 w4 w5]
theorem openM {H : Type} {enc : TypeId × Value → H} {W : World} {base : Nat} {spare : Nat → Bool} {held : Bool} {b0 : Nat} {v : Value} {d : DataW H} {p : List MemPlace}
    (hv : Value.okWide Tryd.prog W .any b0 24 v) (h : DataW.Trod enc Tryd.prog W base spare held 24 v d p) :
    ∃ c u g0 g1 g2 g3 g4 g5 : Int, v = vM c u g0 g1 g2 g3 g4 g5 ∧ d = dM c u g0 g1 g2 g3 g4 g5 ∧ p = [] ∧ wf64 c ∧ wf64 u ∧ wf64 g0 ∧ wf64 g1 ∧ wf64 g2 ∧ wf64 g3 ∧ wf64 g4 ∧ wf64 g5 := by
  obtain ⟨cs, rfl, hsz⟩ := okWide_struct Tryd.underlying24 hv
  obtain ⟨c0, c1, c2, c3, c4, c5, c6, c7, rfl⟩ := array8 (hsz.trans cells24)
  obtain ⟨fuel, hf⟩ := h
  obtain ⟨y0, y1, y2, n, hx, _, h0, h1, h2⟩ := Deep.trod_struct3 Tryd.underlying24 hf
  simp [Value.cells, cells22, cells3] at h0 h1 h2
  obtain ⟨i0, e0, rfl, w0⟩ := DataW.trod_int Tryd.underlying3 h0
  obtain ⟨i1, e1, rfl, w1⟩ := DataW.trod_int Tryd.underlying3 h1
  obtain ⟨xs, m, rfl, rfl, _, hl, hi⟩ := DataW.trod_array Tryd.underlying22 h2
  obtain ⟨x0, x1, x2, x3, x4, x5, rfl⟩ := list6 hl
  have k0 := hi 0 (by omega)
  have k1 := hi 1 (by omega)
  have k2 := hi 2 (by omega)
  have k3 := hi 3 (by omega)
  have k4 := hi 4 (by omega)
  have k5 := hi 5 (by omega)
  simp [cells3] at k0 k1 k2 k3 k4 k5
  obtain ⟨j0, f0, rfl, v0⟩ := DataW.trod_int Tryd.underlying3 k0
  obtain ⟨j1, f1, rfl, v1⟩ := DataW.trod_int Tryd.underlying3 k1
  obtain ⟨j2, f2, rfl, v2⟩ := DataW.trod_int Tryd.underlying3 k2
  obtain ⟨j3, f3, rfl, v3⟩ := DataW.trod_int Tryd.underlying3 k3
  obtain ⟨j4, f4, rfl, v4⟩ := DataW.trod_int Tryd.underlying3 k4
  obtain ⟨j5, f5, rfl, v5⟩ := DataW.trod_int Tryd.underlying3 k5
  simp at e0 e1 f0 f1 f2 f3 f4 f5
  subst e0 e1 f0 f1 f2 f3 f4 f5
  simp at hx
  exact ⟨i0, i1, j0, j1, j2, j3, j4, j5, rfl, hx.1, hx.2, w0, w1, v0, v1, v2, v3, v4, v5⟩
theorem wf_range {n : Int} (h : (Lit.int .i64 n).wf = true) : -9223372036854775808 ≤ n ∧ n ≤ 9223372036854775807 := by
  simpa [Lit.wf, IntKind.min, IntKind.max, IntKind.signed, IntKind.bits] using h
theorem rel_M (C : Pm.Cf) (c u g0 g1 g2 g3 g4 g5 : Int) : Pm.RelS C (.agg (M8 c u g0 g1 g2 g3 g4 g5)) (vM c u g0 g1 g2 g3 g4 g5) := by
  have : Pm.RelL C (M8 c u g0 g1 g2 g3 g4 g5) [.int .i64 c, .int .i64 u, .int .i64 g0, .int .i64 g1, .int .i64 g2, .int .i64 g3, .int .i64 g4, .int .i64 g5] :=
    Pm.RelL.cons (.pv _ _ (.int _ _)) (Pm.RelL.cons (.pv _ _ (.int _ _)) (Pm.RelL.cons (.pv _ _ (.int _ _)) (Pm.RelL.cons (.pv _ _ (.int _ _)) (Pm.RelL.cons (.pv _ _ (.int _ _)) (Pm.RelL.cons (.pv _ _ (.int _ _)) (Pm.RelL.cons (.pv _ _ (.int _ _)) (Pm.RelL.cons (.pv _ _ (.int _ _)) (Pm.RelL.nil _))))))))
  refine .agg _ _ this.1 (fun j x hj => ?_) this.2
  have := List.mem_of_getElem? hj
  simp at this
  rcases this with rfl | rfl | rfl | rfl | rfl | rfl | rfl | rfl <;> rfl
theorem rel_I (C : Pm.Cf) (k : IntKind) (n : Int) : Pm.RelS C (.int k n) (.int k n) := by
  first | exact .pv _ _ (.int _ _) | exact .pv _ _ (Pm.PvRel.int _ _)
end Go.Proofs.YtooajpojikkkdaaDoor
