/- A struct of the law's that comes in with the call: what the machine reads of it. -/
import Derived.Test.YtkbfgmneibabgaaDoorFrame
set_option linter.unusedSimpArgs false
set_option linter.unusedVariables false
set_option maxRecDepth 100000
namespace Go.Proofs.YtkbfgmneibabgaaDoor
open Go Go.ChangeShapes Go.WideShapes Go.ChangeAt Go.RowKit Go.Joins
theorem cells58 : Tryd.prog.cellsOf 58 = 5 := by kernel_rfl
theorem cells5 : Tryd.prog.cellsOf 5 = 1 := by kernel_rfl
theorem cells9 : Tryd.prog.cellsOf 9 = 1 := by kernel_rfl
theorem cells3 : Tryd.prog.cellsOf 3 = 1 := by kernel_rfl
theorem list5 {α : Type} {cs : List α} (h : cs.length = 5) : ∃ c0 c1 c2 c3 c4, cs = [c0, c1, c2, c3, c4] := by
  match cs, h with
  | [c0, c1, c2, c3, c4], _ => exact ⟨c0, c1, c2, c3, c4, rfl⟩
abbrev vOp (k : Int) (t : ByteArray) (lo hi e : Int) : Value := .agg #[.int .u8 k, .string t, .int .i64 lo, .int .i64 hi, .int .u8 e]
abbrev dOp {H : Type} (k : Int) (t : ByteArray) (lo hi e : Int) : DataW H := .agg [.lit (.int .u8 k), .lit (.string t.data.toList), .lit (.int .i64 lo), .lit (.int .i64 hi), .lit (.int .u8 e)]
theorem readOp {H : Type} {enc : TypeId × Value → H} {W : World} {base : Nat} {sp : Nat → Bool} {hd : Bool} {fuel : Nat} {cs : List Value} {x : DataW H × List MemPlace}
    (h : DataW.trod enc Tryd.prog W base sp hd fuel 58 cs = some x) :
    ∃ k t lo hi e, cs = [.int .u8 k, .string t, .int .i64 lo, .int .i64 hi, .int .u8 e] ∧ x = (dOp k t lo hi e, []) ∧ (Lit.int .u8 k).wf = true ∧ t.size ≤ maxLen ∧ (Lit.int .i64 lo).wf = true ∧ (Lit.int .i64 hi).wf = true ∧ (Lit.int .u8 e).wf = true := by
  obtain ⟨xs, n, _, rfl, hl, hlen, hf⟩ := DataW.trod_struct Tryd.underlying58 h
  rw [cells58] at hl
  obtain ⟨c0, c1, c2, c3, c4, rfl⟩ := list5 hl
  obtain ⟨y0, y1, y2, y3, y4, rfl⟩ := list5 hlen
  have h0 := hf 0 _ rfl
  have h1 := hf 1 _ rfl
  have h2 := hf 2 _ rfl
  have h3 := hf 3 _ rfl
  have h4 := hf 4 _ rfl
  simp [cells5, cells9, cells3] at h0 h1 h2 h3 h4
  obtain ⟨k, e0, rfl, w0⟩ := DataW.trod_int Tryd.underlying5 h0
  obtain ⟨t, e1, rfl, w1⟩ := DataW.trod_string Tryd.underlying9 h1
  obtain ⟨lo, e2, rfl, w2⟩ := DataW.trod_int Tryd.underlying3 h2
  obtain ⟨hi, e3, rfl, w3⟩ := DataW.trod_int Tryd.underlying3 h3
  obtain ⟨e, e4, rfl, w4⟩ := DataW.trod_int Tryd.underlying5 h4
  simp at e0 e1 e2 e3 e4
  subst e0 e1 e2 e3 e4
  exact ⟨k, t, lo, hi, e, rfl, by simp, w0, w1, w2, w3, w4⟩
theorem openOp {H : Type} {enc : TypeId × Value → H} {W : World} {base : Nat} {spare : Nat → Bool} {held : Bool} {b0 : Nat} {v : Value} {d : DataW H} {p : List MemPlace}
    (hv : Value.okWide Tryd.prog W .any b0 58 v) (h : DataW.Trod enc Tryd.prog W base spare held 58 v d p) :
    ∃ k t lo hi e, v = vOp k t lo hi e ∧ d = dOp k t lo hi e ∧ p = [] ∧ (Lit.int .u8 k).wf = true ∧ t.size ≤ maxLen ∧ (Lit.int .i64 lo).wf = true ∧ (Lit.int .i64 hi).wf = true ∧ (Lit.int .u8 e).wf = true := by
  obtain ⟨cs, rfl, hsz⟩ := okWide_struct Tryd.underlying58 hv
  obtain ⟨fuel, hf⟩ := h
  obtain ⟨k, t, lo, hi, e, hc, hx, w⟩ := readOp hf
  simp only [Value.cells] at hc
  simp only [Prod.mk.injEq] at hx
  refine ⟨k, t, lo, hi, e, ?_, hx.1, hx.2, w⟩
  obtain ⟨l⟩ := cs
  simp only at hc
  rw [hc]
theorem shutOp {H : Type} {enc : TypeId × Value → H} {W : World} {base : Nat} {spare : Nat → Bool} {held : Bool} {k : Int} {t : ByteArray} {lo hi e : Int} (w0 : (Lit.int .u8 k).wf = true) (w1 : t.size ≤ maxLen) (w2 : (Lit.int .i64 lo).wf = true)
    (w3 : (Lit.int .i64 hi).wf = true) (w4 : (Lit.int .u8 e).wf = true) : DataW.Trod enc Tryd.prog W base spare held 58 (vOp k t lo hi e) (dOp k t lo hi e) [] := by
  refine ⟨4, ?_⟩
  unfold DataW.trod
  rw [Tryd.underlying58]
  simp [Value.cells, cells58, cells5, cells9, cells3, DataW.trod, Tryd.underlying5, Tryd.underlying9, Tryd.underlying3, w0, w1, w2, w3, w4]
theorem rel_Op (C : Pm.Cf) (k : Int) (t : ByteArray) (lo hi e : Int) : Pm.RelS C (.agg [.pv (.int .u8 k), .pv (.str t.data.toList), .pv (.int .i64 lo), .pv (.int .i64 hi), .pv (.int .u8 e)]) (vOp k t lo hi e) := by
  have : Pm.RelL C [.pv (.int .u8 k), .pv (.str t.data.toList), .pv (.int .i64 lo), .pv (.int .i64 hi), .pv (.int .u8 e)] [.int .u8 k, .string t, .int .i64 lo, .int .i64 hi, .int .u8 e] :=
    .cons (.pv _ _ (.int _ _)) (.cons (Pm.rel_str _ t) (.cons (.pv _ _ (.int _ _)) (.cons (.pv _ _ (.int _ _)) (.cons (.pv _ _ (.int _ _)) (.nil _)))))
  refine .agg _ _ this.1 (fun j x hj => ?_) this.2
  have := List.mem_of_getElem? hj
  simp at this
  rcases this with rfl | rfl | rfl | rfl | rfl <;> rfl
end Go.Proofs.YtkbfgmneibabgaaDoor
