/- A struct of the law's, and a row of them, that come in with the call. -/
import Derived.Test.YtkbfgmneibabgaaDoorFrame
import Derived.Test.YtkbfgmneibabgaaDoorStmB
import Derived.Carry
set_option linter.unusedSimpArgs false
set_option linter.unusedVariables false
set_option maxRecDepth 100000
namespace Go.Proofs.YtkbfgmneibabgaaDoor
open Go Go.ChangeShapes Go.WideShapes Go.ChangeAt Go.RowKit Go.Joins
theorem cells58 : Tryd.prog.cellsOf 58 = 5 := by kernel_rfl
theorem cells5 : Tryd.prog.cellsOf 5 = 1 := by kernel_rfl
theorem cells9 : Tryd.prog.cellsOf 9 = 1 := by kernel_rfl
theorem cells3 : Tryd.prog.cellsOf 3 = 1 := by kernel_rfl
theorem list5 {α : Type} {cs : List α} (h : cs.length = 5) : ∃ c0 c1 c2 c3 c4, cs = [c0, c1, c2, c3, c4] := by
  match cs, h with
  | [c0, c1, c2, c3, c4], _ => exact ⟨c0, c1, c2, c3, c4, rfl⟩
abbrev vOp (k : Int) (t : ByteArray) (lo hi e : Int) : Value := .agg #[.int .u8 k, .string t, .int .i64 lo, .int .i64 hi, .int .u8 e]
abbrev dOp {H : Type} (k : Int) (t : ByteArray) (lo hi e : Int) : DataW H := .agg [.lit (.int .u8 k), .lit (.string t.data.toList), .lit (.int .i64 lo), .lit (.int .i64 hi), .lit (.int .u8 e)]
theorem readOp {H : Type} {enc : TypeId × Value → H} {W : World} {base : Nat} {sp : Nat → Bool} {hd : Bool} {fuel : Nat} {cs : List Value} {x : DataW H × List MemPlace}
    (h : DataW.trod enc Tryd.prog W base sp hd fuel 58 cs = some x) :
    ∃ k t lo hi e, cs = [.int .u8 k, .string t, .int .i64 lo, .int .i64 hi, .int .u8 e] ∧ x = (dOp k t lo hi e, []) ∧ (Lit.int .u8 k).wf = true ∧ t.size ≤ maxLen ∧ (Lit.int .i64 lo).wf = true ∧ (Lit.int .i64 hi).wf = true ∧ (Lit.int .u8 e).wf = true := by
  obtain ⟨xs, n, _, rfl, hl, hlen, hf⟩ := DataW.trod_struct Tryd.underlying58 h
  rw [cells58] at hl
  obtain ⟨c0, c1, c2, c3, c4, rfl⟩ := list5 hl
  obtain ⟨y0, y1, y2, y3, y4, rfl⟩ := list5 hlen
  have h0 := hf 0 _ rfl
  have h1 := hf 1 _ rfl
  have h2 := hf 2 _ rfl
  have h3 := hf 3 _ rfl
  have h4 := hf 4 _ rfl
  simp [cells5, cells9, cells3] at h0 h1 h2 h3 h4
  obtain ⟨k, e0, rfl, w0⟩ := DataW.trod_int Tryd.underlying5 h0
  obtain ⟨t, e1, rfl, w1⟩ := DataW.trod_string Tryd.underlying9 h1
  obtain ⟨lo, e2, rfl, w2⟩ := DataW.trod_int Tryd.underlying3 h2
  obtain ⟨hi, e3, rfl, w3⟩ := DataW.trod_int Tryd.underlying3 h3
  obtain ⟨e, e4, rfl, w4⟩ := DataW.trod_int Tryd.underlying5 h4
  simp at e0 e1 e2 e3 e4
  subst e0 e1 e2 e3 e4
  exact ⟨k, t, lo, hi, e, rfl, by simp, w0, w1, w2, w3, w4⟩
theorem openOp {H : Type} {enc : TypeId × Value → H} {W : World} {base : Nat} {spare : Nat → Bool} {held : Bool} {b0 : Nat} {v : Value} {d : DataW H} {p : List MemPlace}
    (hv : Value.okWide Tryd.prog W .any b0 58 v) (h : DataW.Trod enc Tryd.prog W base spare held 58 v d p) :
    ∃ k t lo hi e, v = vOp k t lo hi e ∧ d = dOp k t lo hi e ∧ p = [] ∧ (Lit.int .u8 k).wf = true ∧ t.size ≤ maxLen ∧ (Lit.int .i64 lo).wf = true ∧ (Lit.int .i64 hi).wf = true ∧ (Lit.int .u8 e).wf = true := by
  obtain ⟨cs, rfl, hsz⟩ := okWide_struct Tryd.underlying58 hv
  obtain ⟨fuel, hf⟩ := h
  obtain ⟨k, t, lo, hi, e, hc, hx, w⟩ := readOp hf
  simp only [Value.cells] at hc
  simp only [Prod.mk.injEq] at hx
  refine ⟨k, t, lo, hi, e, ?_, hx.1, hx.2, w⟩
  obtain ⟨l⟩ := cs
  simp only at hc
  rw [hc]
theorem shutOp {H : Type} {enc : TypeId × Value → H} {W : World} {base : Nat} {spare : Nat → Bool} {held : Bool} {k : Int} {t : ByteArray} {lo hi e : Int} (w0 : (Lit.int .u8 k).wf = true) (w1 : t.size ≤ maxLen) (w2 : (Lit.int .i64 lo).wf = true)
    (w3 : (Lit.int .i64 hi).wf = true) (w4 : (Lit.int .u8 e).wf = true) : DataW.Trod enc Tryd.prog W base spare held 58 (vOp k t lo hi e) (dOp k t lo hi e) [] := by
  refine ⟨4, ?_⟩
  unfold DataW.trod
  rw [Tryd.underlying58]
  simp [Value.cells, cells58, cells5, cells9, cells3, DataW.trod, Tryd.underlying5, Tryd.underlying9, Tryd.underlying3, w0, w1, w2, w3, w4]
theorem rel_Op (C : Pm.Cf) (k : Int) (t : ByteArray) (lo hi e : Int) : Pm.RelS C (.agg [.pv (.int .u8 k), .pv (.str t.data.toList), .pv (.int .i64 lo), .pv (.int .i64 hi), .pv (.int .u8 e)]) (vOp k t lo hi e) := by
  have : Pm.RelL C [.pv (.int .u8 k), .pv (.str t.data.toList), .pv (.int .i64 lo), .pv (.int .i64 hi), .pv (.int .u8 e)] [.int .u8 k, .string t, .int .i64 lo, .int .i64 hi, .int .u8 e] :=
    .cons (.pv _ _ (.int _ _)) (.cons (Pm.rel_str _ t) (.cons (.pv _ _ (.int _ _)) (.cons (.pv _ _ (.int _ _)) (.cons (.pv _ _ (.int _ _)) (.nil _)))))
  refine .agg _ _ this.1 (fun j x hj => ?_) this.2
  have := List.mem_of_getElem? hj
  simp at this
  rcases this with rfl | rfl | rfl | rfl | rfl <;> rfl
end Go.Proofs.YtkbfgmneibabgaaDoor
namespace Go.Proofs.YtkbfgmneibabgaaDoor
open Go Go.ChangeShapes Go.WideShapes Go.ChangeAt Go.RowKit Go.Joins
theorem list_of {α : Type} {R : Nat → α → Prop} : ∀ n : Nat, (∀ i, i < n → ∃ o, R i o) → ∃ l : List α, l.length = n ∧ ∀ i o, l[i]? = some o → R i o
  | 0, _ => ⟨[], rfl, fun i o h => by simp at h⟩
  | n + 1, h => by
    obtain ⟨l, h1, h2⟩ := list_of n (fun i hi => h i (by omega))
    obtain ⟨o, ho⟩ := h n (by omega)
    refine ⟨l ++ [o], by simp [h1], fun i o' hi => ?_⟩
    rcases Nat.lt_or_ge i l.length with hl | hl
    · rw [List.getElem?_append_left hl] at hi; exact h2 i o' hi
    · have hi2 : i < (l ++ [o]).length := (List.getElem?_eq_some_iff.1 hi).1
      have : i = l.length := by simp at hi2; omega
      subst this
      simp at hi
      subst hi
      rw [h1]; exact ho
def OpT.vals (o : OpT) : List Value := [.int .u8 o.k, .string ⟨o.tx.toArray⟩, .int .i64 o.lo, .int .i64 o.hi, .int .u8 o.c]
theorem OpT.rel {w : World} {S : Nat → Nat → Prop} (o : OpT) : ∀ (j : Nat) (p : Pm.PV) (v : Value), o.cells[j]? = some p → o.vals[j]? = some v → Pm.RelP w S p v := by
  intro j p v h1 h2
  unfold OpT.cells at h1
  unfold OpT.vals at h2
  match j with
  | 0 => simp at h1 h2; subst h1 h2; exact .int _ _
  | 1 => simp at h1 h2; subst h1 h2; exact .str _
  | 2 => simp at h1 h2; subst h1 h2; exact .int _ _
  | 3 => simp at h1 h2; subst h1 h2; exact .int _ _
  | 4 => simp at h1 h2; subst h1 h2; exact .int _ _
  | j + 5 => simp at h1
theorem open_ops {H : Type} {enc : TypeId × Value → H} {W : World} {base : Nat} {v : Value} {d : DataW H} {p : List MemPlace} (hval : Value.okWide Tryd.prog W .any base 64 v)
    (h : DataW.Trod enc Tryd.prog W 0 (fun _ => true) true 64 v d p) : ∃ ov os, OpsR ov os ∧ Pm.RelS (Pm.start W) ov v := by
  obtain ⟨a1, len, cap, rfl⟩ := okWide_slice Tryd.underlying64 hval
  obtain ⟨fuel, hf⟩ := h
  rcases DataW.trod_slice Tryd.underlying64 hf with ⟨hcs, hx⟩ | ⟨a, len', cap', elems, rest, n, _, hcs, _, hb, hl, hm, hlen, hel, _, _⟩
  · simp [Value.cells] at hcs
    obtain ⟨rfl, rfl, rfl⟩ := hcs
    exact ⟨_, [], .inl ⟨rfl, rfl⟩, .pv _ _ .nilSlice⟩
  · simp [Value.cells] at hcs
    obtain ⟨rfl, rfl, rfl⟩ := hcs
    have hsp : a.spot = none := by
      simp only [Value.okWide, Tryd.underlying64, Cell.okWide, Cell.ok] at hval
      exact hval.2.2.2.1
    obtain ⟨ab, ao, spot⟩ := a
    obtain rfl : spot = none := hsp
    rw [cells58] at hel
    obtain ⟨os, ho1, ho2⟩ := list_of (R := fun i (o : OpT) => ∀ (j : Nat) (v : Value), o.vals[j]? = some v → W.cell? ⟨ab, ao + i * 5 + j, none⟩ = some v) len (fun i hi => by
      have hi' := hel i hi
      have he : elems[i]? = some elems[i] := by simp
      rw [he, Option.bind_eq_some_iff] at hi'
      obtain ⟨cs, hc, ht⟩ := hi'
      obtain ⟨k, t, lo, hi2, e, rfl, _, wk, _⟩ := readOp ht
      have hk : 0 ≤ k ∧ k ≤ 255 := by simpa [Lit.wf, IntKind.min, IntKind.max, IntKind.signed, IntKind.bits] using wk
      refine ⟨⟨k.toNat, t.data.toList, lo, hi2, e⟩, fun j v hv => ?_⟩
      obtain ⟨_, hc2, hc3⟩ := World.cells?_some hc
      unfold OpT.vals at hv
      rw [show ((k.toNat : Nat) : Int) = k by omega, show (⟨t.data.toList.toArray⟩ : ByteArray) = t by cases t; simp] at hv
      have hj : j < 5 := (List.getElem?_eq_some_iff.1 hv).1
      have := hc3 j hj
      rw [Addr.add_lit, Addr.add_lit] at this
      rw [this]; exact hv)
    have hlt : ∀ (i : Nat) (o : OpT), os[i]? = some o → ab < W.heap.size := fun i o hi => World.block_lt_of_cell? W _ (ho2 i o hi 0 _ rfl)
    refine ⟨_, os, .inr rfl, ?_⟩
    have key : Pm.RelP W (fun b _ => b < W.heap.size) (.slice 5 (os.map OpT.cells)) (.slice (some ⟨ab, ao, none⟩) (os.map OpT.cells).length cap) := by
      have row : ∀ (i : Nat) (e : List Pm.PV), (os.map OpT.cells)[i]? = some e → ∃ o, os[i]? = some o ∧ e = o.cells := fun i e he => by
        rw [List.getElem?_map, Option.map_eq_some_iff] at he
        obtain ⟨o, h1, rfl⟩ := he
        exact ⟨o, h1, rfl⟩
      have val : ∀ (o : OpT) (j : Nat) (p : Pm.PV), o.cells[j]? = some p → ∃ v, o.vals[j]? = some v := fun o j p hp => by
        have : j < 5 := (List.getElem?_eq_some_iff.1 hp).1
        exact ⟨o.vals[j]'this, List.getElem?_eq_getElem _⟩
      refine .slice 5 _ ab ao cap (fun i j => ((os[i]?).map fun o => o.vals.getD j (.bool false)).getD (.bool false)) (by simp; omega) (fun i e he => ?_) (fun i e j p he hj => ?_) (fun i e j p he hj => ?_) (fun i e j p he hj => ?_)
      · obtain ⟨o, h1, rfl⟩ := row i e he; rfl
      · obtain ⟨o, h1, rfl⟩ := row i e he; exact hlt i o h1
      · obtain ⟨o, h1, rfl⟩ := row i e he
        obtain ⟨v, hv⟩ := val o j p hj
        rw [ho2 i o h1 j v hv]
        simp [h1, List.getD, hv]
      · obtain ⟨o, h1, rfl⟩ := row i e he
        obtain ⟨v, hv⟩ := val o j p hj
        simp only [h1, Option.map_some, Option.getD_some, List.getD, hv]
        exact o.rel j p v hj hv
    rw [show (os.map OpT.cells).length = len by simp [ho1]] at key
    exact .pv _ _ key
theorem keep_ops {H : Type} {enc : TypeId × Value → H} {W W' : World} {v : Value} {d : DataW H} {p : List MemPlace} (h : DataW.Trod enc Tryd.prog W 0 (fun _ => true) true 64 v d p) (hb : Below W.heap.size W W') (hlt : ∀ x ∈ p, x.block < W.heap.size) :
    DataW.Trod enc Tryd.prog W' 0 (fun b => decide (b < W.heap.size)) true 64 v d p :=
  Below.trod (by kernel_rfl) (by kernel_rfl) (of_decide_eq_true (by kernel_rfl)) h hb hlt
end Go.Proofs.YtkbfgmneibabgaaDoor
