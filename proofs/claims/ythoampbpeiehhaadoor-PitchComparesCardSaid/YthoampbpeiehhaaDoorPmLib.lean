/- The library's contracts, as the interpreter takes them; and a law's end. -/
import Derived.Test.YthoampbpeiehhaaDoorPmSimp
import Derived.Below
set_option linter.unusedSimpArgs false
set_option linter.unusedVariables false
namespace Go.Pm
open Go.RowKit

/-- The same values in another world. -/
abbrev Cf.on (C : Cf) (w : World) : Cf := { C with w := w }

theorem below_evo {C : Cf} (I : Inv C) {w' : World} (h : Below C.w.heap.size C.w w') : Evo C (C.on w') := by
  refine ⟨h.os, h.tape, h.output, h.size, fun _ _ hs => hs, fun b o hs => ?_, fun b hb _ => h.block b hb, fun k g hg => .inr ⟨k, g, hg, rfl⟩, fun _ _ hs => .inl hs, fun _ cs _ h1 h2 => ⟨⟨cs, h1, rfl⟩, h2⟩,
    fun _ v _ g h1 h2 => ⟨v, g, h1, Nat.le_refl _, h2, fun _ => rfl⟩⟩
  have := I.inb b o hs
  have hb := h.block b this
  simp only [World.cell?, hb]

theorem below_inv {C : Cf} (I : Inv C) {w' : World} (h : Below C.w.heap.size C.w w') : Inv (C.on w') := by
  have EV := below_evo I h
  have lt : ∀ {b : Nat} {o : Obj}, C.w.heap[b]? = some o → w'.heap[b]? = some o := by
    intro b o hb
    rw [h.block b (Array.getElem?_eq_some_iff.1 hb).1]; exact hb
  refine ⟨I.len, fun b o hs => Nat.lt_of_lt_of_le (I.inb b o hs) h.size, ?_, I.boxS, ?_, I.tokS, I.dis⟩
  · intro k cs g h1 h2
    obtain ⟨arr, t, a1, a2, a3, a4⟩ := I.box k cs g h1 h2
    exact ⟨arr, t, lt a1, a2, fun j c u b1 b2 => EV.rel (a3 j c u b1 b2), a4⟩
  · intro k v e g h1 h2
    obtain ⟨arr, a1, a2, a3, a4⟩ := I.tok k v e g h1 h2
    exact ⟨arr, lt a1, a2, a3, a4⟩

/-- A contract's result without slices. -/
def PlainR : SV → Prop
  | .pv _ => True
  | .tuple l => ∀ x ∈ l, ∃ p, x = .pv p
  | _ => False

theorem placeL_plain {fr : Bool} {H : List Blk} : ∀ {l : List SV}, (∀ x ∈ l, ∃ p, x = .pv p) → placeL fr H l = some (l, H)
  | [], _ => rfl
  | c :: r, h => by
    obtain ⟨p, rfl⟩ := h c (by simp)
    simp only [placeL, place]
    rw [placeL_plain fun x hx => h x (by simp [hx])]

theorem placeR_plain {fr : Bool} {H : List Blk} {r : SV} (h : PlainR r) : placeR fr H r = some (r, H) := by
  cases r <;> simp only [PlainR] at h
  · rfl
  · simp only [placeR]; rw [placeL_plain h]

theorem meets_lib {P : Program} {W0 : World} {g : FuncId} {F : List SV → Option SV}
    (h : ∀ (C : Cf) (args : List SV) (vs : List Value) (r : SV), F args = some r → J0 W0 C → RelL C args vs →
      PlainR r ∧ Calls P g vs.toArray C.w (fun e w' => ∃ v, e = .returned v ∧ Below C.w.heap.size C.w w' ∧ ∀ D : Cf, RelS D r v)) : Meets P W0 g (specFn (.pure false F)) := by
  intro C args vs r' H' hF I J hr
  simp only [specFn] at hF
  split at hF
  · rename_i as has
    split at hF
    · rename_i r hFr
      obtain ⟨hp, hc⟩ := h C.bare as vs r hFr ⟨J.size, J.heap, J.S, fun k g h => by simp [Cf.bare] at h⟩ (purL_rel has hr)
      rw [placeR_plain hp] at hF
      cases hF
      refine hc.mono ?_
      rintro e w' ⟨v, rfl, hb, hrel⟩
      exact ⟨v, C.on w', rfl, rfl, rfl, below_inv I hb, below_evo I hb, hrel _⟩
    · cases hF
  · cases hF

/-- The start of a law's call: what is there is frozen. -/
abbrev start (W : World) : Cf := ⟨W, fun b _ => b < W.heap.size, [], []⟩
theorem start_inv (W : World) : Inv (start W) := by
  refine ⟨rfl, fun b o h => h, ?_, ?_, ?_, ?_, ?_⟩
  · intro k cs g h _; simp at h
  · intro k cs g o h _; simp at h
  · intro k v e g h _; simp at h
  · intro k v e g o h _; simp at h
  · intro k k' g g' _ _ _ h _; simp at h
theorem start_j0 (W : World) : J0 W (start W) := ⟨Nat.le_refl _, fun _ _ => rfl, fun _ _ h => h, fun k g h => by simp at h⟩

theorem start_below {W : World} {C : Cf} (h : Evo (start W) C) : Below W.heap.size W C.w :=
  ⟨h.os, h.tape, h.output, h.size, fun k hk => h.frame k hk fun i g hg => by simp at hg⟩

/-- A law that the interpreter brings to 'true'. -/
theorem law_of {P : Program} {W : World} {f : FuncId} {args : List SV} {vs : List Value} {F : List SV → List Blk → Option (SV × List Blk)} (hm : Meets P W f F) {H' : List Blk} {b : Bool}
    (hF : F args [] = some (.bool b, H')) (hr : RelL (start W) args vs) : Calls P f vs.toArray W (fun e w' => e = .returned (.bool b) ∧ Below W.heap.size W w') := by
  refine (hm (start W) args vs _ H' hF (start_inv W) (start_j0 W) hr).mono ?_
  rintro e w' ⟨v, C', rfl, rfl, hg⟩
  have := hg.rel
  cases this with | pv _ _ hp =>
  cases hp
  exact ⟨rfl, start_below hg.evo⟩

theorem outR_bool {H : List Blk} {r : SV} {b : Bool} (h : outR H r = some (.bool b)) : r = .bool b := by
  unfold outR at h
  split at h
  · split at h
    · rename_i l _
      cases hl : outL H l <;> simp [hl] at h
    · cases h
  · unfold outP at h
    split at h
    · simpa using h
    · simp at h
    · split at h
      · split at h <;> simp at h
      · simp at h
    · rename_i cs _
      cases hc : pcells cs <;> simp [hc] at h
    · cases h

theorem law_prun {P : Program} {Y : TypeId → Option Ty} (E : Env P Y) {W : World} {T : FuncId → Option Spec} (hT : TOk P W T) (hm : P.follows .mixedOrders = true) {f : FuncId} {fn : Func} {c : Code}
    (hf : P.funcs[f]? = some fn) (hb : fn.body = some c) (hc : codeOk T c = true) {fuel : Nat} {args : List SV} {vs : List Value} {b : Bool} (h : prun Y T fn fuel args = some (.bool b)) (hr : RelL (start W) args vs) :
    Calls P f vs.toArray W (fun e w' => e = .returned (.bool b) ∧ Below W.heap.size W w') := by
  unfold prun at h
  cases h2 : arun Y T fn fuel args [] with
  | none => rw [h2] at h; simp at h
  | some x =>
    obtain ⟨r1, H1⟩ := x
    rw [h2] at h
    have := outR_bool (H := H1) (r := r1) (by simpa using h)
    subst this
    exact law_of (arun_sound E hT hm hf hb hc (fuel := fuel)) h2 hr

theorem rel_int (C : Cf) (n : Int) : RelS C (.i n) (.int .i64 n) := .pv _ _ (.int _ _)
theorem rel_bool (C : Cf) (n : Bool) : RelS C (.bool n) (.bool n) := .pv _ _ (.bool _)
theorem rel_str (C : Cf) (s : ByteArray) : RelS C (.str s.data.toList) (.string s) := by
  have := RelP.str (w := C.w) (S := C.S) s.data.toList
  simpa using RelS.pv (C := C) _ _ this
theorem rel_agg3 (C : Cf) (a b c : Int) : RelS C (.agg [.i a, .i b, .i c]) (.agg #[.int .i64 a, .int .i64 b, .int .i64 c]) := by
  have h : RelL C [SV.i a, .i b, .i c] [.int .i64 a, .int .i64 b, .int .i64 c] := RelL.cons (rel_int C a) (RelL.cons (rel_int C b) (RelL.cons (rel_int C c) (RelL.nil C)))
  refine .agg _ _ h.1 ?_ h.2
  intro j c hj
  rcases j with _ | _ | _ | j <;> simp at hj <;> subst hj <;> rfl



/-- The loops of a function's code, the outer ones first. -/
def loopsOf : Code → List Code
  | .loop b => b :: loopsOf b
  | .seq a b => loopsOf a ++ loopsOf b
  | .cond _ a b => loopsOf a ++ loopsOf b
  | .block _ b => loopsOf b
  | .scope b => loopsOf b
  | _ => []
def loopN (f : Func) (k : Nat) : Code := match f.body with
  | some c => (loopsOf c).getD k .skip
  | none => .skip

/-- What an accumulating variable holds: nil, or the current token's row. -/
def Acc (e : TypeId) (s : Nat) (H : List Blk) (es : List (List PV)) (out : SV) : Prop :=
  (es = [] ∧ out = .pv .nilSlice) ∨ (es ≠ [] ∧ ∃ k v, out = .own k v s es ∧ H[k]? = some (.tok v e))

theorem Acc.nil {e : TypeId} {s : Nat} {H : List Blk} : Acc e s H [] (.pv .nilSlice) := .inl ⟨rfl, rfl⟩
theorem Acc.live {e : TypeId} {s : Nat} {H : List Blk} {es : List (List PV)} {out : SV} (h : Acc e s H es out) : Pm.live out = some out := by
  rcases h with ⟨_, rfl⟩ | ⟨_, k, v, rfl, _⟩ <;> rfl
theorem Acc.more {e : TypeId} {s : Nat} {H : List Blk} {es : List (List PV)} {out : SV} (h : Acc e s H es out) (H' : List Blk) : Acc e s (H ++ H') es out := by
  rcases h with h | ⟨h0, k, v, h1, h2⟩
  · exact .inl h
  · exact .inr ⟨h0, k, v, h1, by rw [List.getElem?_append_left (List.getElem?_eq_some_iff.1 h2).1]; exact h2⟩
theorem Acc.box {e : TypeId} {s : Nat} {H : List Blk} {es : List (List PV)} {out : SV} (h : Acc e s H es out) {k0 : Nat} {cs cs' : List SV} (hk : H[k0]? = some (.box cs)) : Acc e s (H.set k0 (.box cs')) es out := by
  rcases h with h | ⟨h0, k, v, h1, h2⟩
  · exact .inl h
  · refine .inr ⟨h0, k, v, h1, ?_⟩
    have : k0 ≠ k := by intro e; subst e; rw [hk] at h2; cases h2
    rw [List.getElem?_set_ne this]; exact h2

theorem Acc.app {Y : TypeId → Option Ty} {t e : TypeId} {y : Ty} {H : List Blk} {es : List (List PV)} {x : List PV} {out : SV} (hk : kindOf Y t = some (.slice e)) (hy : Y e = some y) (h0 : 0 < y.size) (hb : y.bytes ≤ 32768) (hb0 : y.bytes ≠ 0)
    (hl : (es.length + 1) * y.bytes ≤ maxRow) (h : Acc e y.size H es out) :
    ∃ out' H', aAppend Y H t t out (.tight y.size [x]) = some (out', H') ∧ Acc e y.size H' (es ++ [x]) out' ∧ H.length ≤ H'.length ∧ (∀ (k : Nat) (cs : List SV), H[k]? = some (.box cs) → H'[k]? = some (.box cs)) := by
  have hl2 : es.length + 1 ≤ maxRow := Nat.le_trans (Nat.le_mul_of_pos_right _ (Nat.pos_of_ne_zero hb0)) hl
  rcases h with ⟨rfl, rfl⟩ | ⟨hne, k, v, rfl, hkv⟩
  · refine ⟨.own H.length 0 y.size [x], H ++ [.tok 0 e], ?_, .inr ⟨by simp, _, _, rfl, by simp⟩, by simp, fun k cs hc => ?_⟩
    · simp [-maxRow] at hl hl2
      simp [-kindOf, -maxRow, aAppend, hk, hy, sliceElems, strideOk, h0, hb, hb0, hl, hl2]
    · rw [List.getElem?_append_left (List.getElem?_eq_some_iff.1 hc).1]; exact hc
  · refine ⟨.own k (v + 1) y.size (es ++ [x]), H.set k (.tok (v + 1) e), ?_, .inr ⟨by simp, _, _, rfl, ?_⟩, by simp, fun k' cs hc => ?_⟩
    · simp [-kindOf, -maxRow, aAppend, hk, hy, sliceElems, strideOk, h0, hb, hb0, hl, hl2, hkv]
    · rw [List.getElem?_set_self (List.getElem?_eq_some_iff.1 hkv).1]
    · have : k ≠ k' := by intro e; subst e; rw [hkv] at hc; cases hc
      rw [List.getElem?_set_ne this]; exact hc

/-- The accumulated row as a result. -/
theorem Acc.out {e : TypeId} {s : Nat} {H : List Blk} {es : List (List PV)} {out : SV} (h : Acc e s H es out) : outP H out = some (if es = [] then .pv .nilSlice else .fresh e s es) := by
  rcases h with ⟨rfl, rfl⟩ | ⟨hne, k, v, rfl, hkv⟩
  · simp [outP]
  · simp [outP, hkv, hne]
theorem Acc.outR {e : TypeId} {s : Nat} {H : List Blk} {es : List (List PV)} {out : SV} (h : Acc e s H es out) : outR H out = some (if es = [] then .pv .nilSlice else .fresh e s es) := by
  have h' := h.out
  rcases h with ⟨rfl, rfl⟩ | ⟨hne, k, v, rfl, hkv⟩
  · simp [Pm.outR, outP]
  · simpa [Pm.outR] using h'
theorem set_last {α : Type} (H : List α) (a b : α) : (H ++ [a]).set H.length b = H ++ [b] := by
  rw [List.set_append_right _ _ (Nat.le_refl _)]; simp
theorem get_last {α : Type} (H : List α) (a : α) : (H ++ [a])[H.length]? = some a := by simp

end Go.Pm
