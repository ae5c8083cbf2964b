/- The library's contracts, as the interpreter takes them; and a law's end. -/
import Derived.Test.YtkckpmcpmngiiaaGreatDoorPmSimp
import Derived.Below
set_option linter.unusedSimpArgs false
set_option linter.unusedVariables false
namespace Go.Pm
open Go.RowKit

/-- The same values in another world. -/
abbrev Cf.on (C : Cf) (w : World) : Cf := { C with w := w }

theorem below_evo {C : Cf} (I : Inv C) {w' : World} (h : Below C.w.heap.size C.w w') : Evo C (C.on w') := by
  refine ⟨h.os, h.tape, h.output, h.size, fun _ _ hs => hs, fun b o hs => ?_, fun b hb _ => h.block b hb, fun k g hg => .inr ⟨k, g, hg, rfl⟩, fun _ _ hs => .inl hs, fun _ cs _ h1 h2 => ⟨⟨cs, h1, rfl⟩, h2⟩,
    fun _ v _ g h1 h2 => ⟨v, g, h1, Nat.le_refl _, h2, fun _ => rfl⟩⟩
  have := I.inb b o hs
  have hb := h.block b this
  simp only [World.cell?, hb]

theorem below_inv {C : Cf} (I : Inv C) {w' : World} (h : Below C.w.heap.size C.w w') : Inv (C.on w') := by
  have EV := below_evo I h
  have lt : ∀ {b : Nat} {o : Obj}, C.w.heap[b]? = some o → w'.heap[b]? = some o := by
    intro b o hb
    rw [h.block b (Array.getElem?_eq_some_iff.1 hb).1]; exact hb
  refine ⟨I.len, fun b o hs => Nat.lt_of_lt_of_le (I.inb b o hs) h.size, ?_, I.boxS, ?_, I.tokS, ?_, I.dis⟩
  · intro _ k cs g h1 h2
    obtain ⟨arr, t, a1, a2, a3, a4⟩ := I.box k cs g h1 h2
    exact ⟨arr, t, lt a1, a2, fun j c u b1 b2 => EV.rel (a3 j c u b1 b2), a4⟩
  · intro k v e g h1 h2
    obtain ⟨arr, ⟨fz, a1, a0⟩, a2, a3, a4⟩ := I.tok k v e g h1 h2
    exact ⟨arr, ⟨fz, lt a1, a0⟩, a2, a3, a4⟩
  · intro k t cs g h1 h2
    obtain ⟨arr, a1, a2⟩ := I.boxT k t cs g h1 h2
    exact ⟨arr, lt a1, a2⟩

/-- A library's call has made a block: it becomes a box of the caller's. -/
theorem box_below {C : Cf} (I : Inv C) {w' : World} (h : Below C.w.heap.size C.w w') {g : Nat} {arr : Array Value} {T : TypeId} (hg : w'.heap[g]? = some (.cells arr T (0, 0))) (hge : C.w.heap.size ≤ g) {cs : List SV}
    (hl : cs.length ≤ arr.size) (hr : ∀ (j : Nat) (c : SV) (u : Value), cs[j]? = some c → arr[j]? = some u → RelS C c u) (h1 : ∀ (j : Nat) (c : SV), cs[j]? = some c → c.one = true) :
    ∃ C', C'.w = w' ∧ C'.H = C.H ++ [.box none cs] ∧ C'.G = C.G ++ [⟨g, 0, 0, 0⟩] ∧ Inv C' ∧ Evo C C' := by
  have E1 := below_evo I h
  have I1 := below_inv I h
  have notS : ∀ x, ¬ C.S g x := fun x hx => by have := I.inb _ _ hx; omega
  have lt : ∀ {i : Nat} {b : Blk}, C.H[i]? = some b → i < C.H.length := fun h => (List.getElem?_eq_some_iff.1 h).1
  have gl : ∀ {i : Nat} {gi : GB}, C.G[i]? = some gi → C.H[i]? ≠ some .hole → gi.blk < C.w.heap.size := by
    intro i gi hi hnh
    have hi' : i < C.H.length := by rw [I.len]; exact (List.getElem?_eq_some_iff.1 hi).1
    cases hH : C.H[i]? with
    | none => simp at hH; omega
    | some b =>
      cases b with
      | box _ cs => obtain ⟨a, T, h1, _⟩ := I.box i cs gi hH hi; exact (Array.getElem?_eq_some_iff.1 h1).1
      | tok v e => obtain ⟨a, ⟨fz, h1, _⟩, _⟩ := I.tok i v e gi hH hi; exact (Array.getElem?_eq_some_iff.1 h1).1
      | hole => exact absurd hH hnh
  have old : ∀ {i : Nat} {b : Blk}, i < C.H.length → (C.H ++ [Blk.box none cs])[i]? = some b → C.H[i]? = some b := fun hi h => by rw [List.getElem?_append_left hi] at h; exact h
  have oldG : ∀ {i : Nat} {b : GB}, i < C.H.length → (C.G ++ [(⟨g, 0, 0, 0⟩ : GB)])[i]? = some b → C.G[i]? = some b := fun hi h => by rw [List.getElem?_append_left (by rw [← I.len]; exact hi)] at h; exact h
  have EV : Evo C ⟨w', C.S, C.H ++ [.box none cs], C.G ++ [⟨g, 0, 0, 0⟩]⟩ := by
    refine ⟨h.os, h.tape, h.output, h.size, fun _ _ hs => hs, E1.cell, fun b hb _ => h.block b hb, ?_, fun _ _ hs => .inl hs, ?_, ?_⟩
    · intro i gi hi
      simp only [List.getElem?_append] at hi
      split at hi
      · exact .inr ⟨i, gi, hi, rfl⟩
      · have := List.mem_of_getElem? hi
        simp at this
        subst this
        exact .inl hge
    · intro _ i ds gi e1 e2
      exact ⟨⟨ds, by simp only [List.getElem?_append_left (lt e1)]; exact e1, rfl⟩, by simp only [List.getElem?_append_left (show i < C.G.length by rw [← I.len]; exact lt e1)]; exact e2⟩
    · intro i v e gi e1 e2
      exact ⟨v, gi, by simp only [List.getElem?_append_left (lt e1)]; exact e1, Nat.le_refl _, by simp only [List.getElem?_append_left (show i < C.G.length by rw [← I.len]; exact lt e1)]; exact e2, fun _ => rfl⟩
  refine ⟨⟨w', C.S, C.H ++ [.box none cs], C.G ++ [⟨g, 0, 0, 0⟩]⟩, rfl, rfl, rfl, ?_, EV⟩
  have cases_ : ∀ {i : Nat} {b : Blk} {gi : GB}, (C.H ++ [Blk.box none cs])[i]? = some b → (C.G ++ [(⟨g, 0, 0, 0⟩ : GB)])[i]? = some gi → (C.H[i]? = some b ∧ C.G[i]? = some gi) ∨ (i = C.H.length ∧ b = .box none cs ∧ gi = ⟨g, 0, 0, 0⟩) := by
    intro i b gi e1 e2
    by_cases hi : i < C.H.length
    · exact .inl ⟨old hi e1, oldG hi e2⟩
    · have hl1 := (List.getElem?_eq_some_iff.1 e1).1
      simp at hl1
      have : i = C.H.length := by omega
      subst this
      simp at e1
      rw [I.len] at e2
      simp at e2
      exact .inr ⟨rfl, e1.symm, e2.symm⟩
  refine ⟨by simp [I.len], fun b o hs => Nat.lt_of_lt_of_le (I.inb b o hs) h.size, ?_, ?_, ?_, ?_, ?_, ?_⟩
  · intro _ i ds gi e1 e2
    rcases cases_ e1 e2 with ⟨a1, a2⟩ | ⟨_, a1, a2⟩
    · obtain ⟨a, t, b1, b2, b3, b4⟩ := I1.box i ds gi a1 a2
      exact ⟨a, t, b1, b2, fun j c u hj hu => by
        obtain ⟨a', t', c1, c2, c3, c4⟩ := I.box i ds gi a1 a2
        have hlt := gl a2 (by rw [a1]; simp)
        have : w'.heap[gi.blk]? = C.w.heap[gi.blk]? := h.block _ hlt
        rw [show (C.on w').w.heap[gi.blk]? = w'.heap[gi.blk]? from rfl, this, c1] at b1
        cases b1
        exact EV.rel (c3 j c u hj hu), b4⟩
    · cases a1; subst a2
      exact ⟨arr, T, hg, hl, fun j c u hj hu => EV.rel (hr j c u hj hu), h1⟩
  · intro _ i ds gi o e1 e2 hs
    rcases cases_ e1 e2 with ⟨a1, a2⟩ | ⟨_, _, a2⟩
    · exact I.boxS i ds gi o a1 a2 hs
    · subst a2; exact notS o hs
  · intro i v e gi e1 e2
    rcases cases_ e1 e2 with ⟨a1, a2⟩ | ⟨_, a1, _⟩
    · exact I1.tok i v e gi a1 a2
    · cases a1
  · intro i v e gi o e1 e2 ho hs
    rcases cases_ e1 e2 with ⟨a1, a2⟩ | ⟨_, a1, _⟩
    · exact I.tokS i v e gi o a1 a2 ho hs
    · cases a1
  · intro i t' ds gi e1 e2
    rcases cases_ e1 e2 with ⟨a1, a2⟩ | ⟨_, a1, _⟩
    · exact I1.boxT i t' ds gi a1 a2
    · cases a1
  · intro i i' gi gi' hne q1 q2 e1 e2
    have get : ∀ {j : Nat} {gj : GB}, (C.G ++ [(⟨g, 0, 0, 0⟩ : GB)])[j]? = some gj → ∃ b, (C.H ++ [Blk.box none cs])[j]? = some b := by
      intro j gj hj
      have := (List.getElem?_eq_some_iff.1 hj).1
      have hj' : j < (C.H ++ [Blk.box none cs]).length := by simp at this ⊢; rw [I.len]; omega
      exact ⟨_, List.getElem?_eq_getElem hj'⟩
    obtain ⟨b, hb⟩ := get e1
    obtain ⟨b', hb'⟩ := get e2
    rcases cases_ hb e1 with ⟨a1, a2⟩ | ⟨a0, a1, a2⟩ <;> rcases cases_ hb' e2 with ⟨c1, c2⟩ | ⟨c0, c1, c2⟩
    · refine I.dis i i' gi gi' hne ?_ ?_ a2 c2
      · intro e; rw [e] at a1; cases a1; exact q1 hb
      · intro e; rw [e] at c1; cases c1; exact q2 hb'
    · have := gl a2 (by intro e; rw [e] at a1; cases a1; exact q1 hb)
      subst c2; simp only []; omega
    · have := gl c2 (by intro e; rw [e] at c1; cases c1; exact q2 hb')
      subst a2; simp only []; omega
    · omega

/-- A library's call has made a row, and nobody writes it again. -/
theorem row_below {C : Cf} (I : Inv C) {w' : World} (h : Below C.w.heap.size C.w w') {g : Nat} {arr : Array Value} {T : TypeId} (hg : w'.heap[g]? = some (.cells arr T (0, 0))) (hge : C.w.heap.size ≤ g) {s : Nat} {es : List (List PV)} {news : List Value} {cap : Nat}
    (hr : Row C.w C.S s es news) (hn : ∀ (q : Nat) (v : Value), news[q]? = some v → arr[q]? = some v) (hc : es.length ≤ cap) :
    ∃ C', C'.w = w' ∧ Good C C' C.H (.pv (.slice s es)) (.slice (some ⟨g, 0, none⟩) es.length cap) := by
  have E1 := below_evo I h
  have I1 := below_inv I h
  have EV : Evo C ⟨w', fun b x => C.S b x ∨ b = g, C.H, C.G⟩ := by
    refine ⟨h.os, h.tape, h.output, h.size, fun _ _ hs => .inl hs, E1.cell, fun b hb _ => h.block b hb, E1.blks, fun b o hs => ?_, E1.boxk, E1.tokk⟩
    rcases hs with hs | rfl
    · exact .inl hs
    · exact .inr (.inl hge)
  have gl : ∀ {i : Nat} {gi : GB}, C.G[i]? = some gi → C.H[i]? ≠ some .hole → gi.blk < C.w.heap.size := by
    intro i gi hi hnh
    have hi' : i < C.H.length := by rw [I.len]; exact (List.getElem?_eq_some_iff.1 hi).1
    cases hH : C.H[i]? with
    | none => simp at hH; omega
    | some b =>
      cases b with
      | box _ cs => obtain ⟨a, T, h1, _⟩ := I.box i cs gi hH hi; exact (Array.getElem?_eq_some_iff.1 h1).1
      | tok v e => obtain ⟨a, ⟨fz, h1, _⟩, _⟩ := I.tok i v e gi hH hi; exact (Array.getElem?_eq_some_iff.1 h1).1
      | hole => exact absurd hH hnh
  refine ⟨⟨w', fun b x => C.S b x ∨ b = g, C.H, C.G⟩, rfl, rfl, ⟨I.len, fun b o hs => ?_, ?_, ?_, I1.tok, ?_, I1.boxT, I.dis⟩, EV, .pv _ _ ?_⟩
  · rcases hs with hs | rfl
    · exact Nat.lt_of_lt_of_le (I.inb b o hs) h.size
    · exact (Array.getElem?_eq_some_iff.1 hg).1
  · intro _ i ds gi a1 a2
    obtain ⟨a', t', c1, c2, c3, c4⟩ := I.box i ds gi a1 a2
    exact ⟨a', t', (h.block _ (gl a2 (by rw [a1]; simp))).trans c1, c2, fun j c u hj hu => EV.rel (c3 j c u hj hu), c4⟩
  · intro _ i ds gi o a1 a2 hs
    rcases hs with hs | hs
    · exact I.boxS i ds gi o a1 a2 hs
    · have := gl a2 (by rw [a1]; simp); omega
  · intro i v e gi o a1 a2 ho hs
    rcases hs with hs | hs
    · exact I.tokS i v e gi o a1 a2 ho hs
    · have := gl a2 (by rw [a1]; simp); omega
  · refine (hr.mono EV.S EV.cell).rel_at g 0 cap hc (fun q v hq => ⟨?_, .inr rfl⟩)
    rw [Nat.zero_add, cell_of_row _ _ _ _ _ _ hg]
    exact hn q v hq

/-- A contract's result without slices. -/
def PlainR : SV → Prop
  | .pv _ => True
  | .tuple l => ∀ x ∈ l, ∃ p, x = .pv p
  | _ => False

theorem placeL_plain {fr : Bool} {H : List Blk} : ∀ {l : List SV}, (∀ x ∈ l, ∃ p, x = .pv p) → placeL fr H l = some (l, H)
  | [], _ => rfl
  | c :: r, h => by
    obtain ⟨p, rfl⟩ := h c (by simp)
    simp only [placeL, place]
    rw [placeL_plain fun x hx => h x (by simp [hx])]

theorem placeR_plain {fr : Bool} {H : List Blk} {r : SV} (h : PlainR r) : placeR fr H r = some (r, H) := by
  cases r <;> simp only [PlainR] at h
  · rfl
  · simp only [placeR]; rw [placeL_plain h]

theorem meets_lib {P : Program} {W0 : World} {g : FuncId} {F : List SV → Option SV}
    (h : ∀ (C : Cf) (args : List SV) (vs : List Value) (r : SV), F args = some r → J0 W0 C → RelL C args vs →
      PlainR r ∧ Calls P g vs.toArray C.w (fun e w' => ∃ v, e = .returned v ∧ Below C.w.heap.size C.w w' ∧ ∀ D : Cf, RelS D r v)) : Meets P W0 g (specFn (.pure false F)) := by
  intro C args vs r' H' hF I J hr
  simp only [specFn] at hF
  split at hF
  · rename_i as has
    split at hF
    · rename_i r hFr
      obtain ⟨hp, hc⟩ := h C.bare as vs r hFr ⟨J.size, J.heap, J.S, fun k g h => by simp [Cf.bare] at h⟩ (purL_rel has hr)
      rw [placeR_plain hp] at hF
      cases hF
      refine hc.mono ?_
      rintro e w' ⟨v, rfl, hb, hrel⟩
      exact ⟨v, C.on w', rfl, rfl, rfl, below_inv I hb, below_evo I hb, hrel _⟩
    · cases hF
  · cases hF

/-- The start of a law's call: what is there is frozen. -/
abbrev start (W : World) : Cf := ⟨W, fun b _ => b < W.heap.size, [], []⟩
theorem start_inv (W : World) : Inv (start W) := by
  refine ⟨rfl, fun b o h => h, ?_, ?_, ?_, ?_, ?_, ?_⟩
  · intro _ k cs g h _; simp at h
  · intro _ k cs g o h _; simp at h
  · intro k v e g h _; simp at h
  · intro k v e g o h _; simp at h
  · intro k t cs g h _; simp at h
  · intro k k' g g' _ _ _ h _; simp at h
theorem start_j0 (W : World) : J0 W (start W) := ⟨Nat.le_refl _, fun _ _ => rfl, fun _ _ h => h, fun k g h => by simp at h⟩

theorem start_below {W : World} {C : Cf} (h : Evo (start W) C) : Below W.heap.size W C.w :=
  ⟨h.os, h.tape, h.output, h.size, fun k hk => h.frame k hk fun i g hg => by simp at hg⟩

/-- A law that the interpreter brings to 'true'. -/
theorem law_of {P : Program} {W : World} {f : FuncId} {args : List SV} {vs : List Value} {F : List SV → List Blk → Option (SV × List Blk)} (hm : Meets P W f F) {H' : List Blk} {b : Bool}
    (hF : F args [] = some (.bool b, H')) (hr : RelL (start W) args vs) : Calls P f vs.toArray W (fun e w' => e = .returned (.bool b) ∧ Below W.heap.size W w') := by
  refine (hm (start W) args vs _ H' hF (start_inv W) (start_j0 W) hr).mono ?_
  rintro e w' ⟨v, C', rfl, rfl, hg⟩
  have := hg.rel
  cases this with | pv _ _ hp =>
  cases hp
  exact ⟨rfl, start_below hg.evo⟩

theorem outR_bool {H : List Blk} {r : SV} {b : Bool} (h : outR H r = some (.bool b)) : r = .bool b := by
  unfold outR at h
  split at h
  · split at h
    · rename_i l _
      cases hl : outL H l <;> simp [hl] at h
    · cases h
  · unfold outP at h
    split at h
    · simpa using h
    · simp at h
    · split at h
      · split at h <;> simp at h
      · simp at h
    · rename_i cs _
      cases hc : pcells cs <;> simp [hc] at h
    · split at h
      · split at h
        · generalize pcells _ = q at h; cases q <;> simp at h
        · cases h
      · cases h
    · cases h

theorem law_prun {P : Program} {Y : TypeId → Option Ty} (E : Env P Y) {W : World} {T : FuncId → Option Spec} (hT : TOk P W T) (hm : P.follows .mixedOrders = true) {f : FuncId} {fn : Func} {c : Code}
    (hf : P.funcs[f]? = some fn) (hb : fn.body = some c) (hc : codeOk T c = true) {fuel : Nat} {args : List SV} {vs : List Value} {b : Bool} (h : prun Y T fn fuel args = some (.bool b)) (hr : RelL (start W) args vs) :
    Calls P f vs.toArray W (fun e w' => e = .returned (.bool b) ∧ Below W.heap.size W w') := by
  unfold prun at h
  cases h2 : arun Y T fn fuel args [] with
  | none => rw [h2] at h; simp at h
  | some x =>
    obtain ⟨r1, H1⟩ := x
    rw [h2] at h
    have := outR_bool (H := H1) (r := r1) (by simpa using h)
    subst this
    exact law_of (arun_sound E hT hm hf hb hc (fuel := fuel)) h2 hr

theorem rel_int (C : Cf) (n : Int) : RelS C (.i n) (.int .i64 n) := .pv _ _ (.int _ _)
theorem rel_bool (C : Cf) (n : Bool) : RelS C (.bool n) (.bool n) := .pv _ _ (.bool _)
theorem rel_str (C : Cf) (s : ByteArray) : RelS C (.str s.data.toList) (.string s) := by
  have := RelP.str (w := C.w) (S := C.S) s.data.toList
  simpa using RelS.pv (C := C) _ _ this
theorem rel_agg3 (C : Cf) (a b c : Int) : RelS C (.agg [.i a, .i b, .i c]) (.agg #[.int .i64 a, .int .i64 b, .int .i64 c]) := by
  have h : RelL C [SV.i a, .i b, .i c] [.int .i64 a, .int .i64 b, .int .i64 c] := RelL.cons (rel_int C a) (RelL.cons (rel_int C b) (RelL.cons (rel_int C c) (RelL.nil C)))
  refine .agg _ _ h.1 ?_ h.2
  intro j c hj
  rcases j with _ | _ | _ | j <;> simp at hj <;> subst hj <;> rfl



/-- The loops of a function's code, the outer ones first. -/
def loopsOf : Code → List Code
  | .loop b => b :: loopsOf b
  | .seq a b => loopsOf a ++ loopsOf b
  | .cond _ a b => loopsOf a ++ loopsOf b
  | .block _ b => loopsOf b
  | .scope b => loopsOf b
  | _ => []
def loopN (f : Func) (k : Nat) : Code := match f.body with
  | some c => (loopsOf c).getD k .skip
  | none => .skip

/-- What an accumulating variable holds: nil, or the current token's row. -/
def Acc (e : TypeId) (s : Nat) (H : List Blk) (es : List (List PV)) (out : SV) : Prop :=
  (es = [] ∧ out = .pv .nilSlice) ∨ (es ≠ [] ∧ ∃ k v, out = .own k v s es ∧ H[k]? = some (.tok v e))

theorem Acc.nil {e : TypeId} {s : Nat} {H : List Blk} : Acc e s H [] (.pv .nilSlice) := .inl ⟨rfl, rfl⟩
theorem Acc.live {e : TypeId} {s : Nat} {H : List Blk} {es : List (List PV)} {out : SV} (h : Acc e s H es out) : Pm.live out = some out := by
  rcases h with ⟨_, rfl⟩ | ⟨_, k, v, rfl, _⟩ <;> rfl
theorem Acc.more {e : TypeId} {s : Nat} {H : List Blk} {es : List (List PV)} {out : SV} (h : Acc e s H es out) (H' : List Blk) : Acc e s (H ++ H') es out := by
  rcases h with h | ⟨h0, k, v, h1, h2⟩
  · exact .inl h
  · exact .inr ⟨h0, k, v, h1, by rw [List.getElem?_append_left (List.getElem?_eq_some_iff.1 h2).1]; exact h2⟩
theorem Acc.box {e : TypeId} {s : Nat} {H : List Blk} {es : List (List PV)} {out : SV} (h : Acc e s H es out) {t0 : Option TypeId} {k0 : Nat} {cs cs' : List SV} (hk : H[k0]? = some (.box t0 cs)) : Acc e s (H.set k0 (.box t0 cs')) es out := by
  rcases h with h | ⟨h0, k, v, h1, h2⟩
  · exact .inl h
  · refine .inr ⟨h0, k, v, h1, ?_⟩
    have : k0 ≠ k := by intro e; subst e; rw [hk] at h2; cases h2
    rw [List.getElem?_set_ne this]; exact h2

theorem Acc.app {Y : TypeId → Option Ty} {t e : TypeId} {y : Ty} {H : List Blk} {es : List (List PV)} {x : List PV} {out : SV} (hk : kindOf Y t = some (.slice e)) (hy : Y e = some y) (h0 : 0 < y.size) (hb : y.bytes ≤ 32768) (hb0 : y.bytes ≠ 0)
    (hl : (es.length + 1) * y.bytes ≤ maxRow) (h : Acc e y.size H es out) :
    ∃ out' H', aAppend Y H t t out (.tight y.size [x]) = some (out', H') ∧ Acc e y.size H' (es ++ [x]) out' ∧ H.length ≤ H'.length ∧ (∀ {t0 : Option TypeId} (k : Nat) (cs : List SV), H[k]? = some (.box t0 cs) → H'[k]? = some (.box t0 cs)) := by
  have hl2 : es.length + 1 ≤ maxRow := Nat.le_trans (Nat.le_mul_of_pos_right _ (Nat.pos_of_ne_zero hb0)) hl
  rcases h with ⟨rfl, rfl⟩ | ⟨hne, k, v, rfl, hkv⟩
  · refine ⟨.own H.length 0 y.size [x], H ++ [.tok 0 e], ?_, .inr ⟨by simp, _, _, rfl, by simp⟩, by simp, fun k cs hc => ?_⟩
    · simp [-maxRow] at hl hl2
      simp [-kindOf, -maxRow, aAppend, hk, hy, sliceElems, strideOk, h0, hb, hb0, hl, hl2]
    · rw [List.getElem?_append_left (List.getElem?_eq_some_iff.1 hc).1]; exact hc
  · refine ⟨.own k (v + 1) y.size (es ++ [x]), H.set k (.tok (v + 1) e), ?_, .inr ⟨by simp, _, _, rfl, ?_⟩, by simp, fun k' cs hc => ?_⟩
    · simp [-kindOf, -maxRow, aAppend, hk, hy, sliceElems, strideOk, h0, hb, hb0, hl, hl2, hkv]
    · rw [List.getElem?_set_self (List.getElem?_eq_some_iff.1 hkv).1]
    · have : k ≠ k' := by intro e; subst e; rw [hkv] at hc; cases hc
      rw [List.getElem?_set_ne this]; exact hc

/-- The accumulated row as a result. -/
theorem Acc.out {e : TypeId} {s : Nat} {H : List Blk} {es : List (List PV)} {out : SV} (h : Acc e s H es out) : outP H out = some (if es = [] then .pv .nilSlice else .fresh e s es) := by
  rcases h with ⟨rfl, rfl⟩ | ⟨hne, k, v, rfl, hkv⟩
  · simp [outP]
  · simp [outP, hkv, hne]
theorem Acc.outR {e : TypeId} {s : Nat} {H : List Blk} {es : List (List PV)} {out : SV} (h : Acc e s H es out) : outR H out = some (if es = [] then .pv .nilSlice else .fresh e s es) := by
  have h' := h.out
  rcases h with ⟨rfl, rfl⟩ | ⟨hne, k, v, rfl, hkv⟩
  · simp [Pm.outR, outP]
  · simpa [Pm.outR] using h'
theorem set_last {α : Type} (H : List α) (a b : α) : (H ++ [a]).set H.length b = H ++ [b] := by
  rw [List.set_append_right _ _ (Nat.le_refl _)]; simp
theorem get_last {α : Type} (H : List α) (a : α) : (H ++ [a])[H.length]? = some a := by simp

end Go.Pm
