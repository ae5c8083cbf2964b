/- A token is added, by the machine. -/
import Derived.Test.YtkbfgmneibabgaaDoorLexG
set_option linter.unusedSimpArgs false
set_option linter.unusedVariables false
set_option maxRecDepth 1000000
set_option maxHeartbeats 2000000
namespace Go.Proofs.YtkbfgmneibabgaaDoor
open Go Go.Pm Go.RowKit
open LexP hiding place Sep Run
def tkC (s : Bs) (t : Tk) : List PV := [.int .i64 t.kind, .str t.text, .int .i64 t.val, .str t.bytes, .int .i64 (LexP.place s t.pos).1, .int .i64 (LexP.place s t.pos).2, .bool t.joined]
def tkRow (s : Bs) (l : List Tk) : List (List PV) := l.map (tkC s)
/-- The scanner. -/
structure Scn (k : Nat) (s : Bs) (n : Nat) (toks : List Tk) (e w : Int) (H : List Blk) : Prop where
  st : ∃ (ln l : SV), H[k]? = some (scB s n ln l e w) ∧ Lns H (starts s) ln ∧ Acc 42 7 H (tkRow s toks) l
  len : s.length ≤ 1000000
theorem FrE.push (k : Nat) (e : TypeId) (H : List Blk) (b : Blk) : FrE k e H (H ++ [b]) := by
  have key : ∀ (j : Nat) (x : Blk), H[j]? = some x → (H ++ [b])[j]? = some x := fun j x hc => by
    rw [List.getElem?_append_left (List.getElem?_eq_some_iff.1 hc).1]; exact hc
  exact ⟨fun j t cs _ h => key _ _ h, fun j v e' _ h => key _ _ h, by simp⟩
theorem acc_push {e : TypeId} {s : Nat} {H : List Blk} {es : List (List PV)} {out : SV} (h : Acc e s H es out) (b : Blk) : Acc e s (H ++ [b]) es out := by
  rcases h with ⟨rfl, rfl⟩ | ⟨hne, kt, v, rfl, hk⟩
  · exact .inl ⟨rfl, rfl⟩
  · refine .inr ⟨hne, kt, v, rfl, ?_⟩
    rw [List.getElem?_append_left (List.getElem?_eq_some_iff.1 hk).1]; exact hk
noncomputable def T74 : FuncId → Option Pm.Spec := tab [(40, .heap (arunAll Y T40 Tryd.f40))]
theorem T74_eq (g : Nat) : T74 g = tab [(40, .heap (arunAll Y T40 Tryd.f40))] g := rfl
theorem tok74 (W0 : World) : TOk Tryd.prog W0 T74 := tok_cons (meets40 W0) tok_nil
theorem meets74 (W0 : World) : Enterable Tryd.prog 74 ∧ Meets Tryd.prog W0 74 (specFn (.heap (arunAll Y T74 Tryd.f74))) := meets_heap env (tok74 W0) mixed Tryd.func74 (by kernel_rfl) (by kernel_rfl)
theorem all74 {k : Nat} {s : Bs} {n : Nat} {toks : List Tk} {e w : Int} {H : List Blk} (h : Scn k s n toks e w H) (hn : n ≤ s.length) (hb : toks.length ≤ 1100000) (kd v : Int) (tx bs : Bs) (m : Nat) (h1 : n ≤ m) (h2 : m ≤ s.length) (j : Bool) :
    ∃ H', arunAll Y T74 Tryd.f74 [.ptr k 0, .agg [.i kd, .str [], .i v, .str bs, .i 0, .i 0, .bool false], .i m, .bool j] H = some (.undef, H') ∧
      Scn k s m (toks ++ [⟨kd, (s.take m).drop n, v, bs, n, j && !toks.isEmpty⟩]) e w H' ∧ FrE k 42 H H' := by
  obtain ⟨ln, l, hk, hL, hA⟩ := h.st
  have hlt := (List.getElem?_eq_some_iff.1 hk).1
  let t : Tk := ⟨kd, (s.take m).drop n, v, bs, n, j && !toks.isEmpty⟩
  have hl0 := h.len
  -- the place
  have hP : ∀ cs, arunAll Y T40 Tryd.f40 [.ptr k 0, .i n] (H ++ [.box (some 42) cs]) = some (.tuple [.i (LexP.place s n).1, .i (LexP.place s n).2], H ++ [.box (some 42) cs]) := fun cs =>
    all40 hl0 (by rw [List.getElem?_append_left hlt]; exact hk) (hL.fr (FrE.push k 42 H _) (by decide)) n hn
  have gk : ∀ b, (H ++ [b])[k]? = some (.box (some 75) [.str s, .i n, ln, l, .i e, .i w]) := fun b => by rw [List.getElem?_append_left hlt]; exact hk
  -- the append
  let H4 := H ++ [.box (some 42) ((tkC s t).map SV.pv)]
  obtain ⟨l', H5, e5, a5, nb, f5⟩ := app_fr (t := 23) (x := tkC s t) (H := H4) (es := tkRow s toks) k (by rfl) Y_42 (by decide) (by decide) (by decide) (by simp [tkRow, maxRow]; omega) (acc_push hA _)
  have e5' : aAppend Y (H ++ [.box (some 42) ((tkC s t).map SV.pv)]) 23 23 l (.tight 7 [tkC s t]) = some (l', H5) := e5
  have a5' : Acc 42 7 H5 (tkRow s toks ++ [tkC s t]) l' := a5
  have hk5 : H5[k]? = some (.box (some 75) [.str s, .i n, ln, l, .i e, .i w]) := nb _ _ _ (gk _)
  have hlt5 := (List.getElem?_eq_some_iff.1 hk5).1
  have hs5 : ∀ b, (H5.set k b)[k]? = some b := fun b => List.getElem?_set_self hlt5
  have hx : XFn Y T74 Tryd.f74 [.ptr k 0, .agg [.i kd, .str [], .i v, .str bs, .i 0, .i 0, .bool false], .i m, .bool j] H (fun x => x = (.undef, H5.set k (scB s m ln l' e w))) := by
    unfold XFn Tryd.f74
    rw [enter_4 _ (by decide)]
    have q1 : k < H.length := hlt
    cases j with
    | false =>
      simp only [t, tkC, List.map_cons, List.map_nil, Bool.false_and] at e5' a5'
      simp [isLoad, -aAppend, -getElem?_pos, List.getElem?_cons_zero, List.getElem?_cons_succ, q1, T74_eq, hP, gk, hk5, hs5, set_last, get_last, scB, h1, h2, hA.live, a5'.live, e5', -cellsOf, cells_pv, cells_agg, cells_ptr, acc_cells a5']
    | true =>
      have hA' := hA
      rcases hA' with ⟨c1, rfl⟩ | ⟨c1, kt, u, rfl, c2⟩
      · have ht : toks = [] := by simpa [tkRow] using c1
        simp only [t, tkC, List.map_cons, List.map_nil, Bool.true_and, ht, List.isEmpty_nil, Bool.not_true] at e5' a5'
        simp [isLoad, -aAppend, -getElem?_pos, List.getElem?_cons_zero, List.getElem?_cons_succ, q1, T74_eq, hP, gk, hk5, hs5, set_last, get_last, scB, h1, h2, a5'.live, e5', -cellsOf, cells_pv, cells_agg, cells_ptr, acc_cells a5']
      · have ht : toks ≠ [] := by intro e; subst e; exact c1 rfl
        have ht2 : toks.isEmpty = false := by simp [ht]
        have ht3 : (0 : Int) < ((tkRow s toks).length : Int) := by
          have : 0 < (tkRow s toks).length := List.length_pos_iff.2 c1
          omega
        have ht4 : 0 < (tkRow s toks).length := List.length_pos_iff.2 c1
        simp only [t, tkC, List.map_cons, List.map_nil, Bool.true_and, ht2, Bool.not_false] at e5' a5'
        simp [isLoad, -aAppend, -getElem?_pos, List.getElem?_cons_zero, List.getElem?_cons_succ, q1, T74_eq, hP, gk, hk5, hs5, set_last, get_last, scB, h1, h2, a5'.live, e5', -cellsOf, cells_pv, cells_agg, cells_ptr, acc_cells a5', ht3, ht4]
  obtain ⟨r, H', g1, g2⟩ := all_of_XFn (by rfl) hx
  cases g2
  refine ⟨_, g1, ⟨⟨ln, l', by rw [List.getElem?_set_self hlt5], ?_, ?_⟩, hl0⟩, ?_⟩
  · exact hL.fr ((FrE.push k 42 H _).trans (f5.trans (FrE.setBox hk5))) (by decide)
  · have := a5'.box hk5 (cs' := [.str s, .i m, ln, l', .i e, .i w])
    rw [show tkRow s (toks ++ [t]) = tkRow s toks ++ [tkC s t] by simp [tkRow]]
    exact this
  · exact (FrE.push k 42 H _).trans (f5.trans (FrE.setBox hk5))
end Go.Proofs.YtkbfgmneibabgaaDoor
