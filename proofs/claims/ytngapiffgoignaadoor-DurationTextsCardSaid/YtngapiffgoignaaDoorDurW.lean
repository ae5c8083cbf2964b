/- duration.Find by a walk: a range over a function. -/
import Derived.Test.YtngapiffgoignaaDoorDurA
import Derived.RangeFuncNested
import Derived.RangeFuncBound
import Derived.RangeFuncCalls
import Derived.RangeFuncLeaves
import Derived.Shelf.Abstract
import Derived.Shelf.RegionOpen
import Derived.WalkKit
import Derived.OwnWalkIn
import Derived.TacticsInMore
import Derived.LoopNIn
import Derived.LoopIn
set_option linter.unusedSimpArgs false
set_option linter.unusedVariables false
set_option maxRecDepth 1000000
namespace Go.Proofs.YtngapiffgoignaaDoor
open Go Go.Pm Go.RowKit Go.Shelf
attribute [local go_sem] Oper.semAt_some
/-- The note values, in the order of the iterator. -/
def V (i : Fin 40) : Int × Int := (((i.val / 4 : Nat) : Int) - 1, ((i.val % 4 : Nat) : Int))
theorem V_at (k d : Nat) (hd : d < 4) (h : 4 * k + d < 40) : V ⟨4 * k + d, h⟩ = ((k : Int) - 1, (d : Int)) := by
  unfold V
  simp only []
  have e1 : (4 * k + d) / 4 = k := by omega
  have e2 : (4 * k + d) % 4 = d := by omega
  rw [e1, e2]
abbrev idx : List (Fin 40) := List.finRange 40
theorem idx_len : idx.length = 40 := List.length_finRange
abbrev encV (x : Int × Int) : Value := .agg #[.int .i64 x.1, .int .i64 x.2]
theorem take_snoc {m : Nat} (h : m < 40) : idx.take m ++ [⟨m, h⟩] = idx.take (m + 1) := by
  rw [List.take_add_one]
  have : idx[m]? = some ⟨m, h⟩ := by simp [idx, h]
  rw [this]; rfl
set_option maxHeartbeats 2000000 in
theorem it46 (F : Fence) (n : Nat) (h46 : F.fn 46) (hro : F.round = none) (hn : 1 ≤ n) (l : Nat) (J Jx : List (Fin 40) → World → Prop) (Kp : World → World → Prop)
    (hY : ∀ pre x W, J pre W → pre.length < 40 → YieldAt F (n - 1) Tryd.prog l #[encV (V x)] W fun e W' =>
      (e = .returned (.bool true) ∧ J (pre ++ [x]) W' ∧ Kp W W') ∨ (e = .returned (.bool false) ∧ Jx (pre ++ [x]) W'))
    (W : World) (h0 : J [] W) :
    CallsIn F n Tryd.prog 46 #[.func (.yield l) #[] #[]] W fun e W' => (∃ v, e = .returned v) ∧
      ((∃ ys, ys = idx ∧ J ys W') ∨ (∃ pre, pre <+: idx ∧ Jx pre W')) := by
  refine callsIn_of_wp Tryd.func46 rfl h46 ?_ hro
  simp only [Tryd.ntmps46, List.size_toArray, List.length_cons, List.length_nil, Nat.reduceAdd, Nat.reduceSub, Array.replicate_succ, Array.replicate_zero, List.push_toArray, List.append_toArray, List.nil_append, List.cons_append]
  gi_wp2
  gi_loopw [2] (fun p wr => ∃ (k : Nat), p = .int .i64 ((k : Int) - 1) ∧ k ≤ 10 ∧ J (idx.take (4 * k)) wr) (fun p _ => (9 - intOf p).toNat)
  case atStart =>
    exact ⟨0, rfl, by omega, h0⟩
  case round =>
    obtain ⟨k, rfl, hk, hJ⟩ := hrel
    by_cases hk9 : (k : Int) - 1 ≤ 8
    · have hk' : k < 10 := by omega
      gi_wp2
      gi_loopw [8] (fun p wr => ∃ (d : Nat), p = .int .i64 (d : Int) ∧ d ≤ 4 ∧ J (idx.take (4 * k + d)) wr) (fun p _ => (4 - intOf p).toNat)
      case atStart =>
        exact ⟨0, rfl, by omega, hJ⟩
      case round =>
        obtain ⟨d, rfl, hd, hJd⟩ := hrel
        by_cases hd3 : (d : Int) < 4
        · have hd' : d < 4 := by omega
          have hm : 4 * k + d < 40 := by omega
          obtain ⟨fn, tmps, assign, body, hy, hR⟩ := hY (idx.take (4 * k + d)) ⟨4 * k + d, hm⟩ wr hJd (by rw [List.length_take, idx_len]; omega)
          rw [V_at k d hd' hm] at hy
          dsimp only [encV] at hy
          gi_wp2
          refine hR.mono ?_
          rintro e W3 (⟨rfl, hJ3, hk3⟩ | ⟨rfl, hJx3⟩)
          · rw [take_snoc hm] at hJ3
            gi_wp2
            go_roundw
            case rel => exact ⟨d + 1, by simp, by omega, hJ3⟩
            case measure => simp only [intOf]; omega
          · rw [take_snoc hm] at hJx3
            gi_wp2
            refine bodyPost_ret (results_none rfl _ _ _) rfl ?_
            exact ⟨⟨_, rfl⟩, .inr ⟨_, List.take_prefix _ _, hJx3⟩⟩
        · have hd' : d = 4 := by omega
          subst hd'
          gi_wp2
          go_roundw
          case rel => exact ⟨k + 1, by congr 1; omega, by omega, hJd⟩
          case measure => simp only [intOf]; omega
    · have hk' : k = 10 := by omega
      subst hk'
      gi_wp2
      go_end0
      exact ⟨⟨_, rfl⟩, .inl (by rw [List.take_of_length_le (by rw [idx_len]; omega)] at hJ; exact hJ)⟩
theorem stops46 (F : Fence) (n : Nat) (h46 : F.fn 46) (hro : F.round = none) (hn : 1 ≤ n) (Kp : World → World → Prop) (w : World) :
    SeqStopsK F n Tryd.prog 46 #[] (fun x : Fin 40 => #[encV (V x)]) Kp (fun ys => ys = idx) (fun pre => pre <+: idx) 40 w := fun l J Jx W hW _ _ hY h0 =>
  it46 F n h46 hro hn l J Jx Kp hY W h0
/-- duration.values(). -/
theorem c36 (F : Fence) (n : Nat) (h36 : F.fn 36) (hro : F.round = none) (w : World) :
    CallsIn F n Tryd.prog 36 #[] w fun e w' => e = .returned (.func (.func 46) #[] #[]) ∧ w' = w := by
  refine callsIn_of_wp Tryd.func36 rfl h36 ?_ hro
  simp only [Tryd.ntmps36, List.size_toArray, List.length_cons, List.length_nil, Nat.reduceAdd, Nat.reduceSub, Array.replicate_succ, Array.replicate_zero, List.push_toArray, List.append_toArray, List.nil_append, List.cons_append]
  gi_wp2
  go_ret
  exact ⟨rfl, rfl⟩
/-- The note value with a duration, and the error. -/
def findZ (n : Int) : (Int × Int) × Int := match idx.find? fun x => tkZ (V x) == n with
  | some i => (V i, 0)
  | none => ((0, 0), 17)
theorem find_of {n : Int} {p : List (Fin 40)} {x : Fin 40} (hp : p ++ [x] <+: idx) (hno : ∀ y ∈ p, tkZ (V y) ≠ n) (hx : tkZ (V x) = n) : findZ n = (V x, 0) := by
  obtain ⟨r, hr⟩ := hp
  have : (idx.find? fun x => tkZ (V x) == n) = some x := by
    rw [← hr, List.append_assoc, List.find?_append, List.find?_eq_none.2 (by intro y hy; simpa using hno y hy)]
    simp [hx]
  unfold findZ; rw [this]
theorem find_no {n : Int} (hno : ∀ y ∈ idx, tkZ (V y) ≠ n) : findZ n = ((0, 0), 17) := by
  have : (idx.find? fun x => tkZ (V x) == n) = none := List.find?_eq_none.2 (by intro y hy; simpa using hno y hy)
  unfold findZ; rw [this]
theorem pair2 {W : World} {b : Nat} {x y : Value} {t : TypeId} (h : W.heap[b]? = some (.cells #[x, y] t)) : W.cell? ⟨b, 0, none⟩ = some x ∧ W.cell? ⟨b, 1, none⟩ = some y ∧ W.frozen? ⟨b, 0, none⟩ = false ∧ W.frozen? ⟨b, 1, none⟩ = false := by
  refine ⟨?_, ?_, ?_, ?_⟩ <;> simp [World.cell?, World.frozen?, h]
theorem pair2_set0 {W : World} {b : Nat} {x y : Value} {t : TypeId} (h : W.heap[b]? = some (.cells #[x, y] t)) (u : Value) : (W.setCell ⟨b, 0, none⟩ u).heap[b]? = some (.cells #[u, y] t) := by
  rw [setCell_eq_setRow W b 0 _ _ _ u h, setRow_heap _ _ _ _ _ _ h]; rfl
theorem pair2_set1 {W : World} {b : Nat} {x y : Value} {t : TypeId} (h : W.heap[b]? = some (.cells #[x, y] t)) (u : Value) : (W.setCell ⟨b, 1, none⟩ u).heap[b]? = some (.cells #[x, u] t) := by
  rw [setCell_eq_setRow W b 1 _ _ _ u h, setRow_heap _ _ _ _ _ _ h]; rfl
theorem set_other {W : World} {b b' o : Nat} {ob : Obj} (h : W.heap[b']? = some ob) (hne : b' ≠ b) (u : Value) : (W.setCell ⟨b, o, none⟩ u).heap[b']? = some ob := by
  rw [heap_setCell_other W _ _ _ (by simpa using hne)]; exact h
/-- The results are written. -/
theorem res3 {W : World} {B : Nat} {a b c : Value} {t t' : TypeId} (h : W.heap[B]? = some (.cells #[a, b] t)) (h2 : Boxed W (B + 1) t' c) (x y z : Value) :
    (((W.setCell ⟨B, 0, none⟩ x).setCell ⟨B, 1, none⟩ y).setCell ⟨B + 1, 0, none⟩ z).heap[B]? = some (.cells #[x, y] t) ∧
    Boxed (((W.setCell ⟨B, 0, none⟩ x).setCell ⟨B, 1, none⟩ y).setCell ⟨B + 1, 0, none⟩ z) (B + 1) t' z ∧
    KeepsOthers W (((W.setCell ⟨B, 0, none⟩ x).setCell ⟨B, 1, none⟩ y).setCell ⟨B + 1, 0, none⟩ z) ∧
    ∀ n, n ≤ B → Below n W (((W.setCell ⟨B, 0, none⟩ x).setCell ⟨B, 1, none⟩ y).setCell ⟨B + 1, 0, none⟩ z) := by
  have a1 := pair2_set1 (pair2_set0 h x) y
  have b1 : Boxed ((W.setCell ⟨B, 0, none⟩ x).setCell ⟨B, 1, none⟩ y) (B + 1) t' c := set_other (set_other h2 (by omega) x) (by omega) y
  refine ⟨set_other a1 (by omega) z, b1.set z, ((KeepsOthers.setCell _ _ _).trans (KeepsOthers.setCell _ _ _)).trans (KeepsOthers.setCell _ _ _), fun n hn => ?_⟩
  exact (((Below.refl n W).setCell (p := ⟨B, 0, none⟩) hn x).setCell (p := ⟨B, 1, none⟩) hn y).setCell (p := ⟨B + 1, 0, none⟩) (by simp only []; omega) z
theorem below_drew {n : Nat} {W w' : World} (h : Below n W.drew w') : Below n W w' := ⟨h.os, h.tape, h.output, h.size, h.block⟩
theorem keepsFrom_below {W w' : World} (h : Below W.heap.size W w') (B : Nat) : KeepsFrom B W w' := ⟨h.size, fun k o _ hk _ => (h.block k (Array.getElem?_eq_some_iff.1 hk).1).trans hk⟩
theorem own_block (B b : Nat) (t : TypeId) (l : Array Value) : OwnFrom (β := List (Fin 40)) B (fun _ W => W.heap[b]? = some (.cells l t)) := fun s X Y row hs hg hrow =>
  (hg.block b (Array.getElem?_eq_some_iff.1 hs).1 (fun e => by obtain ⟨_, o, ho, hc⟩ := hrow b e.symm; rw [show X.heap[b]? = _ from hs] at ho; cases ho; cases hc)).trans hs
theorem results24 {W : World} {B : Nat} {x y z : Value} {tmps : Array Value} (h1 : tmps.getD 2 undef = .pointer (some ⟨B, 0, none⟩)) (h2 : tmps.getD 3 undef = .pointer (some ⟨B + 1, 0, none⟩)) (hv : W.heap[B]? = some (.cells #[x, y] 23)) (he : Boxed W (B + 1) 30 z) :
    (results Tryd.f24 tmps).run Tryd.prog W = .ok (.tuple #[.agg #[x, y], z]) W := by
  have hr : Tryd.f24.results = #[.cell 2 23, .cell 3 30] := rfl
  obtain ⟨fs, hd⟩ : ∃ fs, Tryd.prog.underlying 23 = some (.struct fs) := ⟨_, rfl⟩
  have l1 := run_loadVar_row W B 23 23 #[x, y] (0, 0) (.struct fs) hv hd rfl (by kernel_rfl)
  have l2 : (loadVar 30 ⟨B + 1, 0, none⟩).run Tryd.prog W = .ok z W := by
    have hu : Tryd.prog.underlying 30 = some (.int .i64) := by kernel_rfl
    simp [loadVar, run_underlying hu, he.cell]
  simp at h1 h2
  simp [results, hr, h1, h2, asAddr, l1, l2]
set_option maxHeartbeats 4000000 in
/-- duration.Find: over whatever the ticks come to. -/
theorem c24 (hticks : ∀ (x : Fin 40) (w : World), Calls Tryd.prog 38 #[encV (V x)] w fun e w' => e = .returned (.int .i64 (tkZ (V x))) ∧ Below w.heap.size w w') (nn : Int) (w : World) :
    Calls Tryd.prog 24 #[.int .i64 nn] w fun e w' => e = .returned (.tuple #[encV (findZ nn).1, .int .i64 (findZ nn).2]) ∧ Below w.heap.size w w' := by
  obtain ⟨res, hres⟩ : ∃ res, findZ nn = res := ⟨_, rfl⟩
  rw [hres]
  refine (callsIn_wide (n := 5)).1 ?_
  refine callsIn_of_wp_marks Tryd.func24 rfl trivial ?_ rfl
  simp only [Tryd.ntmps24, List.size_toArray, List.length_cons, List.length_nil, Nat.reduceAdd, Nat.reduceSub, Array.replicate_succ, Array.replicate_zero, List.push_toArray, List.append_toArray, List.nil_append, List.cons_append]
  gi_wp2_with (refine ⟨trivial, ?_⟩; gi_at_call 36; refine (c36 Fence.wide _ trivial rfl _).mono ?_; rintro e w' ⟨rfl, rfl⟩)
  have bN := ((Boxed.new w 3 (.int .i64 nn)).alloc (.cells #[.int .i64 0, .int .i64 0] 23)).alloc (.cells #[.int .i64 0] 30)
  have hV : (((w.alloc (.cells #[.int .i64 nn] 3)).alloc (.cells #[.int .i64 0, .int .i64 0] 23)).alloc (.cells #[.int .i64 0] 30)).heap[w.heap.size + 1]? = some (.cells #[.int .i64 0, .int .i64 0] 23) := by
    have h1 := World.alloc_heap_new (w.alloc (.cells #[.int .i64 nn] 3)) (.cells #[.int .i64 0, .int .i64 0] 23)
    rw [World.size_alloc] at h1
    exact (Below.heap_alloc _ _ _ (by simp)).trans h1
  have bE := Boxed.new ((w.alloc (.cells #[.int .i64 nn] 3)).alloc (.cells #[.int .i64 0, .int .i64 0] 23)) 30 (.int .i64 0)
  simp only [World.size_alloc] at bE
  have hB0 : Below w.heap.size w (((w.alloc (.cells #[.int .i64 nn] 3)).alloc (.cells #[.int .i64 0, .int .i64 0] 23)).alloc (.cells #[.int .i64 0] 30)) := (((Below.refl _ w).alloc (Nat.le_refl _) _).alloc (by simp) _).alloc (by simp; omega) _
  have hsz : (((w.alloc (.cells #[.int .i64 nn] 3)).alloc (.cells #[.int .i64 0, .int .i64 0] 23)).alloc (.cells #[.int .i64 0] 30)).heap.size = w.heap.size + 3 := by simp
  obtain ⟨W0, hW0⟩ : ∃ W0, ((w.alloc (.cells #[.int .i64 nn] 3)).alloc (.cells #[.int .i64 0, .int .i64 0] 23)).alloc (.cells #[.int .i64 0] 30) = W0 := ⟨_, rfl⟩
  rw [hW0] at bN hV bE hB0 hsz ⊢
  clear hW0
  refine wpIn_rangeFunc_ownH rfl (by omega) (gf := 46) (lb := #[]) rfl trivial (enters_of Tryd.func46 (by kernel_rfl) rfl)
    (stops46 Fence.wide _ trivial rfl (by omega) (Below w.heap.size) W0) belowK_t (belowK_b (by omega)) (Below.refl _ _) (fun _ => rfl)
    (fun pre W => ((Boxed W w.heap.size 3 (.int .i64 nn) ∧ W.heap[w.heap.size + 1]? = some (.cells #[.int .i64 0, .int .i64 0] 23) ∧ Boxed W (w.heap.size + 1 + 1) 30 (.int .i64 0)) ∧ ∀ y ∈ pre, tkZ (V y) ≠ nn) ∧ Below w.heap.size w W)
    (fun c pre W => (c = .ret ∧ ∃ p x, pre = p ++ [x] ∧ (∀ y ∈ p, tkZ (V y) ≠ nn) ∧ tkZ (V x) = nn ∧ W.heap[w.heap.size + 1]? = some (.cells #[.int .i64 (V x).1, .int .i64 (V x).2] 23) ∧ Boxed W (w.heap.size + 1 + 1) 30 (.int .i64 0)) ∧ Below w.heap.size w W)
    ?hI ?hIx ⟨⟨⟨bN, hV, bE⟩, by simp⟩, hB0⟩
    (fun x a' W => ∃ Bx, w.heap.size + 1 + 1 < Bx ∧ W.heap[Bx]? = some (.cells #[.int .i64 (V x).1, .int .i64 (V x).2] 23) ∧ a' = { tmps := #[.int .i64 nn, .pointer (some ⟨w.heap.size, 0, none⟩), .pointer (some ⟨w.heap.size + 1, 0, none⟩), .pointer (some ⟨w.heap.size + 1 + 1, 0, none⟩), .pointer (some ⟨Bx, 0, none⟩), .func (.func 46) #[] #[], encV (V x), undef, undef, undef, undef, undef, undef], defers := [] })
    ?hAx ?assign ?body ?done ?stop
  case hI =>
    exact OwnFrom.and (OwnFrom.and (OwnFrom.and (own_block _ _ _ _) (OwnFrom.and (own_block _ _ _ _) (own_block _ _ _ _))) (ownFrom_pure _ _)) (ownFrom_below (Nat.le_refl _) (by omega))
  case hIx =>
    intro c
    refine OwnFrom.and ?_ (ownFrom_below (Nat.le_refl _) (by omega))
    rintro s X Y row ⟨rfl, p, x, h1, h2, h3, h4, h5⟩ hg hrow
    exact ⟨rfl, p, x, h1, h2, h3, own_block _ _ _ _ s X Y row h4 hg hrow, own_block _ _ _ _ s X Y row h5 hg hrow⟩
  case hAx =>
    rintro x a' u X Y row ⟨Bx, h1, h2, h3⟩ hg hrow
    exact ⟨Bx, h1, own_block _ _ _ _ [] X Y row h2 hg hrow, h3⟩
  case assign =>
    rintro l pre x W K ⟨⟨⟨bN1, hV1, bE1⟩, hno⟩, hB1⟩ hK
    gi_wp2
    have hsW := hB1.size
    have hlt := bE1.lt
    exact hK _ _ ((KeepsOthers.alloc _ _).from _) ((Below.refl _ W).alloc hsW _) ⟨⟨⟨bN1.alloc _, (Below.heap_alloc _ _ _ (Array.getElem?_eq_some_iff.1 hV1).1).trans hV1, bE1.alloc _⟩, hno⟩, hB1.alloc hsW _⟩ ⟨W.heap.size, hlt, World.alloc_heap_new W _, rfl⟩
  case body =>
    rintro l pre x a' W hl ⟨r, hr⟩ ⟨⟨⟨bN1, hV1, bE1⟩, hno⟩, hB1⟩ ⟨Bx, hBx, bX, rfl⟩ hlt
    have cN := bN1.cell
    obtain ⟨x0, x1, _, _⟩ := pair2 bX
    have ltV := (Array.getElem?_eq_some_iff.1 hV1).1
    have ltX := (Array.getElem?_eq_some_iff.1 bX).1
    have hmx : Tryd.prog.follows .mixedOrders = true := by kernel_rfl
    gi_wp2
    gi_region_with_o (refine ⟨trivial, ?_⟩; gi_at_call 38; refine (CallsIn.inRound l (callsIn_wide.2 (hticks x _))).mono ?_; rintro e w' ⟨rfl, hBt⟩; have bN2 := (hBt.block _ bN1.lt).trans bN1; have hV2 := (hBt.block _ ltV).trans hV1; have bE2 := (hBt.block _ bE1.lt).trans bE1; have bX2 := (hBt.block _ ltX).trans bX; have cN' := Boxed.cell bN2; obtain ⟨v0, v1, z0, z1⟩ := pair2 hV2; obtain ⟨y0, y1, _, _⟩ := pair2 bX2; have cE := Boxed.cell bE2; have fE := Boxed.frozen bE2)
    all_goals gi_wp2
    all_goals (try go_bits)
    all_goals first | (have hBW : Below W.heap.size W w' := below_drew hBt) | (have hBW : Below W.heap.size W w' := hBt)
    all_goals (have hsW := hB1.size; have hKF := keepsFrom_below hBW W0.heap.size; have hBw := hBW.mono hsW)
    all_goals first
      | (have hne : ¬ tkZ (V x) = nn := by simpa using (by assumption : (tkZ (V x) == nn) = false)
         first
           | exact ⟨hKF, hBw, ⟨⟨bN2, hV2, bE2⟩, fun y hy => by rcases List.mem_append.1 hy with hy | hy; exact hno y hy; simp at hy; subst hy; exact hne⟩, hB1.trans hBw⟩
           | exact ⟨hKF.trans ((KeepsOthers.drew _).from _), hBw.drew, ⟨⟨bN2, hV2, bE2⟩, fun y hy => by rcases List.mem_append.1 hy with hy | hy; exact hno y hy; simp at hy; subst hy; exact hne⟩, hB1.trans hBw.drew⟩)
      | (have hee : tkZ (V x) = nn := by simpa using (by assumption : (tkZ (V x) == nn) = true)
         first
           | (obtain ⟨r1, r2, r3, r4⟩ := res3 hV2 bE2 (.int .i64 (V x).1) (.int .i64 (V x).2) (.int .i64 0)
              exact ⟨hKF.trans (r3.from _), ⟨rfl, pre, x, rfl, hno, hee, r1, r2⟩, (hB1.trans hBw).trans (r4 _ (by omega))⟩)
           | (obtain ⟨r1, r2, r3, r4⟩ := res3 (W := w'.drew) hV2 bE2 (.int .i64 (V x).1) (.int .i64 (V x).2) (.int .i64 0)
              exact ⟨(hKF.trans ((KeepsOthers.drew _).from _)).trans (r3.from _), ⟨rfl, pre, x, rfl, hno, hee, r1, r2⟩, (hB1.trans hBw.drew).trans (r4 _ (by omega))⟩))
  case done =>
    rintro D zs W hD rfl ⟨⟨⟨bN1, hV1, bE1⟩, hno⟩, hB1⟩ hK
    obtain ⟨v0, v1, z0, z1⟩ := pair2 hV1
    have cE := bE1.cell
    have fE := bE1.frozen
    rw [find_no hno] at hres
    subst hres
    gi_wp2
    obtain ⟨r1, r2, r3, r4⟩ := res3 hV1 bE1 (.int .i64 0) (.int .i64 0) (.int .i64 17)
    obtain ⟨u0, u1, _, _⟩ := pair2 r1
    have cF := r2.cell
    have hK' := r3.same D _ hK rfl
    refine ⟨by simp, .inl ⟨_, _, rfl, run_takeDeferred hK', ?_⟩⟩
    have hne : D ≠ w.heap.size + 1 ∧ D ≠ w.heap.size + 1 + 1 := by omega
    refine ⟨_, results24 rfl rfl ((World.putObj_heap_other (Ne.symm hne.1)).trans r1) ((World.putObj_heap_other (Ne.symm hne.2)).trans r2), rfl, ?_⟩
    exact (hB1.trans (r4 _ (by omega))).trans (belowK_b (w := w) (Nat.le_refl _) _ D _ _ (by omega) hK' rfl rfl)
  case stop =>
    rintro D c pre W hD hpre ⟨⟨rfl, p, x, rfl, hno, hx, hV1, bE1⟩, hB1⟩ hK
    obtain ⟨v0, v1, z0, z1⟩ := pair2 hV1
    have cE := bE1.cell
    have fE := bE1.frozen
    rw [find_of hpre hno hx] at hres
    subst hres
    gi_wp2
    refine ⟨by simp, .inl ⟨_, _, rfl, run_takeDeferred hK, ?_⟩⟩
    have hne : D ≠ w.heap.size + 1 ∧ D ≠ w.heap.size + 1 + 1 := by omega
    refine ⟨_, results24 rfl rfl ((World.putObj_heap_other (Ne.symm hne.1)).trans hV1) ((World.putObj_heap_other (Ne.symm hne.2)).trans bE1), rfl, ?_⟩
    exact hB1.trans (belowK_b (w := w) (Nat.le_refl _) _ D _ _ (by omega) hK rfl rfl)
end Go.Proofs.YtngapiffgoignaaDoor
