/- duration.Parse by a walk: a range over a function. -/
import Derived.Test.YtngapiffgoignaaDoorDurL
set_option linter.unusedSimpArgs false
set_option linter.unusedVariables false
set_option maxRecDepth 1000000
namespace Go.Proofs.YtngapiffgoignaaDoor
open Go Go.Pm Go.RowKit Go.Shelf
attribute [local go_sem] Oper.semAt_some
def txtB (x : Int × Int) : ByteArray := ⟨(txt x).toArray⟩
/-- The note value with a text, and the error. -/
def parB (s : ByteArray) : (Int × Int) × Int := match idx.find? fun x => decide ((txtB (V x)).toList = s.toList) with
  | some i => (V i, 0)
  | none => ((0, 0), 13)
theorem par_of {s : ByteArray} {p : List (Fin 40)} {x : Fin 40} (hp : p ++ [x] <+: idx) (hno : ∀ y ∈ p, (txtB (V y)).toList ≠ s.toList) (hx : (txtB (V x)).toList = s.toList) : parB s = (V x, 0) := by
  obtain ⟨r, hr⟩ := hp
  have : (idx.find? fun x => decide ((txtB (V x)).toList = s.toList)) = some x := by
    rw [← hr, List.append_assoc, List.find?_append, List.find?_eq_none.2 (by intro y hy; simpa using hno y hy)]
    simp [hx]
  unfold parB; rw [this]
theorem par_no {s : ByteArray} (hno : ∀ y ∈ idx, (txtB (V y)).toList ≠ s.toList) : parB s = ((0, 0), 13) := by
  have : (idx.find? fun x => decide ((txtB (V x)).toList = s.toList)) = none := List.find?_eq_none.2 (by intro y hy; simpa using hno y hy)
  unfold parB; rw [this]
theorem results29 {W : World} {B : Nat} {x y z : Value} {tmps : Array Value} (h1 : tmps.getD 2 undef = .pointer (some ⟨B, 0, none⟩)) (h2 : tmps.getD 3 undef = .pointer (some ⟨B + 1, 0, none⟩)) (hv : W.heap[B]? = some (.cells #[x, y] 23)) (he : Boxed W (B + 1) 30 z) :
    (results Tryd.f29 tmps).run Tryd.prog W = .ok (.tuple #[.agg #[x, y], z]) W := by
  have hr : Tryd.f29.results = #[.cell 2 23, .cell 3 30] := rfl
  obtain ⟨fs, hd⟩ : ∃ fs, Tryd.prog.underlying 23 = some (.struct fs) := ⟨_, rfl⟩
  have l1 := run_loadVar_row W B 23 23 #[x, y] (0, 0) (.struct fs) hv hd rfl (by kernel_rfl)
  have l2 : (loadVar 30 ⟨B + 1, 0, none⟩).run Tryd.prog W = .ok z W := by
    have hu : Tryd.prog.underlying 30 = some (.int .i64) := by kernel_rfl
    simp [loadVar, run_underlying hu, he.cell]
  simp at h1 h2
  simp [results, hr, h1, h2, asAddr, l1, l2]
set_option maxHeartbeats 4000000 in
theorem c29 (w : World) (htext : ∀ (x : Fin 40) (W : World), Below w.heap.size w W → Calls Tryd.prog 31 #[encV (V x)] W fun e w' => e = .returned (.tuple #[.string (txtB (V x)), .int .i64 0]) ∧ Below W.heap.size W w') (s : ByteArray) (hs0 : s.toList.isEmpty = false) (hs6 : s.size ≤ 6) :
    Calls Tryd.prog 29 #[.string s] w fun e w' => e = .returned (.tuple #[encV (parB s).1, .int .i64 (parB s).2]) ∧ Below w.heap.size w w' := by
  obtain ⟨res, hres⟩ : ∃ res, parB s = res := ⟨_, rfl⟩
  rw [hres]
  refine (callsIn_wide (n := 5)).1 ?_
  refine callsIn_of_wp_marks Tryd.func29 rfl trivial ?_ rfl
  simp only [Tryd.ntmps29, List.size_toArray, List.length_cons, List.length_nil, Nat.reduceAdd, Nat.reduceSub, Array.replicate_succ, Array.replicate_zero, List.push_toArray, List.append_toArray, List.nil_append, List.cons_append]
  gi_wp2_with (refine ⟨trivial, ?_⟩; gi_at_call 36; refine (c36 Fence.wide _ trivial rfl _).mono ?_; rintro e w' ⟨rfl, rfl⟩)
  have bN := ((Boxed.new w 9 (.string s)).alloc (.cells #[.int .i64 0, .int .i64 0] 23)).alloc (.cells #[.int .i64 0] 30)
  have hV : (((w.alloc (.cells #[.string s] 9)).alloc (.cells #[.int .i64 0, .int .i64 0] 23)).alloc (.cells #[.int .i64 0] 30)).heap[w.heap.size + 1]? = some (.cells #[.int .i64 0, .int .i64 0] 23) := by
    have h1 := World.alloc_heap_new (w.alloc (.cells #[.string s] 9)) (.cells #[.int .i64 0, .int .i64 0] 23)
    rw [World.size_alloc] at h1
    exact (Below.heap_alloc _ _ _ (by simp)).trans h1
  have bE := Boxed.new ((w.alloc (.cells #[.string s] 9)).alloc (.cells #[.int .i64 0, .int .i64 0] 23)) 30 (.int .i64 0)
  simp only [World.size_alloc] at bE
  have hB0 : Below w.heap.size w (((w.alloc (.cells #[.string s] 9)).alloc (.cells #[.int .i64 0, .int .i64 0] 23)).alloc (.cells #[.int .i64 0] 30)) := (((Below.refl _ w).alloc (Nat.le_refl _) _).alloc (by simp) _).alloc (by simp; omega) _
  have hsz : (((w.alloc (.cells #[.string s] 9)).alloc (.cells #[.int .i64 0, .int .i64 0] 23)).alloc (.cells #[.int .i64 0] 30)).heap.size = w.heap.size + 3 := by simp
  obtain ⟨W0, hW0⟩ : ∃ W0, ((w.alloc (.cells #[.string s] 9)).alloc (.cells #[.int .i64 0, .int .i64 0] 23)).alloc (.cells #[.int .i64 0] 30) = W0 := ⟨_, rfl⟩
  rw [hW0] at bN hV bE hB0 hsz ⊢
  refine wpIn_rangeFunc_ownH rfl (by omega) (gf := 46) (lb := #[]) rfl trivial (enters_of Tryd.func46 (by kernel_rfl) rfl)
    (stops46 Fence.wide _ trivial rfl (by omega) (Below w.heap.size) W0) belowK_t (belowK_b (by omega)) (Below.refl _ _) (fun _ => rfl)
    (fun pre W => ((Boxed W w.heap.size 9 (.string s) ∧ W.heap[w.heap.size + 1]? = some (.cells #[.int .i64 0, .int .i64 0] 23) ∧ Boxed W (w.heap.size + 1 + 1) 30 (.int .i64 0)) ∧ ∀ y ∈ pre, (txtB (V y)).toList ≠ s.toList) ∧ Below w.heap.size w W)
    (fun c pre W => (c = .ret ∧ ∃ p x, pre = p ++ [x] ∧ (∀ y ∈ p, (txtB (V y)).toList ≠ s.toList) ∧ (txtB (V x)).toList = s.toList ∧ W.heap[w.heap.size + 1]? = some (.cells #[.int .i64 (V x).1, .int .i64 (V x).2] 23) ∧ Boxed W (w.heap.size + 1 + 1) 30 (.int .i64 0)) ∧ Below w.heap.size w W)
    ?hI ?hIx ⟨⟨⟨bN, hV, bE⟩, by simp⟩, hB0⟩
    (fun x a' W => ∃ Bx, w.heap.size + 1 + 1 < Bx ∧ W.heap[Bx]? = some (.cells #[.int .i64 (V x).1, .int .i64 (V x).2] 23) ∧ a' = { tmps := #[.string s, .pointer (some ⟨w.heap.size, 0, none⟩), .pointer (some ⟨w.heap.size + 1, 0, none⟩), .pointer (some ⟨w.heap.size + 1 + 1, 0, none⟩), .pointer (some ⟨Bx, 0, none⟩), undef, undef, .bool false, .string s, .bool false, undef, .bool (decide (6 < (s.size : Int))), .string s, .int .i64 s.size, .bool (decide (6 < (s.size : Int))), undef, .func (.func 46) #[] #[], encV (V x), undef, undef, undef, undef, undef, undef, undef, undef, undef, undef], defers := [] })
    ?hAx ?assign ?body ?done ?stop
  case hI =>
    exact OwnFrom.and (OwnFrom.and (OwnFrom.and (own_block _ _ _ _) (OwnFrom.and (own_block _ _ _ _) (own_block _ _ _ _))) (ownFrom_pure _ _)) (ownFrom_below (Nat.le_refl _) (by omega))
  case hIx =>
    intro c
    refine OwnFrom.and ?_ (ownFrom_below (Nat.le_refl _) (by omega))
    rintro s X Y row ⟨rfl, p, x, h1, h2, h3, h4, h5⟩ hg hrow
    exact ⟨rfl, p, x, h1, h2, h3, own_block _ _ _ _ s X Y row h4 hg hrow, own_block _ _ _ _ s X Y row h5 hg hrow⟩
  case hAx =>
    rintro x a' u X Y row ⟨Bx, h1, h2, h3⟩ hg hrow
    exact ⟨Bx, h1, own_block _ _ _ _ [] X Y row h2 hg hrow, h3⟩
  case assign =>
    rintro l pre x W K ⟨⟨⟨bN1, hV1, bE1⟩, hno⟩, hB1⟩ hK
    gi_wp2
    have hsW := hB1.size
    have hlt := bE1.lt
    exact hK _ _ ((KeepsOthers.alloc _ _).from _) ((Below.refl _ W).alloc hsW _) ⟨⟨⟨bN1.alloc _, (Below.heap_alloc _ _ _ (Array.getElem?_eq_some_iff.1 hV1).1).trans hV1, bE1.alloc _⟩, hno⟩, hB1.alloc hsW _⟩ ⟨W.heap.size, hlt, World.alloc_heap_new W _, rfl⟩
  case body =>
    rintro l pre x a' W hl ⟨r, hr⟩ ⟨⟨⟨bN1, hV1, bE1⟩, hno⟩, hB1⟩ ⟨Bx, hBx, bX, rfl⟩ hlt
    have cN := bN1.cell
    obtain ⟨x0, x1, _, _⟩ := pair2 bX
    have ltV := (Array.getElem?_eq_some_iff.1 hV1).1
    have ltX := (Array.getElem?_eq_some_iff.1 bX).1
    have hmx : Tryd.prog.follows .mixedOrders = true := by kernel_rfl
    gi_wp2_with (refine ⟨trivial, ?_⟩; gi_at_call 31; refine (CallsIn.inRound l (callsIn_wide.2 (htext x _ hB1))).mono ?_; rintro e w' ⟨rfl, hBt⟩; have bN2 := (hBt.block _ bN1.lt).trans bN1; have hV2 := (hBt.block _ ltV).trans hV1; have bE2 := (hBt.block _ bE1.lt).trans bE1; have bX2 := (hBt.block _ ltX).trans bX; have cN' := Boxed.cell bN2; obtain ⟨v0, v1, z0, z1⟩ := pair2 hV2; obtain ⟨y0, y1, _, _⟩ := pair2 bX2; have cE := Boxed.cell bE2; have fE := Boxed.frozen bE2)
    all_goals (have hsW := hB1.size; have hKF := keepsFrom_below hBt W0.heap.size; have hBw := hBt.mono hsW)
    · have hee : (txtB (V x)).toList = s.toList := by simpa using (by assumption : ((txtB (V x)).toList == s.toList) = true)
      obtain ⟨r1, r2, r3, r4⟩ := res3 hV2 bE2 (.int .i64 (V x).1) (.int .i64 (V x).2) (.int .i64 0)
      exact ⟨hKF.trans (r3.from _), ⟨rfl, pre, x, rfl, hno, hee, r1, r2⟩, (hB1.trans hBw).trans (r4 _ (by omega))⟩
    · have hne : ¬ (txtB (V x)).toList = s.toList := by simpa using (by assumption : ((txtB (V x)).toList == s.toList) = false)
      exact ⟨hKF, hBw, ⟨⟨bN2, hV2, bE2⟩, fun y hy => by rcases List.mem_append.1 hy with hy | hy; exact hno y hy; simp at hy; subst hy; exact hne⟩, hB1.trans hBw⟩
  case done =>
    rintro D zs W hD rfl ⟨⟨⟨bN1, hV1, bE1⟩, hno⟩, hB1⟩ hK
    obtain ⟨v0, v1, z0, z1⟩ := pair2 hV1
    have cE := bE1.cell
    have fE := bE1.frozen
    rw [par_no hno] at hres
    subst hres
    gi_wp2
    obtain ⟨r1, r2, r3, r4⟩ := res3 hV1 bE1 (.int .i64 0) (.int .i64 0) (.int .i64 13)
    obtain ⟨u0, u1, _, _⟩ := pair2 r1
    have cF := r2.cell
    have hK' := r3.same D _ hK rfl
    refine ⟨by simp, .inl ⟨_, _, rfl, run_takeDeferred hK', ?_⟩⟩
    have hne : D ≠ w.heap.size + 1 ∧ D ≠ w.heap.size + 1 + 1 := by omega
    refine ⟨_, results29 rfl rfl ((World.putObj_heap_other (Ne.symm hne.1)).trans r1) ((World.putObj_heap_other (Ne.symm hne.2)).trans r2), rfl, ?_⟩
    exact (hB1.trans (r4 _ (by omega))).trans (belowK_b (w := w) (Nat.le_refl _) _ D _ _ (by omega) hK' rfl rfl)
  case stop =>
    rintro D c pre W hD hpre ⟨⟨rfl, p, x, rfl, hno, hx, hV1, bE1⟩, hB1⟩ hK
    obtain ⟨v0, v1, z0, z1⟩ := pair2 hV1
    have cE := bE1.cell
    have fE := bE1.frozen
    rw [par_of hpre hno hx] at hres
    subst hres
    gi_wp2
    refine ⟨by simp, .inl ⟨_, _, rfl, run_takeDeferred hK, ?_⟩⟩
    have hne : D ≠ w.heap.size + 1 ∧ D ≠ w.heap.size + 1 + 1 := by omega
    refine ⟨_, results29 rfl rfl ((World.putObj_heap_other (Ne.symm hne.1)).trans hV1) ((World.putObj_heap_other (Ne.symm hne.2)).trans bE1), rfl, ?_⟩
    exact hB1.trans (belowK_b (w := w) (Nat.le_refl _) _ D _ _ (by omega) hK rfl rfl)
/-- The note value with a text, and the error. -/
def parT (s : List UInt8) : (Int × Int) × Int := match idx.find? fun x => decide (txt (V x) = s) with
  | some i => (V i, 0)
  | none => ((0, 0), 13)
theorem parB_eq (s : List UInt8) : parB ⟨s.toArray⟩ = parT s := by
  unfold parB parT txtB
  simp only [toList_mk]
def parZ (s : List UInt8) : (Int × Int) × Int := if s = [] then ((0, 0), 4) else if 6 < s.length then ((0, 0), 5) else parT s
theorem tab_below {W w' : World} (hb : Below W.heap.size W w') (h : Lib.TabIs Tryd.prog W tabName .u64 Lib.pow10Tab) : Lib.TabIs Tryd.prog w' tabName .u64 Lib.pow10Tab := by
  have h' := h
  unfold Lib.TabIs World.var? at h' ⊢
  cases hg : Tryd.prog.globalNamed tabName with
  | none => rw [hg] at h'; simp at h'
  | some g =>
    rw [hg] at h'
    simp only [Option.bind_some] at h' ⊢
    have hlt : g < W.heap.size := by
      rcases Nat.lt_or_ge g W.heap.size with h1 | h1
      · exact h1
      · rw [Array.getElem?_eq_none h1] at h'; simp at h'
    rw [hb.block g hlt]; exact h'
theorem text31 {w : World} (h : Lib.TabIs Tryd.prog w tabName .u64 Lib.pow10Tab) (x : Fin 40) (W : World) (hb : Below w.heap.size w W) : Calls Tryd.prog 31 #[encV (V x)] W fun e w' => e = .returned (.tuple #[.string (txtB (V x)), .int .i64 0]) ∧ Below W.heap.size W w' := by
  have L : Laid W := ⟨tab_below hb h⟩
  have hok : okV (V x).1 (V x).2 := V_range x
  have hF : specFn (.pure false F31) [.agg [.i (V x).1, .i (V x).2]] (Pm.start W).H = some (.tuple [.str (txt (V x)), .i 0], []) := by
    have h1 : F31 [.agg [.i (V x).1, .i (V x).2]] = some (.tuple [.str (txt (V x)), .i 0]) := by
      simp only [F31]; rw [if_pos hok, if_pos hok]
    simp [specFn, h1, placeR, placeL, place]
  have hr : RelL (Pm.start W) [.agg [.i (V x).1, .i (V x).2]] [encV (V x)] := RelL.cons (rel_cells _ _) (RelL.nil _)
  refine ((meets31 L).2 (Pm.start W) _ _ _ [] hF (Pm.start_inv W) (Pm.start_j0 W) hr).mono ?_
  rintro e w' ⟨v, C', rfl, rfl, hg⟩
  have hrel := hg.rel
  cases hrel with | tuple _ vs h1 h2 =>
  have hl : RelL C' [SV.str (txt (V x)), .i 0] vs := ⟨h1, h2⟩
  obtain ⟨u, us, hu, h1, h2⟩ := hl.uncons
  obtain ⟨u2, us2, rfl, h3, h4⟩ := h2.uncons
  have : us2 = [] := by simpa using h4.1
  subst this
  cases h1 with | pv _ _ h1 =>
  cases h1
  cases h3 with | pv _ _ h3 =>
  cases h3
  subst hu
  exact ⟨rfl, Pm.start_below hg.evo⟩
def F29y : List SV → Option SV
  | [.pv (.str s)] => if s ≠ [] ∧ s.length ≤ 6 then some (.tuple [.agg [.i (parT s).1.1, .i (parT s).1.2], .i (parT s).2]) else none
  | _ => none
def F29n : List SV → Option SV
  | [.pv (.str s)] => if s = [] then some (.tuple [.agg [.i 0, .i 0], .i 4]) else if 6 < s.length then some (.tuple [.agg [.i 0, .i 0], .i 5]) else none
  | _ => none
def F29 : List SV → Option SV
  | [.pv (.str s)] => some (.tuple [.agg [.i (parZ s).1.1, .i (parZ s).1.2], .i (parZ s).2])
  | _ => none
theorem x29a : XFn Y T0 Tryd.f29 [.str []] [] (Is (.tuple [.agg [.i 0, .i 0], .i 4])) := by
  unfold XFn Tryd.f29
  rw [enter_1 _ (by decide)]
  simp
theorem x29b (s : List UInt8) (h : 6 < s.length) : XFn Y T0 Tryd.f29 [.str s] [] (Is (.tuple [.agg [.i 0, .i 0], .i 5])) := by
  unfold XFn Tryd.f29
  rw [enter_1 _ (by decide)]
  have h0 : ¬ s = [] := by intro h0; subst h0; simp at h
  have c1 : (6 : Int) < (s.length : Nat) := by omega
  simp [-Int.not_lt, -Int.not_le, h0, c1, h]
theorem meets29n (W0 : World) : OkAt W0 29 F29n := meets_fn env tok_nil mixed Tryd.func29 (by kernel_rfl) (by kernel_rfl) fun args r h => by
  unfold F29n at h
  split at h
  · split at h
    · rename_i hc; cases h; subst hc; exact x29a
    · split at h
      · rename_i hc; cases h; exact x29b _ hc
      · cases h
  · cases h
theorem meets29y {W0 : World} (L : Laid W0) : OkAt W0 29 F29y := by
  refine ⟨enterable_of Tryd.func29 (by kernel_rfl), ?_⟩
  intro C args vs r' H' hF I J hr
  simp only [specFn] at hF
  split at hF
  · rename_i as1 has
    split at hF
    · rename_i r hFr
      have hra := purL_rel has hr
      unfold F29y at hFr
      split at hFr
      · rename_i s
        split at hFr
        · rename_i hc
          cases hFr
          obtain ⟨u, us, rfl, h1, h2⟩ := hra.uncons
          have : us = [] := by simpa using h2.1
          subst this
          cases h1 with | pv _ _ h1 =>
          cases h1
          simp [placeR, placeL, place, pcells, pcell] at hF
          obtain ⟨rfl, rfl⟩ := hF
          have h := c29 C.w (text31 (tab_at J L.tab)) ⟨s.toArray⟩ (by rw [toList_mk]; simpa using hc.1) (by simpa [ByteArray.size] using hc.2)
          rw [parB_eq] at h
          refine h.mono ?_
          rintro e w' ⟨rfl, hb⟩
          refine ⟨_, C.on w', rfl, rfl, rfl, below_inv I hb, below_evo I hb, ?_⟩
          have ha : RelS (C.on w') (.agg [.i (parT s).1.1, .i (parT s).1.2]) (encV (parT s).1) := rel_cells _ _
          have : RelL (C.on w') [SV.agg [.i (parT s).1.1, .i (parT s).1.2], .i (parT s).2] [encV (parT s).1, .int .i64 (parT s).2] := RelL.cons ha (RelL.cons (.pv _ _ (.int _ _)) (RelL.nil _))
          exact .tuple _ [encV (parT s).1, .int .i64 (parT s).2] this.1 this.2
        · cases hFr
      · cases hFr
    · cases hF
  · cases hF
theorem meets29 {W0 : World} (L : Laid W0) : OkAt W0 29 F29 := (meets29y L).or (meets29n W0) fun as1 r h => by
  unfold F29 at h
  split at h
  · rename_i s
    unfold parZ at h
    by_cases h0 : s = []
    · right; subst h0; simpa [F29n] using h
    · by_cases h6 : 6 < s.length
      · right; simpa [F29n, h0, h6] using h
      · left; simpa [F29y, h0, h6, Nat.not_lt.1 h6] using h
  · cases h
end Go.Proofs.YtngapiffgoignaaDoor
