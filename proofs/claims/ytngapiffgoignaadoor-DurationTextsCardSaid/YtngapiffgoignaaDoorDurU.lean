/- All note values in decreasing order: the library's sort by its contract, by walks. -/
import Derived.Test.YtngapiffgoignaaDoorDurT
import Derived.Test.YtngapiffgoignaaDoorDurK
import Derived.Test.YtngapiffgoignaaDoorSrt
set_option linter.unusedSimpArgs false
set_option linter.unusedVariables false
set_option maxRecDepth 1000000
namespace Go.Proofs.YtngapiffgoignaaDoor
open Go Go.Pm Go.RowKit Go.Shelf Go.Sort Go.Lib
def cfV (x y : Fin 40) : Int := tkZ (V y) - tkZ (V x)
theorem ltV (x y : Fin 40) : ltOf cfV x y = decide (tkZ (V y) < tkZ (V x)) := by
  unfold ltOf cfV
  by_cases h : tkZ (V y) < tkZ (V x)
  · have h1 : tkZ (V y) - tkZ (V x) < 0 := by omega
    simp [h, h1]
  · have h1 : ¬ tkZ (V y) - tkZ (V x) < 0 := by omega
    simp [h, h1]
theorem tkV_inj : ∀ x y : Fin 40, tkZ (V x) = tkZ (V y) → x = y := by decide +kernel
theorem swoV : SWO (ltOf cfV) where
  irrefl x := by rw [ltV]; simp
  trans x y z h1 h2 := by rw [ltV] at *; simp at *; omega
  ntrans x y z h1 h2 := by rw [ltV] at *; simp at *; omega
theorem totV (x y : Fin 40) (h1 : ltOf cfV x y = false) (h2 : ltOf cfV y x = false) : x = y := by
  rw [ltV] at *; simp at *; exact tkV_inj x y (by omega)
def srtF (i : Fin 40) : Fin 40 := ⟨i.val / 4 * 4 + (3 - i.val % 4), by omega⟩
def srt : List (Fin 40) := idx.map srtF
theorem srt_perm : srt.isPerm idx = true := by decide +kernel
theorem srt_pw : (List.finRange 40).all (fun i => (List.finRange 40).all fun j => !decide (i.val < j.val) || decide (tkZ (V (srtF j)) < tkZ (V (srtF i)))) = true := by decide +kernel
theorem srt_eq : (idx.mergeSort fun x y => !(ltOf cfV) y x) = srt := by
  refine List.Perm.eq_of_pairwise (le := fun x y => (!(ltOf cfV) y x) = true) ?_ ?_ ?_ ((List.mergeSort_perm _ _).trans (List.isPerm_iff.1 srt_perm).symm)
  · intro a b _ _ h1 h2
    simp only [Bool.not_eq_true'] at h1 h2
    exact totV a b h2 h1
  · refine List.pairwise_mergeSort ?_ ?_ _
    · intro a b c h1 h2
      simp only [Bool.not_eq_true'] at h1 h2 ⊢
      exact swoV.ntrans c b a h2 h1
    · intro a b
      cases h : ltOf cfV b a with
      | false => simp
      | true => simp [swoV.asymmA h]
  · rw [List.pairwise_iff_getElem]
    intro i j hi hj hij
    have hi' : i < 40 := by simpa [srt] using hi
    have hj' : j < 40 := by simpa [srt] using hj
    have h1 := List.all_eq_true.1 srt_pw ⟨i, hi'⟩ (List.mem_finRange _)
    have h2 := List.all_eq_true.1 h1 ⟨j, hj'⟩ (List.mem_finRange _)
    simp [hij] at h2
    simp only [Bool.not_eq_true', ltV, decide_eq_false_iff_not]
    simp [srt, idx]
    omega
theorem V_srt (i : Fin 40) : V (srtF i) = AV i.val := by
  have : ∀ i : Fin 40, V (srtF i) = AV i.val := by decide +kernel
  exact this i
theorem flat_idx : (flatK cellsV 2 idx.toArray).toList = flatV idx := by kernel_rfl
set_option maxHeartbeats 1000000 in
/-- The comparison. -/
theorem closure37 (x y : Fin 40) (W : World) : Calls Tryd.prog 37 #[encV (V x), encV (V y)] W fun e w' => e = .returned (.int .i64 (cfV x y)) ∧ ∃ q os', w' = grow (W.drewN q) os' := by
  have hx := V_range x
  have hy := V_range y
  have h38 := fun (z : Fin 40) (W' : World) => walk38 (V z).1 (V z).2 (V_range z).1 (V_range z).2 W'
  have bx : 0 < tkZ (V x) ∧ tkZ (V x) ≤ 7257600 := tk_bound hx
  have bY : 0 < tkZ (V y) ∧ tkZ (V y) ≤ 7257600 := tk_bound hy
  have hw : IntKind.i64.wrap (tkZ (V y) - tkZ (V x)) = tkZ (V y) - tkZ (V x) := wrap64 (by omega) (by omega)
  have hmx : Tryd.prog.follows .mixedOrders = true := by kernel_rfl
  unfold cfV
  have bX := World.alloc_heap_new W (.cells #[.int .i64 (V x).1, .int .i64 (V x).2] 23)
  have bY' := World.alloc_heap_new (W.alloc (.cells #[.int .i64 (V x).1, .int .i64 (V x).2] 23)) (.cells #[.int .i64 (V y).1, .int .i64 (V y).2] 23)
  rw [World.size_alloc] at bY'
  have bX' := (Below.heap_alloc (W.alloc (.cells #[.int .i64 (V x).1, .int .i64 (V x).2] 23)) (.cells #[.int .i64 (V y).1, .int .i64 (V y).2] 23) W.heap.size (by simp)).trans bX
  obtain ⟨cx0, cx1, _, _⟩ := pair2 bX'
  obtain ⟨cy0, cy1, _, _⟩ := pair2 bY'
  have gx0 := cell_grown (by simp; omega) cx0
  have gx1 := cell_grown (by simp; omega) cx1
  have gy0 := cell_grown (by simp) cy0
  have gy1 := cell_grown (by simp) cy1
  have lx : ∀ n os, Sem.run Tryd.prog (loadVar 23 ⟨W.heap.size, 0, none⟩) (grow (((W.alloc (.cells #[.int .i64 (V x).1, .int .i64 (V x).2] 23)).alloc (.cells #[.int .i64 (V y).1, .int .i64 (V y).2] 23)).drewN n) os) = .ok (encV (V x)) (grow (((W.alloc (.cells #[.int .i64 (V x).1, .int .i64 (V x).2] 23)).alloc (.cells #[.int .i64 (V y).1, .int .i64 (V y).2] 23)).drewN n) os) := fun n os =>
    run_loadVar_row _ W.heap.size 23 23 _ (0, 0) _ (by rw [heap_grow_old _ _ (by simp; omega)]; exact bX') Tryd.underlying23 rfl (by kernel_rfl)
  have ly : ∀ n os, Sem.run Tryd.prog (loadVar 23 ⟨W.heap.size + 1, 0, none⟩) (grow (((W.alloc (.cells #[.int .i64 (V x).1, .int .i64 (V x).2] 23)).alloc (.cells #[.int .i64 (V y).1, .int .i64 (V y).2] 23)).drewN n) os) = .ok (encV (V y)) (grow (((W.alloc (.cells #[.int .i64 (V x).1, .int .i64 (V x).2] 23)).alloc (.cells #[.int .i64 (V y).1, .int .i64 (V y).2] 23)).drewN n) os) := fun n os =>
    run_loadVar_row _ (W.heap.size + 1) 23 23 _ (0, 0) _ (by rw [heap_grow_old _ _ (by simp)]; exact bY') Tryd.underlying23 rfl (by kernel_rfl)
  have hq : ∀ (z : Fin 40) (n : Nat) (os : Array Obj), Calls Tryd.prog 38 #[encV (V z)] (grow (((W.alloc (.cells #[.int .i64 (V x).1, .int .i64 (V x).2] 23)).alloc (.cells #[.int .i64 (V y).1, .int .i64 (V y).2] 23)).drewN n) os) fun e w' => e = .returned (.int .i64 (tkZ (V z))) ∧ ∃ q os', w' = grow ((grow (((W.alloc (.cells #[.int .i64 (V x).1, .int .i64 (V x).2] 23)).alloc (.cells #[.int .i64 (V y).1, .int .i64 (V y).2] 23)).drewN n) os).drewN q) os' := fun z n os =>
    (h38 z _).mono fun e w' ⟨he, hw'⟩ => ⟨he, 0, #[.cells #[.int .i64 (V z).1, .int .i64 (V z).2] 23], by rw [hw', alloc_eq_grow]; rfl⟩
  go_enter Tryd.func37, Tryd.ntmps37
  go_wp2_with fail
  clear cx0 cx1 cy0 cy1 bX bX' bY' h38
  go_quiet_grown (first | (go_at_call 38; refine Calls.grown_of (hq _ _ _)))
  go_wp2
  go_ret
  exact ⟨rfl, nq, _, by rw [alloc_eq_grow, alloc_eq_grow, grow_grow]; exact grow_grow (W.drewN nq) _ _⟩
theorem cmpLays37 (blk off size : Nat) (w : World) : CmpLays Tryd.prog 37 #[] cellsV 2 cfV blk off size w := fun _ _ _ _ x y => closure37 x y _
/-- The sorted cells. -/
def flatS : List Value := (flatK cellsV 2 srt.toArray).toList
theorem flatS_eq : flatS = (List.range 40).flatMap fun i => [.int .i64 (AV i).1, .int .i64 (AV i).2] := by kernel_rfl
theorem enters37 : ∀ args w, (callFunc 37 args).run Tryd.prog w = .ok (.enter 37 args) w := enters_of Tryd.func37 (by kernel_rfl) rfl
theorem cells_len (x : Fin 40) : (cellsV x).length = 2 := rfl
theorem cells_one (x : Fin 40) : ∀ v ∈ cellsV x, v.oneCell' = true := fun v hv => by
  simp [cellsV] at hv
  rcases hv with rfl | rfl <;> rfl
theorem c45 {w : World} {g cap : Nat} {cur : Array Value} (hg : w.heap[g]? = some (.cells cur 23 (0, 0))) (hcs : cur.size = cap * 2) (hc : 40 ≤ cap) (ht : cur.toList.take 80 = flatV idx) :
    Calls Tryd.prog 45 #[.slice (some ⟨g, 0, none⟩) 40 cap, .func (.func 37) #[] #[]] w fun e w' => e = .returned (.tuple #[]) ∧ w.grownBy w' (some g) ∧
      ∃ cur', w'.heap[g]? = some (.cells cur' 23 (0, 0)) ∧ ∀ (q : Nat) (v : Value), flatS[q]? = some v → cur'[q]? = some v := by
  have hlt : g < w.heap.size := (Array.getElem?_eq_some_iff.1 hg).1
  have hsz : idx.toArray.size = 40 := by simp [idx]
  have hH : HoldsK cellsV 2 w g 0 idx.toArray := by
    intro j hj
    have hj' : j < 80 := by rw [size_flatK, hsz] at hj; exact hj
    refine ⟨?_, by simp [World.frozen?, hg]⟩
    have h1 : (cur.toList.take 80)[j]? = (flatK cellsV 2 idx.toArray).toList[j]? := by rw [ht, flat_idx]
    rw [List.getElem?_take_of_lt hj'] at h1
    simp only [World.cell?, hg, Nat.zero_add]
    simp only [Option.isSome_none, Bool.false_eq_true, if_false]
    rw [← Array.getElem?_toList, h1, Array.getElem?_toList]
    rw [getElem!_pos _ j hj, Array.getElem?_eq_getElem hj]; rfl
  have h := AnyQ.slices_SortFunc_total Tryd.sortV 2 Tryd.isAgg23 Tryd.sizeOf23 cellsV cells_len cells_one cfV swoV 37 #[] g 0 cap idx.toArray w enters37 (cmpLays37 g 0 _ w) hH hlt (by rw [hsz]; decide) totV
  rw [hsz, show (idx.toArray.toList.mergeSort fun x y => !(ltOf cfV) y x) = srt from srt_eq] at h
  refine (show Calls Tryd.prog 45 _ w _ from h).mono ?_
  rintro e w' ⟨rfl, n, os, rfl⟩
  have hs : (flatK cellsV 2 srt.toArray).size = 80 := by rw [size_flatK]; rfl
  refine ⟨rfl, ⟨rfl, rfl, rfl, by simp [sortWorldK, putRowK], fun k hk hne => ?_⟩, putCells id 0 (flatK cellsV 2 srt.toArray) cur, ?_, fun q v hq => ?_⟩
  · unfold sortWorldK putRowK
    rw [heap_grow_old _ _ (by simpa using hk)]
    have : g ≠ k := fun e => hne (by rw [e])
    simp [putRow, mapBlock, Sort.ahead, Array.getElem?_modify, this]
  · unfold sortWorldK putRowK
    rw [heap_grow_old _ _ (by simpa using hlt)]
    simp [putRow, mapBlock, Sort.ahead, Array.getElem?_modify, hg, onCells]
  · have hq8 : q < 80 := by
      have := (List.getElem?_eq_some_iff.1 hq).1
      unfold flatS at this
      rw [Array.length_toList, hs] at this; exact this
    unfold flatS at hq
    rw [Array.getElem?_toList] at hq
    have hqc : q < cur.size := by omega
    simp only [putCells, Array.getElem?_mapIdx, Array.getElem?_eq_getElem hqc, Option.map_some]
    rw [if_pos (by rw [hs]; omega), Nat.sub_zero]
    rw [getElem!_pos _ q (by rw [hs]; exact hq8)]
    rw [Array.getElem?_eq_getElem (by rw [hs]; exact hq8)] at hq
    simpa using hq
set_option maxHeartbeats 1000000 in
theorem c35 (w : World) : Calls Tryd.prog 35 #[.func (.func 46) #[] #[], .func (.func 37) #[] #[]] w fun e w' => ∃ g cap cur, e = .returned (.slice (some ⟨g, 0, none⟩) 40 cap) ∧ w.heap.size ≤ g ∧ 40 ≤ cap ∧
    w'.heap[g]? = some (.cells cur 23 (0, 0)) ∧ (∀ (q : Nat) (v : Value), flatS[q]? = some v → cur[q]? = some v) ∧ Below w.heap.size w w' := by
  have h44 := c44 w
  go_enter Tryd.func35, Tryd.ntmps35
  go_wp2_with (first
    | (go_at_call 44; refine h44.mono ?_; rintro e w1 ⟨v, rfl, hown, hb1⟩; rcases hown.2 with ⟨_, h0⟩ | ⟨g, cap, cur, rfl, hge, hg, hn, hm, hcs, htk⟩; (exact absurd h0 (by decide)))
    | (go_at_call 45; refine (c45 hg hcs hn htk).mono ?_; rintro e w2 ⟨rfl, hgr, cur', hg', hq'⟩))
  go_ret
  exact ⟨g, cap, cur', rfl, hge, hn, hg', hq', hb1.grown hgr hb1.size (fun k hk => by cases hk; exact hge)⟩
set_option maxHeartbeats 1000000 in
theorem c13 (w : World) : Calls Tryd.prog 13 #[] w fun e w' => ∃ g cap cur, e = .returned (.slice (some ⟨g, 0, none⟩) 40 cap) ∧ w.heap.size ≤ g ∧ 40 ≤ cap ∧
    w'.heap[g]? = some (.cells cur 23 (0, 0)) ∧ (∀ (q : Nat) (v : Value), flatS[q]? = some v → cur[q]? = some v) ∧ Below w.heap.size w w' := by
  have h36 := (callsIn_wide (n := 5)).1 (c36 Fence.wide 5 trivial rfl w)
  have h35 := c35 w
  go_enter Tryd.func13, Tryd.ntmps13
  go_wp2_with (first
    | (go_at_call 36; refine h36.mono ?_; rintro e w1 ⟨rfl, rfl⟩)
    | (go_at_call 35; refine h35.mono ?_; rintro e w2 ⟨g, cap, cur, rfl, h1, h2, h3, h4, h5⟩))
  go_ret
  exact ⟨g, cap, cur, rfl, h1, h2, h3, h4, h5⟩
theorem fm2 {α : Type} (f g : α → Value) : ∀ (l : List α) (k : Nat) (x : α), l[k]? = some x → (l.flatMap fun i => [f i, g i])[k * 2]? = some (f x) ∧ (l.flatMap fun i => [f i, g i])[k * 2 + 1]? = some (g x)
  | a :: l, 0, x, h => by cases h; exact ⟨rfl, rfl⟩
  | a :: l, k + 1, x, h => by
    have := fm2 f g l k x (by simpa using h)
    rw [show (k + 1) * 2 = k * 2 + 1 + 1 by omega]
    simpa [List.flatMap_cons] using this
theorem flatS_at {i j : Nat} (hi : i < 40) (hj : j < 2) : flatS[i * 2 + j]? = [Value.int .i64 (AV i).1, .int .i64 (AV i).2][j]? := by
  obtain ⟨h0, h1⟩ := fm2 (fun i => Value.int .i64 (AV i).1) (fun i => Value.int .i64 (AV i).2) (List.range 40) i i (by simp [hi])
  rw [flatS_eq]
  rcases (by omega : j = 0 ∨ j = 1) with rfl | rfl
  · exact h0
  · exact h1
theorem row_flatS (w : World) (S : Nat → Nat → Prop) : Row w S 2 rowsA flatS := by
  have hl : flatS.length = 80 := by rw [flatS_eq]; rfl
  refine ⟨hl, fun i e he => ?_, fun q v hq => ?_, fun i e j p he hp => ?_⟩
  · have hi : i < 40 := by have := (List.getElem?_eq_some_iff.1 he).1; rwa [rowsA_len] at this
    rw [rowsA_at hi] at he; cases he; rfl
  · have hq8 : q < 80 := by have := (List.getElem?_eq_some_iff.1 hq).1; rwa [hl] at this
    have := flatS_at (i := q / 2) (j := q % 2) (by omega) (by omega)
    rw [show q / 2 * 2 + q % 2 = q by omega, hq] at this
    rcases (by omega : q % 2 = 0 ∨ q % 2 = 1) with e | e <;> (rw [e] at this; simp at this; subst this; rfl)
  · have hi : i < 40 := by have := (List.getElem?_eq_some_iff.1 he).1; rwa [rowsA_len] at this
    rw [rowsA_at hi] at he; cases he
    have hj : j < 2 := (List.getElem?_eq_some_iff.1 hp).1
    rw [flatS_at hi hj]
    rcases (by omega : j = 0 ∨ j = 1) with rfl | rfl
    · simp [cV] at hp; subst hp; exact ⟨_, rfl, .int _ _⟩
    · simp [cV] at hp; subst hp; exact ⟨_, rfl, .int _ _⟩
theorem meets13 (W0 : World) : OkAt W0 13 F13 := by
  refine ⟨enterable_of Tryd.func13 (by kernel_rfl), ?_⟩
  intro C args vs r' H' hF I J hr
  simp only [specFn] at hF
  split at hF
  · rename_i as1 has
    split at hF
    · rename_i r hFr
      have hra := purL_rel has hr
      unfold F13 at hFr
      split at hFr
      · cases hFr
        have : vs = [] := by simpa using hra.1
        subst this
        have hF' : (SV.pv (.slice 2 rowsA), C.H) = (r', H') := by simpa [placeR, placeL, place, pcells, pcell] using hF
        cases hF'
        refine (c13 C.w).mono ?_
        rintro e w' ⟨g, cap, cur, rfl, h1, h2, h3, h4, h5⟩
        obtain ⟨C', e1, hg⟩ := row_below I h5 h3 h1 (row_flatS C.w C.S) h4 (by rw [rowsA_len]; exact h2)
        exact ⟨_, C', rfl, e1, hg⟩
      · cases hFr
    · cases hF
  · cases hF
end Go.Proofs.YtngapiffgoignaaDoor
