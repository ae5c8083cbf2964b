/- Time signatures: the program's groups, beats and levels, by the machine. -/
import Derived.Test.YtooajpojikkkdaaDoorMetreF
set_option linter.unusedSimpArgs false
set_option linter.unusedVariables false
set_option maxRecDepth 1000000
set_option maxHeartbeats 400000
namespace Go.Proofs.YtooajpojikkkdaaDoor
open Go Go.Pm Go.RowKit
def F77 : List SV → Option SV
  | [.pv (.int .u64 1), .pv (.int .u64 n)] => if 0 ≤ n ∧ n ≤ 1000000 then some (.tuple [.pv (.int .u64 0), .pv (.int .u64 n)]) else none
  | _ => none
theorem meets77 (W0 : World) : OkAt W0 77 F77 := by
  refine ⟨enterable_of Tryd.func77 (by kernel_rfl), meets_lib fun C args vs r hF J hr => ?_⟩
  unfold F77 at hF
  split at hF
  · rename_i n
    split at hF
    · rename_i hn
      cases hF
      obtain ⟨u, us, rfl, h1, h2⟩ := hr.uncons
      obtain ⟨u2, us2, rfl, h3, h4⟩ := h2.uncons
      have : us2 = [] := by simpa using h4.1
      subst this
      cases h1 with | pv _ _ h1 =>
      cases h1
      cases h3 with | pv _ _ h3 =>
      cases h3
      obtain ⟨m, rfl⟩ : ∃ m : Nat, n = m := ⟨n.toNat, by omega⟩
      refine ⟨by simp [PlainR], (Any.bits_Mul Tryd.lays212 1 m (by omega) (by omega) C.w).mono ?_⟩
      rintro e w' ⟨rfl, rfl⟩
      refine ⟨_, rfl, Below.refl _ _, fun D => ?_⟩
      have e1 : 1 * m / 18446744073709551616 = 0 := Nat.div_eq_of_lt (by omega)
      have e2 : 1 * m % 18446744073709551616 = m := by rw [Nat.one_mul]; exact Nat.mod_eq_of_lt (by omega)
      rw [e1, e2]
      have : RelL D [SV.pv (.int .u64 0), .pv (.int .u64 m)] _ := RelL.cons (.pv _ _ (.int _ _)) (RelL.cons (.pv _ _ (.int _ _)) (RelL.nil D))
      exact .tuple _ _ this.1 this.2
    · cases hF
  · cases hF
/-- A row that is being filled. -/
def part (z : Int) (k m : Nat) : List SV := List.replicate k (.i z) ++ List.replicate m (.i 0)
theorem part_len (z : Int) (k m : Nat) : (part z k m).length = k + m := by simp [part]
theorem setCells_at : ∀ (vs cs : List SV) (off : Nat), off + vs.length ≤ cs.length → setCells cs off vs = cs.take off ++ vs ++ cs.drop (off + vs.length)
  | [], cs, off, h => by simp [setCells]
  | v :: r, cs, off, h => by
    simp only [List.length_cons] at h
    rw [setCells, setCells_at r (cs.set off v) (off + 1) (by simp; omega)]
    have e1 : (cs.set off v).take (off + 1) = cs.take off ++ [v] := by
      rw [List.take_add_one, List.take_set_of_le (by omega)]
      simp [show off < cs.length by omega]
    rw [e1, List.drop_set_of_lt (by omega)]
    simp only [List.append_assoc, List.singleton_append, List.length_cons, List.cons_append, List.nil_append]
    rw [show off + 1 + r.length = off + (r.length + 1) by omega]
theorem part_set (z : Int) (k m j : Nat) (hj : j ≤ m) : setCells (part z k m) k (List.replicate j (.i z)) = part z (k + j) (m - j) := by
  rw [setCells_at _ _ _ (by simp [part_len]; omega)]
  unfold part
  simp [List.take_append, List.drop_append]
theorem part_take (z : Int) (k m j : Nat) (hj : j ≤ k) : (part z k m).take j = List.replicate j (.i z) := by
  unfold part
  rw [List.take_append_of_le_length (by simp; omega), List.take_replicate, Nat.min_eq_left hj]
noncomputable def T65 : FuncId → Option Pm.Spec := tab [(77, .pure false F77)]
theorem T65_eq (g : Nat) : T65 g = tab [(77, .pure false F77)] g := rfl
theorem copy_part (z : Int) (k m : Nat) (hk : 0 < k) : aCopy Y [.box (part z k m)] 44 (.bsl 0 k m 1) (.bsl 0 0 k 1) = some (.i (min k m : Nat), [.box (part z (k + min k m) (m - min k m))]) := by
  have e1 : Y 44 = some ⟨.slice 3, 1, 24, [.nilSlice], []⟩ := rfl
  have e2 : Y 3 = some ty3 := rfl
  simp only [aCopy, kindOf, e1, e2, srcCells, List.getElem?_cons_zero]
  rw [if_pos (by refine ⟨trivial, ?_⟩; rw [part_len]; omega)]
  simp only [List.drop_zero, Nat.mul_one]
  rw [if_pos (by refine ⟨trivial, by decide, ?_⟩; rw [part_len]; omega)]
  rw [part_take z k m k (Nat.le_refl _), List.take_replicate, part_set z k m _ (by omega)]
  have : min (min k m) k = min k m := by omega
  rw [this]
  rfl
theorem loop65 {F : List Fr} {P : SV × List Blk → Prop} {rs : List ResultVar} (z : Int) (n : Nat) (hn : n ≤ 1000) : ∀ (r k : Nat), k + r = n → 0 < k →
    X Y T65 rs F (.exit 0) ⟨mk 48 .J [(7, .bsl 0 0 n 1)], [.box (part z n 0)]⟩ P →
    X Y T65 rs F (.loop (loopN Tryd.f65 0)) ⟨mk 48 .J [(7, .bsl 0 0 n 1), (8, .i (k : Nat))], [.box (part z k r)]⟩ P := by
  intro r
  induction r using Nat.strongRecOn with
  | _ r ih =>
    intro k e hk hx
    by_cases hr : r = 0
    · subst hr
      have e1 : k = n := by omega
      subst e1
      apply X_loop_of
      · simp only [loopN, Tryd.f65, loopsOf, List.nil_append, List.append_nil, List.cons_append, List.getD_cons_succ, List.getD_cons_zero]; rfl
      simp [-aCopy]
      refine X_keep hx ?_
      simp
    · have q2 : (k : Int) < (n : Int) := by omega
      have cp := copy_part z k r hk
      have q3 : IntKind.i64.wrap ((k : Int) + ((min k r : Nat) : Int)) = ((k + min k r : Nat) : Int) := by rw [show (k : Int) + ((min k r : Nat) : Int) = ((k + min k r : Nat) : Int) by omega]; exact wrap64 (by omega) (by omega)
      have e3 : n - k = r := by omega
      apply X_loop_of
      · simp only [loopN, Tryd.f65, loopsOf, List.nil_append, List.append_nil, List.cons_append, List.getD_cons_succ, List.getD_cons_zero]; rfl
      have q4 : k ≤ n := by omega
      have q5 : k < n := by omega
      simp [-aCopy, -Int.natCast_add, -Int.not_lt, -Int.not_le, q2, q3, q4, q5, e3, cp]
      refine X_keep (ih (r - min k r) (by omega) (k + min k r) (by omega) (by omega) hx) ?_
      simp
theorem make_part (z : Int) (n : Nat) (hn : n ≤ 1000) : aMakeSlice Y [] 44 (n : Nat) (n : Nat) = some (.bsl 0 0 n 1, [.box (part z 0 n)]) := by
  have e1 : Y 44 = some ⟨.slice 3, 1, 24, [.nilSlice], []⟩ := rfl
  have e2 : Y 3 = some ty3 := rfl
  have hf : ∀ m : Nat, (List.replicate m [SV.i 0]).flatten = List.replicate m (SV.i 0) := by
    intro m
    induction m with
    | zero => rfl
    | succ m ih => rw [List.replicate_succ, List.flatten_cons, ih]; rfl
  simp only [aMakeSlice, kindOf, e1, e2]
  rw [if_pos (by refine ⟨trivial, by omega, by omega, by omega, by decide⟩)]
  simp [part, hf]
theorem copy_one (z : Int) (n : Nat) (h1 : 1 ≤ n) : aCopy Y [.box (part z 0 n)] 44 (.bsl 0 0 n 1) (.pv (.slice 1 [[.int .i64 z]])) = some (.i 1, [.box (part z 1 (n - 1))]) := by
  have e1 : Y 44 = some ⟨.slice 3, 1, 24, [.nilSlice], []⟩ := rfl
  have e2 : Y 3 = some ty3 := rfl
  simp only [aCopy, kindOf, e1, e2, srcCells, List.getElem?_cons_zero]
  rw [if_pos trivial]
  simp only [Nat.mul_one]
  rw [if_pos (by refine ⟨trivial, by decide, ?_⟩; rw [part_len]; omega)]
  have : min (List.length [[PV.int .i64 z]]) n = 1 := by simp; omega
  rw [this]
  have h2 := part_set z 0 n 1 h1
  simp only [Nat.zero_add] at h2
  simp only [List.replicate_one] at h2
  simp [h2]
theorem pcells_ints (l : List Int) : pcells (l.map fun n => SV.i n) = some (l.map fun n => PV.int .i64 n) := by
  induction l with
  | nil => rfl
  | cons a r ih => simp [pcells, pcell, ih]
theorem chunks_ints : ∀ (l : List Int), chunks 1 l.length (l.map fun n => PV.int .i64 n) = rowI l
  | [] => rfl
  | a :: r => by
    show (_ : List (List PV)) = [PV.int .i64 a] :: rowI r
    rw [← chunks_ints r]
    simp [chunks]
/-- A row of ints out of a box, as a caller has it. -/
theorem out_ints {H : List Blk} {k off : Nat} {cs : List SV} (l : List Int) (hH : H[k]? = some (.box cs)) (hl : off + l.length ≤ cs.length) (hc : (cs.drop off).take l.length = l.map fun n => SV.i n) :
    outR H (.bsl k off l.length 1) = some (.pv (.slice 1 (rowI l))) := by
  show outP H (.bsl k off l.length 1) = _
  simp only [outP, hH, Nat.mul_one]
  rw [if_pos ⟨by decide, hl⟩, hc, pcells_ints]
  simp [chunks_ints]
theorem x65 (z : Int) (n : Nat) (h1 : 1 ≤ n) (hn : n ≤ 1000) : XFn Y T65 Tryd.f65 [.pv (.slice 1 [[.int .i64 z]]), .i (n : Nat)] [] (Is (.pv (.slice 1 (rowI (List.replicate n z))))) := by
  unfold XFn Tryd.f65
  rw [enter_2 _ (by decide)]
  have q1 : ¬ (n : Int) < 0 := by omega
  have q2 : IntKind.u64.wrap (n : Int) = n := by unfold IntKind.wrap; simp [IntKind.bits, IntKind.signed]; omega
  have q3 : IntKind.i64.wrap (n : Int) = n := wrap64 (by omega) (by omega)
  have q4 : (n : Int) ≤ 1000000 := by omega
  have q5 : ¬ (n : Int) > 9223372036854775807 := by omega
  have q6 : IntKind.u64.wrap 1 = 1 := rfl
  simp [-aCopy, -aMakeSlice, -outR, -Int.not_lt, -Int.not_le, T65_eq, F77, q1, q2, q3, q4, q5, q6, make_part z n hn, copy_one z n h1]
  refine X_keep (loop65 z n hn (n - 1) 1 (by omega) (by omega) ?_) ?_
  · simp [-outR]
    have h2 := out_ints (H := [.box (part z n 0)]) (k := 0) (off := 0) (cs := part z n 0) (List.replicate n z) rfl (by simp [part_len]) (by simp [part])
    simpa using h2
  · simp
def F65 : List SV → Option SV
  | [.pv (.slice 1 [[.int .i64 z]]), .pv (.int .i64 n)] => if 1 ≤ n ∧ n ≤ 1000 then some (.pv (.slice 1 (rowI (List.replicate n.toNat z)))) else none
  | _ => none
theorem meets65 (W0 : World) : OkAt W0 65 F65 := meets_fn env (tok_cons (meets77 W0) tok_nil) mixed Tryd.func65 (by kernel_rfl) (by kernel_rfl) fun args r h => by
  unfold F65 at h
  split at h
  · rename_i z n
    split at h
    · rename_i hn
      cases h
      have := x65 z n.toNat (by omega) (by omega)
      rw [show ((n.toNat : Nat) : Int) = n by omega] at this
      exact this
    · cases h
  · cases h
noncomputable def T44 : FuncId → Option Pm.Spec := tab [(63, .heap F63), (62, .heap (arunAll Y T62 Tryd.f62)), (65, .pure false F65)]
theorem T44_eq (g : Nat) : T44 g = tab [(63, .heap F63), (62, .heap (arunAll Y T62 Tryd.f62)), (65, .pure false F65)] g := rfl
theorem tok44 (W0 : World) : TOk Tryd.prog W0 T44 := tok_cons (meets63 W0) (tok_cons (meets62 W0) (tok_cons (meets65 W0) tok_nil))
theorem grp_shape {c u : Int} {gs : List Int} (h : okM c u gs) (h6 : gs.length = 6) (h0 : gs.getD 0 0 ≠ 0) : ∃ n, (2 ≤ n ∧ n ≤ 6) ∧ (∀ i, i < n → gs.getD i 0 ≠ 0) ∧ (∀ i, n ≤ i → gs.getD i 0 = 0) ∧ grpL c u gs = gs.take n := by
  have hrep : grpL c u gs = gs.takeWhile fun g => decide (0 < g) := by unfold grpL; rw [if_neg h0]
  have hg := h.2.2
  unfold grpB at hg
  have hne : ¬ gs = [0, 0, 0, 0, 0, 0] := by intro e; rw [e] at h0; simp at h0
  rw [decide_eq_false hne, Bool.false_or] at hg
  cases hf : gfold gs 0 0 0 with
  | none => rw [hf] at hg; cases hg
  | some st =>
    obtain ⟨s, n⟩ := st
    rw [hf] at hg
    simp at hg
    obtain ⟨a, b, d, e⟩ := gfold_pos gs 0 0 s n hf
    have happ := List.takeWhile_append_dropWhile (p := fun g => decide (0 < g)) (l := gs)
    have hlen : (gs.takeWhile fun g => decide (0 < g)).length ≤ 6 := by rw [← h6]; exact (List.takeWhile_prefix _).length_le
    have htail : ∀ g ∈ gs.dropWhile (fun g => decide (0 < g)), g = 0 := by
      intro g hgm
      have e1 : gs.filter (fun g => !(g == 0)) = (gs.takeWhile fun g => decide (0 < g)).filter (fun g => !(g == 0)) ++ (gs.dropWhile fun g => decide (0 < g)).filter (fun g => !(g == 0)) := by
        rw [← List.filter_append, happ]
      rw [e] at e1
      have e2 : (gs.takeWhile fun g => decide (0 < g)).filter (fun g => !(g == 0)) = gs.takeWhile fun g => decide (0 < g) := by
        rw [List.filter_eq_self]
        intro x hx
        have := (d x hx).1
        simp; omega
      rw [e2] at e1
      have e3 : (gs.dropWhile fun g => decide (0 < g)).filter (fun g => !(g == 0)) = [] := by
        have := congrArg List.length e1
        simp only [List.length_append] at this
        exact List.length_eq_zero_iff.1 (by omega)
      rw [List.filter_eq_nil_iff] at e3
      have := e3 g hgm
      simpa using this
    rw [hrep]
    generalize (gs.takeWhile fun g => decide (0 < g)) = p at *
    generalize (gs.dropWhile fun g => decide (0 < g)) = q at *
    refine ⟨p.length, by omega, fun i hi => ?_, fun i hi => ?_, ?_⟩
    · have hm : gs.getD i 0 = p.getD i 0 := by rw [← happ]; simp [List.getD, List.getElem?_append_left hi]
      rw [hm]
      have := (d _ (by simp [List.getD, hi] : p.getD i 0 ∈ _)).1
      omega
    · have hm : gs.getD i 0 = q.getD (i - p.length) 0 := by rw [← happ]; simp [List.getD, List.getElem?_append_right hi]
      rw [hm]
      by_cases hlt : i - p.length < q.length
      · exact htail _ (by simp [List.getD, hlt])
      · simp [List.getD, List.getElem?_eq_none (Nat.le_of_not_lt hlt)]
    · rw [← happ]; simp
theorem x44 (c u g0 g1 g2 g3 g4 g5 : Int) (h : okM c u [g0, g1, g2, g3, g4, g5]) : XFn Y T44 Tryd.f44 [.agg (M8 c u g0 g1 g2 g3 g4 g5)] [] (Is (.pv (.slice 1 (rowI (grpL c u [g0, g1, g2, g3, g4, g5]))))) := by
  unfold XFn Tryd.f44
  rw [enter_1 _ (by decide)]
  obtain ⟨hc, hu, hg⟩ := h
  rcases grp_first hg with hz | hp
  · simp only [List.cons.injEq, and_true] at hz
    obtain ⟨rfl, rfl, rfl, rfl, rfl, rfl⟩ := hz
    have c3 : c.tmod 3 = c % 3 := by rw [Int.tmod_eq_emod_of_nonneg (by omega)]
    have c4 : c.tdiv 3 = c / 3 := by rw [Int.tdiv_eq_ediv_of_nonneg (by omega)]
    have c5 : IntKind.i64.wrap (c / 3) = c / 3 := wrap64 (by omega) (by omega)
    have c6 : c ≤ 1000 := by omega
    have c7 : c / 3 ≤ 1000 := by omega
    simp [-outR, -Int.not_lt, -Int.not_le, T44_eq, F65, c3, c4, c5, c6, c7, hc.1]
    refine ⟨fun h8 => ⟨fun h3 => ?_, fun h3 => ?_⟩, fun h8 => ?_⟩
    · have h1 : 1 ≤ c / 3 := by omega
      simp [grpL, sizeZ, h8, h3, h1]
    · simp [grpL, sizeZ, h3]
    · simp [grpL, sizeZ, h8]
  · have h0 : g0 ≠ 0 := by omega
    obtain ⟨n, hn, hp1, hz1, hgr⟩ := grp_shape (gs := [g0, g1, g2, g3, g4, g5]) ⟨hc, hu, hg⟩ rfl (by simpa using h0)
    have hx := x62 (.box (M8 c u g0 g1 g2 g3 g4 g5)) [g0, g1, g2, g3, g4, g5] n rfl hn hp1 hz1
    obtain ⟨r, H', hx1, hx2⟩ := all_of_XFn (by rfl) hx
    rw [hx2] at hx1
    have hb : (g0 == 0 && (g1 == 0 && (g2 == 0 && (g3 == 0 && (g4 == 0 && g5 == 0))))) = false := by simp [h0]
    simp at hx1
    have ho := out_ints (H := [.box (M8 c u g0 g1 g2 g3 g4 g5), .box [.i g0, .i g1, .i g2, .i g3, .i g4, .i g5]]) (k := 1) (off := 0) ([g0, g1, g2, g3, g4, g5].take n) rfl (by simp; omega) (by
      have : ([g0, g1, g2, g3, g4, g5].take n).length = n := by simp; omega
      rw [this, List.map_take]; rfl)
    have hl : ([g0, g1, g2, g3, g4, g5].take n).length = n := by simp; omega
    rw [hl] at ho
    simp [-outR, T44_eq, F63, unints, hb, hx1]
    rw [ho, hgr]
def F44 : List SV → Option SV
  | [.agg [.pv (.int .i64 c), .pv (.int .i64 u), .pv (.int .i64 g0), .pv (.int .i64 g1), .pv (.int .i64 g2), .pv (.int .i64 g3), .pv (.int .i64 g4), .pv (.int .i64 g5)]] =>
    if okM c u [g0, g1, g2, g3, g4, g5] then some (.pv (.slice 1 (rowI (grpL c u [g0, g1, g2, g3, g4, g5])))) else none
  | _ => none
theorem meets44 (W0 : World) : OkAt W0 44 F44 := meets_fn env (tok44 W0) mixed Tryd.func44 (by kernel_rfl) (by kernel_rfl) fun args r h => by
  unfold F44 at h
  split at h
  · split at h
    · cases h; rename_i hu; exact x44 _ _ _ _ _ _ _ _ hu
    · cases h
  · cases h
end Go.Proofs.YtooajpojikkkdaaDoor
