/- Time signatures: the program's groups and beats, by the machine. -/
import Derived.Test.YtooajpojikkkdaaDoorMetreE
import Derived.Test.YtooajpojikkkdaaDoorShelf
set_option linter.unusedSimpArgs false
set_option linter.unusedVariables false
set_option maxRecDepth 1000000
set_option maxHeartbeats 400000
namespace Go.Proofs.YtooajpojikkkdaaDoor
open Go Go.Pm Go.RowKit
/-- Cells that are ints. -/
def unints : List SV → Option (List Int)
  | [] => some []
  | .pv (.int .i64 n) :: r => (unints r).map (n :: ·)
  | _ => none
theorem unints_eq : ∀ {cs : List SV} {l : List Int}, unints cs = some l → cs = l.map fun n => .i n
  | [], l, h => by simp [unints] at h; subst h; rfl
  | c :: r, l, h => by
    unfold unints at h
    split at h
    · rename_i h0; cases h0
    · rename_i n r' h0
      cases h0
      cases hr : unints r with
      | none => simp [hr] at h
      | some l' => simp [hr] at h; subst h; rw [unints_eq hr]; rfl
    · cases h
def F63 : List SV → List Blk → Option (SV × List Blk)
  | [.bsl k off len 1], H => match H[k]? with
    | some (.box cs) => if 0 < len ∧ off + len ≤ cs.length ∧ len ≤ 100000 then
        match unints ((cs.drop off).take len) with
        | some l => some (.bsl H.length 0 len 1, H ++ [.box (l.map fun n => .i n)])
        | none => none
      else none
    | _ => none
  | _, _ => none
theorem meets63 (W0 : World) : Enterable Tryd.prog 63 ∧ Meets Tryd.prog W0 63 (specFn (.heap F63)) := by
  refine ⟨enterable_of Tryd.func63 (by kernel_rfl), ?_⟩
  intro C args vs r H' hF I J hr
  simp only [specFn] at hF
  unfold F63 at hF
  split at hF
  · rename_i H0 k off len
    split at hF
    · rename_i cs hH
      split at hF
      · rename_i hc
        obtain ⟨hpos, hfit, hbig⟩ := hc
        split at hF
        · rename_i l hl
          cases hF
          obtain ⟨u, us, rfl, h1, h2⟩ := hr.uncons
          have : us = [] := by simpa using h2.1
          subst this
          cases h1 with | bsl _ _ _ _ cap cs' g hH' hG hcap =>
          have e1 : cs' = cs := by rw [hH] at hH'; cases hH'; rfl
          subst e1
          obtain ⟨arr, T, hg, hsz, hrel, hone⟩ := I.box k cs' g hH hG
          have hcs := unints_eq hl
          have hll : l.length = len := by
            have := congrArg List.length hcs
            simp at this; omega
          have hcell : ∀ j, j < l.length → C.w.cell? ⟨g.blk, off + j, none⟩ = some (.int .i64 (l.getD j 0)) := by
            intro j hj
            have h3 : ((cs'.drop off).take len)[j]? = some (.i (l.getD j 0)) := by rw [hcs]; simp [hj]
            rw [List.getElem?_take, if_pos (by omega), List.getElem?_drop] at h3
            have hlt : off + j < arr.size := by omega
            have h4 := hrel (off + j) _ arr[off + j] h3 (by simp [hlt])
            rw [cell_of_row _ _ _ _ _ _ hg]
            simp only [hlt, getElem?_pos]
            generalize arr[off + j] = q at h4
            cases h4 with | pv _ _ h4 => cases h4; rfl
          refine (Any.slices_Clone_int Tryd.laysNm215 g.blk off len cap l C.w (by omega) (by omega) hcell).mono ?_
          rintro e w' ⟨v', rfl, hown, hne, hB⟩
          obtain ⟨hlx, hnil | ⟨g2, cap2, cur, rfl, hge, hg2, hn, hmx, hsz2, htake⟩⟩ := hown
          · omega
          · rw [show l.take len = l from List.take_of_length_le (by omega), Nat.mul_one] at htake
            have hcur : len ≤ cur.size := by omega
            obtain ⟨C', hw, hH2, hG2, hI2, hE2⟩ := box_below I hB hg2 hge (cs := l.map fun n => .i n) (by simp; omega) (fun j c u hj hu => by
              rw [List.getElem?_map] at hj
              cases hlj : l[j]? with
              | none => simp [hlj] at hj
              | some n =>
                simp [hlj] at hj
                subst hj
                have h5 : (cur.toList.take len)[j]? = some (.int .i64 n) := by rw [htake]; simp [hlj]
                have hjl := (List.getElem?_eq_some_iff.1 hlj).1
                rw [List.getElem?_take, if_pos (by omega)] at h5
                simp at h5 hu
                rw [hu] at h5
                cases h5
                exact .pv _ _ (.int _ _)) (fun j c hj => by
              obtain ⟨n, _, rfl⟩ := List.mem_map.1 (List.mem_of_getElem? hj); rfl)
            refine ⟨_, C', rfl, hw, hH2, hI2, hE2, ?_⟩
            exact .bsl C.H.length 0 len 1 cap2 (l.map fun n => .i n) ⟨g2, 0, 0, 0⟩ (by rw [hH2]; simp) (by rw [hG2, I.len]; simp) hn
        · cases hF
      · cases hF
    · cases hF
  · cases hF
def F64 : List SV → Option SV
  | [.pv (.int .i64 g)] => some (.bool (g == 0))
  | _ => none
theorem meets64 (W0 : World) : OkAt W0 64 F64 := meets_fn env tok_nil mixed Tryd.func64 (by kernel_rfl) (by kernel_rfl) fun args r h => by
  unfold F64 at h
  split at h
  · cases h
    unfold XFn Tryd.f64
    rw [enter_1 _ (by decide)]
    simp
  · cases h
noncomputable def T76 : FuncId → Option Pm.Spec := tab [(64, .pure false F64)]
theorem T76_eq (g : Nat) : T76 g = tab [(64, .pure false F64)] g := rfl
theorem meets76 (W0 : World) : Enterable Tryd.prog 76 ∧ Meets Tryd.prog W0 76 (specFn (.heap (arunAll Y T76 Tryd.f76))) := meets_heap env (tok_cons (meets64 W0) tok_nil) mixed Tryd.func76 (by kernel_rfl) (by kernel_rfl)
/-- The first zero. -/
theorem loop76 {F : List Fr} {P : SV × List Blk → Prop} {H : List Blk} {k : Nat} (l : List Int) (hl : l.length ≤ 100000) (hH : H[k]? = some (.box (l.map fun n => .i n))) : ∀ (r m : Nat), m + r = l.length →
    (idxFrom 0 (l.drop m) m = -1 → X Y T76 [.tmp 4] F (.exit 0) ⟨mk 19 .J [], H⟩ P) → (idxFrom 0 (l.drop m) m ≠ -1 → P (.i (idxFrom 0 (l.drop m) m), H)) →
    X Y T76 [.tmp 4] F (.loop (loopN Tryd.f76 0)) ⟨mk 19 .J [(0, .bsl k 0 l.length 1), (1, .pv (.fn 64)), (7, .i (l.length : Nat)), (8, .i (m : Nat))], H⟩ P := by
  intro r
  induction r with
  | zero =>
    intro m e hx hp
    have q2 : ¬ (m : Int) < (l.length : Int) := by omega
    rw [List.drop_eq_nil_of_le (by omega)] at hx
    apply X_loop_of
    · simp only [loopN, Tryd.f76, loopsOf, List.nil_append, List.append_nil, List.cons_append, List.getD_cons_succ, List.getD_cons_zero]; rfl
    simp [-Int.not_lt, -Int.not_le, rowI_len, q2]
    refine X_keep (hx rfl) ?_
    simp
  | succ r ih =>
    intro m e hx hp
    have hml : m < l.length := by omega
    have q2 : (m : Int) < (l.length : Int) := by omega
    have q3 := next_i (m := m) (by omega)
    have r1 : (l.map fun n => SV.i n)[m]? = some (.i (l.getD m 0)) := by simp [hml]
    rw [drop_row hml, idxFrom] at hx hp
    generalize l.getD m 0 = g at *
    apply X_loop_of
    · simp only [loopN, Tryd.f76, loopsOf, List.nil_append, List.append_nil, List.cons_append, List.getD_cons_succ, List.getD_cons_zero]; rfl
    simp [-Int.natCast_add, -Int.not_lt, -Int.not_le, q2, q3, r1, hH, rowI_len, -getElem?_pos, T76_eq, F64, -List.getElem?_map]
    refine ⟨fun h => ?_, fun h => ?_⟩
    · rw [if_pos (Eq.symm h)] at hp; exact hp (by omega)
    · rw [if_neg (fun e => h (Eq.symm e)), show (m : Int) + 1 = ((m + 1 : Nat) : Int) by omega] at hx hp
      refine X_keep (ih (m + 1) (by omega) hx hp) ?_
      simp
theorem x76 {H : List Blk} {k : Nat} (l : List Int) (hl : l.length ≤ 100000) (hH : H[k]? = some (.box (l.map fun n => .i n))) : XFn Y T76 Tryd.f76 [.bsl k 0 l.length 1, .pv (.fn 64)] H (fun x => x = (.i (idxFrom 0 l 0), H)) := by
  unfold XFn Tryd.f76
  rw [enter_2 _ (by decide)]
  simp [-Int.not_lt, -Int.not_le, rowI_len]
  refine X_keep (loop76 l hl hH l.length 0 (by omega) (fun h => ?_) (fun h => ?_)) ?_
  · rw [List.drop_zero] at h
    simp [show idxFrom 0 l 0 = -1 from h]
  · simp
  · simp
theorem all76 {H : List Blk} {k : Nat} (l : List Int) (hl : l.length ≤ 100000) (hH : H[k]? = some (.box (l.map fun n => .i n))) : arunAll Y T76 Tryd.f76 [.bsl k 0 l.length 1, .pv (.fn 64)] H = some (.i (idxFrom 0 l 0), H) := by
  obtain ⟨r, H', h1, h2⟩ := all_of_XFn (by rfl) (x76 l hl hH)
  rw [h1, h2]
noncomputable def T62 : FuncId → Option Pm.Spec := tab [(76, .heap (arunAll Y T76 Tryd.f76)), (64, .pure false F64)]
theorem T62_eq (g : Nat) : T62 g = tab [(76, .heap (arunAll Y T76 Tryd.f76)), (64, .pure false F64)] g := rfl
theorem meets62 (W0 : World) : Enterable Tryd.prog 62 ∧ Meets Tryd.prog W0 62 (specFn (.heap (arunAll Y T62 Tryd.f62))) := meets_heap env (tok_cons (meets76 W0) (tok_cons (meets64 W0) tok_nil)) mixed Tryd.func62 (by kernel_rfl) (by kernel_rfl)
theorem w3 : IntKind.i64.wrap 3 = 3 := rfl
theorem w4 : IntKind.i64.wrap 4 = 4 := rfl
theorem w5 : IntKind.i64.wrap 5 = 5 := rfl
theorem w6 : IntKind.i64.wrap 6 = 6 := rfl
/-- The groups and behind them zeros: the zeros go. -/
theorem x62 (b0 : Blk) (l : List Int) (n : Nat) (hl : l.length = 6) (h2 : 2 ≤ n ∧ n ≤ 6) (hp : ∀ i, i < n → l.getD i 0 ≠ 0) (hz : ∀ i, n ≤ i → l.getD i 0 = 0) :
    XFn Y T62 Tryd.f62 [.bsl 1 0 6 1, .pv (.fn 64)] [b0, .box (l.map fun n => .i n)] (fun x => x = (.bsl 1 0 n 1, [b0, .box (l.map fun n => .i n)])) := by
  obtain ⟨a0, a1, a2, a3, a4, a5, rfl⟩ : ∃ a0 a1 a2 a3 a4 a5, l = [a0, a1, a2, a3, a4, a5] := by
    match l, hl with
    | [a0, a1, a2, a3, a4, a5], _ => exact ⟨a0, a1, a2, a3, a4, a5, rfl⟩
  have hall := all76 (H := [b0, .box ([a0, a1, a2, a3, a4, a5].map fun n => .i n)]) (k := 1) [a0, a1, a2, a3, a4, a5] (by simp) rfl
  unfold XFn Tryd.f62
  rw [enter_2 _ (by decide)]
  have hn : n = 2 ∨ n = 3 ∨ n = 4 ∨ n = 5 ∨ n = 6 := by omega
  have p0 := hp 0 (by omega)
  have p1 := hp 1 (by omega)
  simp at p0 p1
  rcases hn with rfl | rfl | rfl | rfl | rfl
  · have z2 := hz 2 (by omega)
    have z3 := hz 3 (by omega)
    have z4 := hz 4 (by omega)
    have z5 := hz 5 (by omega)
    simp at z2 z3 z4 z5
    subst z2; subst z3; subst z4; subst z5
    simp [idxFrom, Ne.symm p0, Ne.symm p1] at hall
    simp [T62_eq, hall, F64, X_loop, w3, w4, w5, w6]
  · have p2 := hp 2 (by omega)
    have z3 := hz 3 (by omega)
    have z4 := hz 4 (by omega)
    have z5 := hz 5 (by omega)
    simp at p2 z3 z4 z5
    subst z3; subst z4; subst z5
    simp [idxFrom, Ne.symm p0, Ne.symm p1, Ne.symm p2] at hall
    simp [T62_eq, hall, F64, X_loop, w3, w4, w5, w6]
  · have p2 := hp 2 (by omega)
    have p3 := hp 3 (by omega)
    have z4 := hz 4 (by omega)
    have z5 := hz 5 (by omega)
    simp at p2 p3 z4 z5
    subst z4; subst z5
    simp [idxFrom, Ne.symm p0, Ne.symm p1, Ne.symm p2, Ne.symm p3] at hall
    simp [T62_eq, hall, F64, X_loop, w3, w4, w5, w6]
  · have p2 := hp 2 (by omega)
    have p3 := hp 3 (by omega)
    have p4 := hp 4 (by omega)
    have z5 := hz 5 (by omega)
    simp at p2 p3 p4 z5
    subst z5
    simp [idxFrom, Ne.symm p0, Ne.symm p1, Ne.symm p2, Ne.symm p3, Ne.symm p4] at hall
    simp [T62_eq, hall, F64, X_loop, w3, w4, w5, w6]
  · have p2 := hp 2 (by omega)
    have p3 := hp 3 (by omega)
    have p4 := hp 4 (by omega)
    have p5 := hp 5 (by omega)
    simp at p2 p3 p4 p5
    simp [idxFrom, Ne.symm p0, Ne.symm p1, Ne.symm p2, Ne.symm p3, Ne.symm p4, Ne.symm p5] at hall
    simp [T62_eq, hall]
end Go.Proofs.YtooajpojikkkdaaDoor
