/- Durations divided: what the program hands out, and the law's own functions, by the machine. -/
import Derived.Test.YtooajpojikkkdaaDoorMetreL
set_option linter.unusedSimpArgs false
set_option linter.unusedVariables false
set_option maxRecDepth 1000000
set_option maxHeartbeats 400000
namespace Go.Proofs.YtooajpojikkkdaaDoor
open Go Go.Pm Go.RowKit
theorem meets36f (W0 : World) (n : Nat) : OkAt W0 36 (F36 (n + 1)) :=
  meets_fn env (tok_cons (meets54 W0) (tok_cons (meets55 W0) (tok_cons (meets41 W0) (tok_cons (meets36 W0 n) tok_nil)))) mixed Tryd.func36 (by kernel_rfl) (by kernel_rfl) fun args r h => by
    unfold F36 at h
    split at h
    · split at h
      · rename_i hu
        rw [Option.map_eq_some_iff] at h
        obtain ⟨l, h1, rfl⟩ := h
        exact x36 n _ _ _ _ _ _ _ _ _ _ hu.1 hu.2 l h1
      · cases h
    · cases h
theorem meets37f (W0 : World) (n : Nat) : OkAt W0 37 (F36 (n + 1)) :=
  meets_fn env (tok_cons (meets56 W0) (tok_cons (meets57 W0) (tok_cons (meets22 W0) (tok_cons (meets37 W0 n) tok_nil)))) mixed Tryd.func37 (by kernel_rfl) (by kernel_rfl) fun args r h => by
    unfold F36 at h
    split at h
    · split at h
      · rename_i hu
        rw [Option.map_eq_some_iff] at h
        obtain ⟨l, h1, rfl⟩ := h
        exact x37 n _ _ _ _ _ _ _ _ _ _ hu.1 hu.2 l h1
      · cases h
    · cases h
theorem meets36p (W0 : World) : OkAt W0 36 Fsp := meets_of Fsp_36 (meets36f W0 2048)
theorem meets37p (W0 : World) : OkAt W0 37 Fsp := meets_of Fsp_36 (meets37f W0 2048)
/-- A list of note values as it stands in a caller. -/
def plainV : List (Int × Int) → SV
  | [] => .pv .nilSlice
  | [v] => .tight 2 (rowV [v])
  | l => .pv (.slice 2 (rowV l))
/-- and as an argument. -/
def argV : List (Int × Int) → SV
  | [] => .pv .nilSlice
  | l => .pv (.slice 2 (rowV l))
theorem place_plain (H : List Blk) (l : List (Int × Int)) : placeR false H (listSV l) = some (plainV l, H) := by
  match l with
  | [] => rfl
  | [v] => rfl
  | v :: w :: r => rfl
theorem place_again (fr : Bool) (H : List Blk) (l : List (Int × Int)) : place fr H (plainV l) = some (plainV l, H) := by
  match l with
  | [] => rfl
  | [v] => rfl
  | v :: w :: r => rfl
theorem live_plain (l : List (Int × Int)) : live (plainV l) = some (plainV l) := by
  match l with
  | [] => rfl
  | [v] => rfl
  | v :: w :: r => rfl
theorem pur_plain (l : List (Int × Int)) : pur (plainV l) = some (argV l) := by
  match l with
  | [] => rfl
  | [v] => rfl
  | v :: w :: r => rfl
theorem pur_arg (l : List (Int × Int)) : pur (argV l) = some (argV l) := by
  match l with
  | [] => rfl
  | v :: r => rfl
theorem out_plain2 (H : List Blk) (l : List (Int × Int)) (e : Int) : outR H (.tuple [plainV l, .i e]) = some (.tuple [plainV l, .i e]) := by
  match l with
  | [] => rfl
  | [v] => rfl
  | v :: w :: r => rfl
theorem live_arg (l : List (Int × Int)) : live (argV l) = some (argV l) := by
  match l with
  | [] => rfl
  | v :: r => rfl
theorem elems_plain (l : List (Int × Int)) : sliceElems (plainV l) = some (rowV l) ∧ strideOk 2 (plainV l) = true := by
  match l with
  | [] => exact ⟨rfl, rfl⟩
  | [v] => exact ⟨rfl, rfl⟩
  | v :: w :: r => exact ⟨rfl, rfl⟩
theorem elems_arg (l : List (Int × Int)) : sliceElems (argV l) = some (rowV l) ∧ strideOk 2 (argV l) = true := by
  match l with
  | [] => exact ⟨rfl, rfl⟩
  | v :: r => exact ⟨rfl, rfl⟩
theorem len_plain (l : List (Int × Int)) : aLen Y 26 (plainV l) = some l.length := by
  match l with
  | [] => rfl
  | [v] => rfl
  | v :: w :: r => simp [plainV, aLen, kindOf, rowV, sliceElems, show Y 26 = some ⟨.slice 36, 1, 24, [.nilSlice], []⟩ from rfl]
theorem len_arg (l : List (Int × Int)) : aLen Y 26 (argV l) = some l.length := by
  match l with
  | [] => rfl
  | v :: r => simp [argV, aLen, kindOf, rowV, sliceElems, show Y 26 = some ⟨.slice 36, 1, 24, [.nilSlice], []⟩ from rfl]
theorem rowV_at {l : List (Int × Int)} {m : Nat} (hm : m < l.length) : (rowV l)[m]? = some [.int .i64 (l.getD m (0, 0)).1, .int .i64 (l.getD m (0, 0)).2] := by
  simp [rowV, hm]
theorem at_arg {l : List (Int × Int)} {m : Nat} (hm : m < l.length) : aIndexAddr Y 26 (argV l) (m : Nat) = some (.cptr [.int .i64 (l.getD m (0, 0)).1, .int .i64 (l.getD m (0, 0)).2]) := by
  have hr := rowV_at hm
  have e1 : Y 26 = some ⟨.slice 36, 1, 24, [.nilSlice], []⟩ := rfl
  have e2 : Y 36 = some ⟨.struct [(0, 3), (1, 3)], 2, 16, [.int .i64 0, .int .i64 0], [.int .i64, .int .i64]⟩ := rfl
  match l, hm with
  | v :: r, hm =>
    simp only [argV, aIndexAddr, kindOf, e1, aElem, e2]
    rw [if_pos ⟨trivial, by omega⟩, Int.toNat_natCast, hr]; rfl
theorem at_plain {l : List (Int × Int)} {m : Nat} (hm : m < l.length) : aIndexAddr Y 26 (plainV l) (m : Nat) = some (.cptr [.int .i64 (l.getD m (0, 0)).1, .int .i64 (l.getD m (0, 0)).2]) := by
  have hr := rowV_at hm
  have e1 : Y 26 = some ⟨.slice 36, 1, 24, [.nilSlice], []⟩ := rfl
  have e2 : Y 36 = some ⟨.struct [(0, 3), (1, 3)], 2, 16, [.int .i64 0, .int .i64 0], [.int .i64, .int .i64]⟩ := rfl
  match l, hm with
  | [v], hm =>
    simp only [plainV, aIndexAddr, kindOf, e1, aElem, e2]
    rw [if_pos ⟨trivial, by omega⟩, Int.toNat_natCast, hr]; rfl
  | v :: w :: r, hm =>
    simp only [plainV, aIndexAddr, kindOf, e1, aElem, e2]
    rw [if_pos ⟨trivial, by omega⟩, Int.toNat_natCast, hr]; rfl
/-- What Split answers. -/
def splitR (c u : Int) (gs : List Int) (a b : Int) : List (Int × Int) × Int :=
  if chkM c u gs ≠ 0 then ([], chkM c u gs) else if a < 0 ∨ b < a ∨ 4398046511104 < b then ([], 2) else if a % 7560 ≠ 0 ∨ b % 7560 ≠ 0 then ([], 16) else if 15482880 < b - a then ([], 5) else (sp (levelZ c u gs) a b, 0)
noncomputable def T14 : FuncId → Option Pm.Spec := tab [(26, .pure false F26), (36, .pure false Fsp)]
theorem T14_eq (g : Nat) : T14 g = tab [(26, .pure false F26), (36, .pure false Fsp)] g := rfl
noncomputable def T15 : FuncId → Option Pm.Spec := tab [(17, .pure false F26), (37, .pure false Fsp)]
theorem T15_eq (g : Nat) : T15 g = tab [(17, .pure false F26), (37, .pure false Fsp)] g := rfl
theorem x14 (c u g0 g1 g2 g3 g4 g5 a b : Int) : XFn Y T14 Tryd.f14 [.agg (M8 c u g0 g1 g2 g3 g4 g5), .i a, .i b] [] (Is (.tuple [plainV (splitR c u [g0, g1, g2, g3, g4, g5] a b).1, .i (splitR c u [g0, g1, g2, g3, g4, g5] a b).2])) := by
  unfold XFn Tryd.f14
  rw [enter_3 _ (by decide)]
  obtain ⟨R, hR⟩ : ∃ R, splitR c u [g0, g1, g2, g3, g4, g5] a b = R := ⟨_, rfl⟩
  rw [hR]
  have hR' := hR
  unfold splitR at hR'
  by_cases h0 : chkM c u [g0, g1, g2, g3, g4, g5] = 0
  · have hok := okM_chk.2 h0
    by_cases h1 : a < 0 ∨ b < a ∨ 4398046511104 < b
    · rw [if_neg (by omega), if_pos h1] at hR'
      subst hR'
      simp [-Int.not_lt, -Int.not_le, T14_eq, F26, h0, plainV]
      omega
    · have a0 : ¬ a < 0 := by omega
      have a1 : ¬ b < a := by omega
      have a2 : ¬ 4398046511104 < b := by omega
      have m1 : a.tmod 7560 = a % 7560 := Int.tmod_eq_emod_of_nonneg (by omega)
      have m2 : b.tmod 7560 = b % 7560 := Int.tmod_eq_emod_of_nonneg (by omega)
      have q1 : IntKind.i64.wrap (b - a) = b - a := wrap64 (by omega) (by omega)
      by_cases h2 : a % 7560 ≠ 0 ∨ b % 7560 ≠ 0
      · rw [if_neg (by omega), if_neg h1, if_pos h2] at hR'
        subst hR'
        simp [-Int.not_lt, -Int.not_le, T14_eq, F26, h0, plainV, a0, a1, a2, m1, m2]
        omega
      · have b1 : a % 7560 = 0 := by omega
        have b2 : b % 7560 = 0 := by omega
        by_cases h3 : 15482880 < b - a
        · rw [if_neg (by omega), if_neg h1, if_neg h2, if_pos h3] at hR'
          subst hR'
          simp [-Int.not_lt, -Int.not_le, T14_eq, F26, h0, plainV, a0, a1, a2, m1, m2, b1, b2, q1, h3]
        · rw [if_neg (by omega), if_neg h1, if_neg h2, if_neg h3] at hR'
          subst hR'
          have hd : dom2 a b := ⟨⟨by omega, by omega, by omega, by omega⟩, b1, b2⟩
          have hf : Fsp [.agg (M8 c u g0 g1 g2 g3 g4 g5), .i a, .i b] = some (listSV (sp (levelZ c u [g0, g1, g2, g3, g4, g5]) a b)) := by simp [Fsp, hok, hd]
          simp [-outR, -Int.not_lt, -Int.not_le, T14_eq, F26, h0, a0, a1, a2, m1, m2, b1, b2, q1, h3]
          simp [-outR, -placeR, hf, place_plain, live_plain]
          exact out_plain2 _ _ _
  · rw [if_pos h0] at hR'
    subst hR'
    simp [-Int.not_lt, -Int.not_le, T14_eq, F26, h0, plainV]
theorem x15 (c u g0 g1 g2 g3 g4 g5 a b : Int) : XFn Y T15 Tryd.f15 [.agg (M8 c u g0 g1 g2 g3 g4 g5), .i a, .i b] [] (Is (.tuple [plainV (splitR c u [g0, g1, g2, g3, g4, g5] a b).1, .i (splitR c u [g0, g1, g2, g3, g4, g5] a b).2])) := by
  unfold XFn Tryd.f15
  rw [enter_3 _ (by decide)]
  obtain ⟨R, hR⟩ : ∃ R, splitR c u [g0, g1, g2, g3, g4, g5] a b = R := ⟨_, rfl⟩
  rw [hR]
  have hR' := hR
  unfold splitR at hR'
  by_cases h0 : chkM c u [g0, g1, g2, g3, g4, g5] = 0
  · have hok := okM_chk.2 h0
    by_cases h1 : a < 0 ∨ b < a ∨ 4398046511104 < b
    · rw [if_neg (by omega), if_pos h1] at hR'
      subst hR'
      simp [-Int.not_lt, -Int.not_le, T15_eq, F26, h0, plainV]
      omega
    · have a0 : ¬ a < 0 := by omega
      have a1 : ¬ b < a := by omega
      have a2 : ¬ 4398046511104 < b := by omega
      have m1 : a.tmod 7560 = a % 7560 := Int.tmod_eq_emod_of_nonneg (by omega)
      have m2 : b.tmod 7560 = b % 7560 := Int.tmod_eq_emod_of_nonneg (by omega)
      have q1 : IntKind.i64.wrap (b - a) = b - a := wrap64 (by omega) (by omega)
      by_cases h2 : a % 7560 ≠ 0 ∨ b % 7560 ≠ 0
      · rw [if_neg (by omega), if_neg h1, if_pos h2] at hR'
        subst hR'
        simp [-Int.not_lt, -Int.not_le, T15_eq, F26, h0, plainV, a0, a1, a2, m1, m2]
        omega
      · have b1 : a % 7560 = 0 := by omega
        have b2 : b % 7560 = 0 := by omega
        by_cases h3 : 15482880 < b - a
        · rw [if_neg (by omega), if_neg h1, if_neg h2, if_pos h3] at hR'
          subst hR'
          simp [-Int.not_lt, -Int.not_le, T15_eq, F26, h0, plainV, a0, a1, a2, m1, m2, b1, b2, q1, h3]
        · rw [if_neg (by omega), if_neg h1, if_neg h2, if_neg h3] at hR'
          subst hR'
          have hd : dom2 a b := ⟨⟨by omega, by omega, by omega, by omega⟩, b1, b2⟩
          have hf : Fsp [.agg (M8 c u g0 g1 g2 g3 g4 g5), .i a, .i b] = some (listSV (sp (levelZ c u [g0, g1, g2, g3, g4, g5]) a b)) := by simp [Fsp, hok, hd]
          simp [-outR, -Int.not_lt, -Int.not_le, T15_eq, F26, h0, a0, a1, a2, m1, m2, b1, b2, q1, h3]
          simp [-outR, -placeR, hf, place_plain, live_plain]
          exact out_plain2 _ _ _
  · rw [if_pos h0] at hR'
    subst hR'
    simp [-Int.not_lt, -Int.not_le, T15_eq, F26, h0, plainV]
def F14 : List SV → Option SV
  | [.agg [.pv (.int .i64 c), .pv (.int .i64 u), .pv (.int .i64 g0), .pv (.int .i64 g1), .pv (.int .i64 g2), .pv (.int .i64 g3), .pv (.int .i64 g4), .pv (.int .i64 g5)], .pv (.int .i64 a), .pv (.int .i64 b)] =>
    some (.tuple [plainV (splitR c u [g0, g1, g2, g3, g4, g5] a b).1, .i (splitR c u [g0, g1, g2, g3, g4, g5] a b).2])
  | _ => none
theorem meets14 (W0 : World) : OkAt W0 14 F14 := meets_fn env (tok_cons (meets26 W0) (tok_cons (meets36p W0) tok_nil)) mixed Tryd.func14 (by kernel_rfl) (by kernel_rfl) fun args r h => by
  unfold F14 at h
  split at h
  · cases h; exact x14 _ _ _ _ _ _ _ _ _ _
  · cases h
theorem meets15 (W0 : World) : OkAt W0 15 F14 := meets_fn env (tok_cons (meets17 W0) (tok_cons (meets37p W0) tok_nil)) mixed Tryd.func15 (by kernel_rfl) (by kernel_rfl) fun args r h => by
  unfold F14 at h
  split at h
  · cases h; exact x15 _ _ _ _ _ _ _ _ _ _
  · cases h
/-- Two lists compared. -/
theorem loop16 {F : List Fr} {P : SV × List Blk → Prop} (l k : List (Int × Int)) (hlen : l.length = k.length) (hl : l.length ≤ 100000) : ∀ (r m : Nat), m + r = l.length →
    ((l.drop m = k.drop m → X Y T0 [.tmp 4] F (.exit 0) ⟨mk 26 .J [], []⟩ P) ∧ (l.drop m ≠ k.drop m → P (.bool false, []))) →
    X Y T0 [.tmp 4] F (.loop (loopN Tryd.f16 0)) ⟨mk 26 .J [(0, argV l), (1, argV k), (5, .i (m : Nat))], []⟩ P := by
  intro r
  induction r with
  | zero =>
    intro m e hx
    have q2 : ¬ (m : Int) < (l.length : Int) := by omega
    have hx1 := hx.1 (by rw [List.drop_eq_nil_of_le (by omega), List.drop_eq_nil_of_le (by omega)])
    apply X_loop_of
    · simp only [loopN, Tryd.f16, loopsOf, List.nil_append, List.append_nil, List.cons_append, List.getD_cons_succ, List.getD_cons_zero]; rfl
    simp [-aLen, -aIndexAddr, -Int.not_lt, -Int.not_le, live_arg, len_arg, q2]
    refine X_keep hx1 ?_
    simp
  | succ r ih =>
    intro m e hx
    have hml : m < l.length := by omega
    have hmk : m < k.length := by omega
    have q2 : (m : Int) < (l.length : Int) := by omega
    have q3 := next_i (m := m) (by omega)
    have r1 := at_arg hml
    have r2 := at_arg hmk
    have e1 : l.drop m = l.getD m (0, 0) :: l.drop (m + 1) := by rw [List.drop_eq_getElem_cons hml]; simp [hml]
    have e2 : k.drop m = k.getD m (0, 0) :: k.drop (m + 1) := by rw [List.drop_eq_getElem_cons hmk]; simp [hmk]
    rw [e1, e2] at hx
    generalize l.getD m (0, 0) = p at *
    generalize k.getD m (0, 0) = q at *
    obtain ⟨p1, p2⟩ := p
    obtain ⟨q1, q4⟩ := q
    simp only [List.cons.injEq, Prod.mk.injEq, ne_eq] at hx
    apply X_loop_of
    · simp only [loopN, Tryd.f16, loopsOf, List.nil_append, List.append_nil, List.cons_append, List.getD_cons_succ, List.getD_cons_zero]; rfl
    simp [-aLen, -aIndexAddr, -Int.natCast_add, -Int.not_lt, -Int.not_le, live_arg, len_arg, q2, q3, r1, r2]
    refine ⟨fun h1 => ⟨fun h2 => ?_, fun h2 => ?_⟩, fun h1 => ?_⟩
    · subst h1; subst h2
      simp only [and_self, true_and] at hx
      refine X_keep (ih (m + 1) (by omega) hx) ?_
      simp
    · exact hx.2 (fun x => h2 x.1.2)
    · exact hx.2 (fun x => h1 x.1.1)
theorem x16 (l k : List (Int × Int)) (hl : l.length ≤ 100000) : XFn Y T0 Tryd.f16 [argV l, argV k] [] (Is (.bool (decide (l = k)))) := by
  unfold XFn Tryd.f16
  rw [enter_2 _ (by decide)]
  by_cases hlen : l.length = k.length
  · have q1 : (l.length : Int) = (k.length : Int) := by omega
    simp [-aLen, -aIndexAddr, live_arg, len_arg, q1]
    refine X_keep (loop16 l k hlen hl l.length 0 (by omega) ⟨fun h => ?_, fun h => ?_⟩) ?_
    · simp only [List.drop_zero] at h
      simp [h]
    · simp only [List.drop_zero] at h
      simp [h]
    · simp
  · have q1 : ¬ (l.length : Int) = (k.length : Int) := by omega
    have hne : l ≠ k := fun e => hlen (by rw [e])
    simp [-aLen, -aIndexAddr, live_arg, len_arg, q1, hne]
def unrowV : List (List PV) → Option (List (Int × Int))
  | [] => some []
  | [.int .i64 a, .int .i64 b] :: r => (unrowV r).map ((a, b) :: ·)
  | _ => none
def unV : SV → Option (List (Int × Int))
  | .pv .nilSlice => some []
  | .pv (.slice 2 es) => match unrowV es with
    | some (v :: r) => some (v :: r)
    | _ => none
  | _ => none
theorem unrowV_eq : ∀ {es : List (List PV)} {l : List (Int × Int)}, unrowV es = some l → es = rowV l
  | [], l, h => by simp [unrowV] at h; subst h; rfl
  | e :: r, l, h => by
    unfold unrowV at h
    split at h
    · rename_i h0; cases h0
    · rename_i a b r' h0
      cases h0
      cases hr : unrowV r with
      | none => simp [hr] at h
      | some l' => simp [hr] at h; subst h; rw [unrowV_eq hr]; rfl
    · cases h
theorem unrowV_row : ∀ (l : List (Int × Int)), unrowV (rowV l) = some l
  | [] => rfl
  | (a, b) :: r => by
    show (unrowV (rowV r)).map ((a, b) :: ·) = _
    rw [unrowV_row r]; rfl
theorem unV_eq {x : SV} {l : List (Int × Int)} (h : unV x = some l) : x = argV l := by
  unfold unV at h
  split at h
  · cases h; rfl
  · split at h
    · rename_i v r hr
      cases h
      rw [unrowV_eq hr]; rfl
    · cases h
  · cases h
theorem unV_arg (l : List (Int × Int)) : unV (argV l) = some l := by
  match l with
  | [] => rfl
  | v :: r =>
    simp only [argV, unV, unrowV_row]
def F16 : List SV → Option SV
  | [x, y] => match unV x, unV y with
    | some l, some k => if l.length ≤ 100000 then some (.bool (decide (l = k))) else none
    | _, _ => none
  | _ => none
theorem meets16 (W0 : World) : OkAt W0 16 F16 := meets_fn env tok_nil mixed Tryd.func16 (by kernel_rfl) (by kernel_rfl) fun args r h => by
  unfold F16 at h
  split at h
  · split at h
    · rename_i l k h1 h2
      split at h
      · rename_i hl
        cases h
        rw [unV_eq h1, unV_eq h2]
        exact x16 l k hl
      · cases h
    · cases h
  · cases h
end Go.Proofs.YtooajpojikkkdaaDoor
