/- Durations divided: the strongest tick, by the machine. -/
import Derived.Test.YtooajpojikkkdaaDoorMetreI
set_option linter.unusedSimpArgs false
set_option linter.unusedVariables false
set_option maxRecDepth 1000000
set_option maxHeartbeats 400000
namespace Go.Proofs.YtooajpojikkkdaaDoor
open Go Go.Pm Go.RowKit
/-- The earliest tick with the strongest level. -/
def strR (lv : Int → Int) (b : Int) : Nat → Int → Int × Int → Int × Int
  | 0, _, s => s
  | r + 1, t, s => if t < b then strR lv b r (t + 7560) (if lv t < s.2 then (t, lv t) else s) else s
noncomputable def T56 : FuncId → Option Pm.Spec := tab [(22, .pure false F22)]
theorem T56_eq (g : Nat) : T56 g = tab [(22, .pure false F22)] g := rfl
theorem loop56 {F : List Fr} {P : SV × List Blk → Prop} {rs : List ResultVar} (c u g0 g1 g2 g3 g4 g5 b : Int) (h : okM c u [g0, g1, g2, g3, g4, g5]) (hb : b ≤ 4398046511104) : ∀ (r : Nat) (t x y : Int), 0 ≤ t → t ≤ 4398046519000 → b ≤ t + 7560 * r →
    (X Y T56 rs F (.exit 0) ⟨mk 27 .J [(6, .i (strR (levelZ c u [g0, g1, g2, g3, g4, g5]) b r t (x, y)).1), (7, .i (strR (levelZ c u [g0, g1, g2, g3, g4, g5]) b r t (x, y)).2)], [.box (M8 c u g0 g1 g2 g3 g4 g5)]⟩ P) →
    X Y T56 rs F (.loop (loopN Tryd.f56 0)) ⟨mk 27 .J [(2, .i b), (3, .ptr 0 0), (6, .i x), (7, .i y), (8, .i t)], [.box (M8 c u g0 g1 g2 g3 g4 g5)]⟩ P := by
  intro r
  induction r with
  | zero =>
    intro t x y ht hu e hx
    have q2 : ¬ t < b := by omega
    apply X_loop_of
    · simp only [loopN, Tryd.f56, loopsOf, List.nil_append, List.append_nil, List.cons_append, List.getD_cons_succ, List.getD_cons_zero]; rfl
    simp [-Int.not_lt, -Int.not_le, q2]
    refine X_keep hx ?_
    simp [strR]
  | succ r ih =>
    intro t x y ht hu e hx
    apply X_loop_of
    · simp only [loopN, Tryd.f56, loopsOf, List.nil_append, List.append_nil, List.cons_append, List.getD_cons_succ, List.getD_cons_zero]; rfl
    by_cases q2 : t < b
    · have q3 : IntKind.i64.wrap (t + 7560) = t + 7560 := wrap64 (by omega) (by omega)
      rw [strR, if_pos q2] at hx
      simp [-Int.not_lt, -Int.not_le, q2, q3, T56_eq, F22, h, ht]
      refine ⟨fun hl => ?_, fun hl => ?_⟩
      · rw [if_pos hl] at hx
        refine X_keep (ih (t + 7560) _ _ (by omega) (by omega) (by omega) hx) ?_
        simp
      · rw [if_neg hl] at hx
        refine X_keep (ih (t + 7560) _ _ (by omega) (by omega) (by omega) hx) ?_
        simp
    · rw [strR, if_neg q2] at hx
      simp [-Int.not_lt, -Int.not_le, q2]
      refine X_keep hx ?_
      simp
/-- The strongest tick strictly within, and its level; 99 if there is none. -/
def strZ (lv : Int → Int) (a b : Int) : Int × Int := strR lv b 2049 (a + 7560) (0, 99)
/-- The ticks of which this chapter speaks. -/
def domS (a b : Int) : Prop := 0 ≤ a ∧ a ≤ b ∧ b ≤ 4398046511104 ∧ b - a ≤ 15482880
instance (a b : Int) : Decidable (domS a b) := inferInstanceAs (Decidable (_ ∧ _))
theorem x56 (c u g0 g1 g2 g3 g4 g5 a b : Int) (h : okM c u [g0, g1, g2, g3, g4, g5]) (hd : domS a b) : XFn Y T56 Tryd.f56 [.agg (M8 c u g0 g1 g2 g3 g4 g5), .i a, .i b] []
    (Is (.tuple [.i (strZ (levelZ c u [g0, g1, g2, g3, g4, g5]) a b).1, .i (strZ (levelZ c u [g0, g1, g2, g3, g4, g5]) a b).2])) := by
  unfold XFn Tryd.f56
  rw [enter_3 _ (by decide)]
  obtain ⟨d1, d2, d3, d4⟩ := hd
  have q3 : IntKind.i64.wrap (a + 7560) = a + 7560 := wrap64 (by omega) (by omega)
  simp [-Int.not_lt, -Int.not_le, q3]
  refine X_keep (loop56 c u g0 g1 g2 g3 g4 g5 b h d3 2049 (a + 7560) 0 99 (by omega) (by omega) (by omega) ?_) ?_
  · simp [strZ]
  · simp
def F56 : List SV → Option SV
  | [.agg [.pv (.int .i64 c), .pv (.int .i64 u), .pv (.int .i64 g0), .pv (.int .i64 g1), .pv (.int .i64 g2), .pv (.int .i64 g3), .pv (.int .i64 g4), .pv (.int .i64 g5)], .pv (.int .i64 a), .pv (.int .i64 b)] =>
    if okM c u [g0, g1, g2, g3, g4, g5] ∧ domS a b then some (.tuple [.i (strZ (levelZ c u [g0, g1, g2, g3, g4, g5]) a b).1, .i (strZ (levelZ c u [g0, g1, g2, g3, g4, g5]) a b).2]) else none
  | _ => none
theorem meets56 (W0 : World) : OkAt W0 56 F56 := meets_fn env (tok_cons (meets22 W0) tok_nil) mixed Tryd.func56 (by kernel_rfl) (by kernel_rfl) fun args r h => by
  unfold F56 at h
  split at h
  · split at h
    · cases h; rename_i hu; exact x56 _ _ _ _ _ _ _ _ _ _ hu.1 hu.2
    · cases h
  · cases h
/-- The program's: with 'ok'. -/
def strP (s : Int × Int) : Int × Int × Bool := if s.2 = 99 then (0, 0, false) else (s.1, s.2, true)
theorem sub_range (u t : Int) : ∀ (r k : Nat), k + r ≤ 9 → 0 ≤ subZ u t r k ∧ subZ u t r k ≤ 15
  | 0, k, _ => by simp [subZ]
  | r + 1, k, h => by
    rw [subZ]
    split
    · omega
    · exact sub_range u t r (k + 1) (by omega)
theorem level_range (c u : Int) (gs : List Int) (a : Int) : 0 ≤ levelZ c u gs a ∧ levelZ c u gs a ≤ 15 := by
  unfold levelZ
  have := sub_range u (inM c u a) 9 0 (by omega)
  repeat' split
  all_goals omega
noncomputable def T54 : FuncId → Option Pm.Spec := tab [(41, .pure false F22)]
theorem T54_eq (g : Nat) : T54 g = tab [(41, .pure false F22)] g := rfl
theorem loop54 {F : List Fr} {P : SV × List Blk → Prop} {rs : List ResultVar} (c u g0 g1 g2 g3 g4 g5 b : Int) (h : okM c u [g0, g1, g2, g3, g4, g5]) (hb : b ≤ 4398046511104) : ∀ (r : Nat) (t : Int) (s : Int × Int), s = (0, 99) ∨ s.2 ≤ 15 → 0 ≤ t → t ≤ 4398046519000 → b ≤ t + 7560 * r →
    (X Y T54 rs F (.exit 0) ⟨mk 33 .J [(6, .i (strP (strR (levelZ c u [g0, g1, g2, g3, g4, g5]) b r t s)).1), (7, .i (strP (strR (levelZ c u [g0, g1, g2, g3, g4, g5]) b r t s)).2.1), (8, .bool (strP (strR (levelZ c u [g0, g1, g2, g3, g4, g5]) b r t s)).2.2)], [.box (M8 c u g0 g1 g2 g3 g4 g5)]⟩ P) →
    X Y T54 rs F (.loop (loopN Tryd.f54 0)) ⟨mk 33 .J [(2, .i b), (3, .ptr 0 0), (6, .i (strP s).1), (7, .i (strP s).2.1), (8, .bool (strP s).2.2), (9, .i t)], [.box (M8 c u g0 g1 g2 g3 g4 g5)]⟩ P := by
  intro r
  induction r with
  | zero =>
    intro t s hs ht hu e hx
    have q2 : ¬ t < b := by omega
    apply X_loop_of
    · simp only [loopN, Tryd.f54, loopsOf, List.nil_append, List.append_nil, List.cons_append, List.getD_cons_succ, List.getD_cons_zero]; rfl
    simp [-Int.not_lt, -Int.not_le, q2]
    refine X_keep hx ?_
    simp [strR]
  | succ r ih =>
    intro t s hs ht hu e hx
    apply X_loop_of
    · simp only [loopN, Tryd.f54, loopsOf, List.nil_append, List.append_nil, List.cons_append, List.getD_cons_succ, List.getD_cons_zero]; rfl
    by_cases q2 : t < b
    · have q3 : IntKind.i64.wrap (t + 7560) = t + 7560 := wrap64 (by omega) (by omega)
      have hr := level_range c u [g0, g1, g2, g3, g4, g5] t
      rw [strR, if_pos q2] at hx
      have new_ : strP (t, levelZ c u [g0, g1, g2, g3, g4, g5] t) = (t, levelZ c u [g0, g1, g2, g3, g4, g5] t, true) := by
        unfold strP; rw [if_neg (by simp only []; omega)]
      have ihn := ih (t + 7560) (t, levelZ c u [g0, g1, g2, g3, g4, g5] t) (.inr hr.2) (by omega) (by omega) (by omega)
      rw [new_] at ihn
      rcases hs with rfl | hs
      · rw [if_pos (by simp only []; omega)] at hx
        have e0 : strP (0, 99) = (0, 0, false) := rfl
        simp [-Int.not_lt, -Int.not_le, q2, q3, T54_eq, F22, h, ht, e0]
        refine X_keep (ihn hx) ?_
        simp
      · have e1 : strP s = (s.1, s.2, true) := by unfold strP; rw [if_neg (by omega)]
        have iho := ih (t + 7560) s (.inr hs) (by omega) (by omega) (by omega)
        rw [e1] at iho ⊢
        simp [-Int.not_lt, -Int.not_le, q2, q3, T54_eq, F22, h, ht]
        refine ⟨fun hl => ?_, fun hl => ?_⟩
        · rw [if_pos hl] at hx
          refine X_keep (ihn hx) ?_
          simp
        · rw [if_neg hl] at hx
          refine X_keep (iho hx) ?_
          simp
    · rw [strR, if_neg q2] at hx
      simp [-Int.not_lt, -Int.not_le, q2]
      refine X_keep hx ?_
      simp
theorem x54 (c u g0 g1 g2 g3 g4 g5 a b : Int) (h : okM c u [g0, g1, g2, g3, g4, g5]) (hd : domS a b) : XFn Y T54 Tryd.f54 [.agg (M8 c u g0 g1 g2 g3 g4 g5), .i a, .i b] []
    (Is (.tuple [.i (strP (strZ (levelZ c u [g0, g1, g2, g3, g4, g5]) a b)).1, .i (strP (strZ (levelZ c u [g0, g1, g2, g3, g4, g5]) a b)).2.1, .bool (strP (strZ (levelZ c u [g0, g1, g2, g3, g4, g5]) a b)).2.2])) := by
  unfold XFn Tryd.f54
  rw [enter_3 _ (by decide)]
  obtain ⟨d1, d2, d3, d4⟩ := hd
  have q3 : IntKind.i64.wrap (a + 7560) = a + 7560 := wrap64 (by omega) (by omega)
  simp [-Int.not_lt, -Int.not_le, q3]
  refine X_keep (loop54 c u g0 g1 g2 g3 g4 g5 b h d3 2049 (a + 7560) (0, 99) (.inl rfl) (by omega) (by omega) (by omega) ?_) ?_
  · simp [strZ]
  · simp [show strP (0, 99) = (0, 0, false) from rfl]
def F54 : List SV → Option SV
  | [.agg [.pv (.int .i64 c), .pv (.int .i64 u), .pv (.int .i64 g0), .pv (.int .i64 g1), .pv (.int .i64 g2), .pv (.int .i64 g3), .pv (.int .i64 g4), .pv (.int .i64 g5)], .pv (.int .i64 a), .pv (.int .i64 b)] =>
    if okM c u [g0, g1, g2, g3, g4, g5] ∧ domS a b then some (.tuple [.i (strP (strZ (levelZ c u [g0, g1, g2, g3, g4, g5]) a b)).1, .i (strP (strZ (levelZ c u [g0, g1, g2, g3, g4, g5]) a b)).2.1, .bool (strP (strZ (levelZ c u [g0, g1, g2, g3, g4, g5]) a b)).2.2]) else none
  | _ => none
theorem meets54 (W0 : World) : OkAt W0 54 F54 := meets_fn env (tok_cons (meets41 W0) tok_nil) mixed Tryd.func54 (by kernel_rfl) (by kernel_rfl) fun args r h => by
  unfold F54 at h
  split at h
  · split at h
    · cases h; rename_i hu; exact x54 _ _ _ _ _ _ _ _ _ _ hu.1 hu.2
    · cases h
  · cases h
end Go.Proofs.YtooajpojikkkdaaDoor
