/- The laws of flags, ticks, Find, texts, Parse and Scale, by the machine. -/
import Derived.Test.YtngapiffgoignaaDoorDurX
set_option linter.unusedSimpArgs false
set_option linter.unusedVariables false
set_option maxRecDepth 1000000
set_option maxHeartbeats 400000
namespace Go.Proofs.YtngapiffgoignaaDoor
open Go Go.Pm Go.RowKit
/-- DurationFlags. -/
noncomputable def T5 : FuncId → Option Pm.Spec := tab [(14, .pure false F14), (18, .pure false F18), (20, .pure false F20), (21, .pure false F21)]
theorem T5_eq (g : Nat) : T5 g = tab [(14, .pure false F14), (18, .pure false F18), (20, .pure false F20), (21, .pure false F21)] g := rfl
theorem tok5 {W0 : World} (L : Laid W0) : TOk Tryd.prog W0 T5 := tok_cons (meets14 L) (tok_cons (meets18 W0) (tok_cons (meets20 W0) (tok_cons (meets21 W0) tok_nil)))
theorem x5 (l d : Int) : XFn Y T5 Tryd.f5 [.agg [.i l, .i d]] [] (Is (.bool true)) := by
  unfold XFn Tryd.f5
  rw [enter_1 _ (by decide)]
  by_cases h : okV l d
  · have w1 : IntKind.i64.wrap (l - 2) = l - 2 := wrap64 (by unfold okV at h; omega) (by unfold okV at h; omega)
    by_cases h3 : 3 ≤ l
    · have hf : flgZ l d = l - 2 := by unfold flgZ; rw [if_pos ⟨h, h3⟩]
      simp [T5_eq, F14, F18, F20, F21, h, h3, w1, hf]
    · have hf : flgZ l d = 0 := by unfold flgZ; rw [if_neg (fun h' => h3 h'.2)]
      simp [T5_eq, F14, F18, F20, F21, h, h3, w1, hf]
  · have hf : flgZ l d = 0 := by unfold flgZ; rw [if_neg (fun h' => h h'.1)]
    simp [T5_eq, F14, F18, F20, F21, h, hf]
/-- DurationTicks. -/
noncomputable def T6 : FuncId → Option Pm.Spec := tab [(22, .pure false F22), (14, .pure false F14), (23, .pure false F23), (18, .pure false F18), (24, .pure false F24), (17, .pure false F38)]
theorem T6_eq (g : Nat) : T6 g = tab [(22, .pure false F22), (14, .pure false F14), (23, .pure false F23), (18, .pure false F18), (24, .pure false F24), (17, .pure false F38)] g := rfl
theorem tok6 {W0 : World} (L : Laid W0) : TOk Tryd.prog W0 T6 := tok_cons (meets22 W0) (tok_cons (meets14 L) (tok_cons (meets23 W0) (tok_cons (meets18 W0) (tok_cons (meets24 W0) (tok_cons (meets17 W0) tok_nil)))))
theorem find_tk {l d : Int} (h : okV l d) : findZ (tkZ (l, d)) = ((l, d), 0) := by
  have := find_at (ix_lt h)
  rw [AV_ix h] at this; exact this
theorem x6 (l d : Int) : XFn Y T6 Tryd.f6 [.agg [.i l, .i d]] [] (Is (.bool true)) := by
  unfold XFn Tryd.f6
  rw [enter_1 _ (by decide)]
  by_cases h : okV l d
  · have hf := find_tk h
    have f1 := F38_ok h
    have f2 : F22 [.agg [.i l, .i d]] = some (.tuple [.i (tkZ (l, d)), .i 0]) := by simp only [F22]; rw [if_pos h, if_pos h]
    simp [T6_eq, F14, F18, f2, F23, F24, h, hf, f1]
  · simp [T6_eq, F14, F18, F22, F23, F24, h]
/-- DurationFinds. -/
noncomputable def T7 : FuncId → Option Pm.Spec := tab [(24, .pure false F24), (25, .pure false F25), (14, .pure false F14)]
theorem T7_eq (g : Nat) : T7 g = tab [(24, .pure false F24), (25, .pure false F25), (14, .pure false F14)] g := rfl
theorem tok7 {W0 : World} (L : Laid W0) : TOk Tryd.prog W0 T7 := tok_cons (meets24 W0) (tok_cons (meets25 W0) (tok_cons (meets14 L) tok_nil))
theorem find_or (n : Int) : (findZ n).2 = 0 ∨ (findZ n).2 = 17 := by
  unfold findZ; split <;> simp
theorem x7 (n : Int) : XFn Y T7 Tryd.f7 [.i n] [] (Is (.bool true)) := by
  unfold XFn Tryd.f7
  rw [enter_1 _ (by decide)]
  rcases find_or n with h | h
  · simp [T7_eq, F14, F24, F25, h]
  · simp [T7_eq, F14, F24, F25, h]
/-- DurationParses. -/
noncomputable def T11 : FuncId → Option Pm.Spec := tab [(29, .pure false F29), (30, .pure false F29), (14, .pure false F14)]
theorem T11_eq (g : Nat) : T11 g = tab [(29, .pure false F29), (30, .pure false F29), (14, .pure false F14)] g := rfl
theorem tok11 {W0 : World} (L : Laid W0) : TOk Tryd.prog W0 T11 := tok_cons (meets29 L) (tok_cons (meets30 W0) (tok_cons (meets14 L) tok_nil))
theorem x11 (s : List UInt8) : XFn Y T11 Tryd.f11 [.str s] [] (Is (.bool true)) := by
  unfold XFn Tryd.f11
  rw [enter_1 _ (by decide)]
  by_cases h : s.length ≤ 20
  · have c1 : ¬ (20 : Int) < (s.length : Nat) := by omega
    simp [T11_eq, F14, F29, h, c1]
  · have c1 : (20 : Int) < (s.length : Nat) := by omega
    have c2 : 20 ≤ s.length := by omega
    simp [T11_eq, F14, F29, h, c1, c2]
/-- DurationTexts. -/
noncomputable def T12 : FuncId → Option Pm.Spec := tab [(31, .pure false F31), (32, .pure false F32), (14, .pure false F14), (18, .pure false F18), (29, .pure false F29), (33, .pure false F33), (34, .pure false F34)]
theorem T12_eq (g : Nat) : T12 g = tab [(31, .pure false F31), (32, .pure false F32), (14, .pure false F14), (18, .pure false F18), (29, .pure false F29), (33, .pure false F33), (34, .pure false F34)] g := rfl
theorem tok12 {W0 : World} (L : Laid W0) : TOk Tryd.prog W0 T12 := tok_cons (meets31 L) (tok_cons (meets32 W0) (tok_cons (meets14 L) (tok_cons (meets18 W0) (tok_cons (meets29 L) (tok_cons (meets33 W0) (tok_cons (meets34 W0) tok_nil))))))
theorem F34_ok {l d : Int} (h : okV l d) : F34 [.agg [.pv (.int .i64 l), .pv (.int .i64 d)]] = some (.str (nam (l, d))) := by
  simp only [F34]; rw [if_pos h]
theorem par_tx {l d : Int} (h : okV l d) : parZ (txt (l, d)) = ((l, d), 0) := by
  have h1 : ∀ i < 40, parZ (txt (AV i)) = (AV i, 0) := by decide +kernel
  have := h1 _ (ix_lt h)
  rw [AV_ix h] at this; exact this
theorem x12 (l d : Int) : XFn Y T12 Tryd.f12 [.agg [.i l, .i d]] [] (Is (.bool true)) := by
  unfold XFn Tryd.f12
  rw [enter_1 _ (by decide)]
  by_cases h : okV l d
  · have f1 := F33_ok h
    have f2 := F34_ok h
    have f3 := par_tx h
    have f4 : F31 [.agg [.i l, .i d]] = some (.tuple [.str (txt (l, d)), .i 0]) := by simp only [F31]; rw [if_pos h, if_pos h]
    have f5 : F32 [.agg [.i l, .i d]] = some (.tuple [.str (nam (l, d)), .i 0]) := by simp only [F32]; rw [if_pos h, if_pos h]
    simp [T12_eq, F14, F18, f4, f5, F29, h, f1, f2, f3]
  · simp [T12_eq, F14, F18, F31, F32, F29, h]
end Go.Proofs.YtngapiffgoignaaDoor
set_option linter.unusedSimpArgs false
set_option linter.unusedVariables false
set_option maxRecDepth 1000000
set_option maxHeartbeats 400000
namespace Go.Proofs.YtngapiffgoignaaDoor
open Go Go.Pm Go.RowKit
theorem tk_dbl {l d : Int} (h : okV l d) (h' : okV (l - 1) d) : 2 * tkZ (l, d) = tkZ (l - 1, d) := by
  have : ∀ a < 10, ∀ b < 4, okV ((a : Nat) - 1 - 1 : Int) (b : Nat) → 2 * tkZ ((a : Nat) - 1, (b : Nat)) = tkZ ((a : Nat) - 1 - 1, (b : Nat)) := by decide +kernel
  obtain ⟨a, rfl⟩ : ∃ a : Nat, l = (a : Int) - 1 := ⟨(l + 1).toNat, by unfold okV at h; omega⟩
  obtain ⟨b, rfl⟩ : ∃ b : Nat, d = (b : Int) := ⟨d.toNat, by unfold okV at h; omega⟩
  exact this a (by unfold okV at h; omega) b (by unfold okV at h; omega) h'
theorem tk_hlf {l d : Int} (h : okV l d) (h' : okV (l + 1) d) : Int.tdiv (tkZ (l, d)) 2 = tkZ (l + 1, d) := by
  have h2 : okV (l + 1 - 1) d := by rw [Int.add_sub_cancel]; exact h
  have := tk_dbl h' h2
  rw [Int.add_sub_cancel] at this
  rw [← this]
  exact Int.mul_tdiv_cancel_left _ (by decide)
noncomputable def T8 : FuncId → Option Pm.Spec := tab [(26, .pure false F26), (14, .pure false F14), (18, .pure false F18), (17, .pure false F38)]
theorem T8_eq (g : Nat) : T8 g = tab [(26, .pure false F26), (14, .pure false F14), (18, .pure false F18), (17, .pure false F38)] g := rfl
theorem tok8 {W0 : World} (L : Laid W0) : TOk Tryd.prog W0 T8 := tok_cons (meets26 W0) (tok_cons (meets14 L) (tok_cons (meets18 W0) (tok_cons (meets17 W0) tok_nil)))
theorem loop8a {F : List Fr} {P : SV × List Blk → Prop} {rs : List ResultVar} {H : List Blk} (l d b : Int) (h : okV l d) (h' : okV (l - b) d) : ∀ (r i : Nat), ((i : Int) + r = b ∨ (b < 0 ∧ i = 0 ∧ r = 0)) → 
    X Y T8 rs F (.exit 0) ⟨mk 82 .J [(1, .i b), (2, .ptr 0 0), (5, .ptr 1 0), (6, .i 0), (7, .i (tkZ (if b < 0 then l else l - b, d)))], H⟩ P →
    X Y T8 rs F (.loop (loopN Tryd.f8 0)) ⟨mk 82 .J [(1, .i b), (2, .ptr 0 0), (5, .ptr 1 0), (6, .i 0), (7, .i (tkZ (l - i, d))), (8, .i (i : Nat))], H⟩ P := by
  intro r
  induction r with
  | zero =>
    intro i e hx
    have c1 : ¬ ((i : Nat) : Int) < b := by omega
    have e2 : (if b < 0 then l else l - b) = l - (i : Nat) := by split <;> omega
    rw [e2] at hx
    apply X_loop_of
    · simp only [loopN, Tryd.f8, loopsOf, List.nil_append, List.append_nil, List.cons_append, List.getD_cons_succ, List.getD_cons_zero]; rfl
    simp [-Int.not_lt, -Int.not_le, c1]
    refine X_keep hx ?_
    simp
  | succ r ih =>
    intro i e hx
    have c1 : ((i : Nat) : Int) < b := by omega
    have q3 := next_i (m := i) (by unfold okV at h h'; omega)
    have k1 : okV (l - (i : Nat)) d := by unfold okV at h h' ⊢; omega
    have k2 : okV (l - (i : Nat) - 1) d := by unfold okV at h h' ⊢; omega
    have t1 := tk_dbl k1 k2
    have t2 := tk_bound k2
    rw [show l - (i : Nat) - 1 = l - ((i + 1 : Nat) : Int) by omega] at t1 t2
    have w1 : IntKind.i64.wrap (2 * tkZ (l - (i : Nat), d)) = tkZ (l - ((i + 1 : Nat) : Int), d) := by rw [t1]; exact wrap64 (by omega) (by omega)
    apply X_loop_of
    · simp only [loopN, Tryd.f8, loopsOf, List.nil_append, List.append_nil, List.cons_append, List.getD_cons_succ, List.getD_cons_zero]; rfl
    simp [-Int.natCast_add, -Int.not_lt, -Int.not_le, c1, q3, w1]
    refine X_keep (ih (i + 1) (by omega) hx) ?_
    simp
theorem loop8b {F : List Fr} {P : SV × List Blk → Prop} {rs : List ResultVar} {H : List Blk} (l d b m : Int) (hm : (b < 0 ∧ m = l) ∨ (0 ≤ b ∧ m = l - b)) (h : okV l d) (h' : okV (l - b) d) : ∀ (r i : Nat), ((i : Int) + r = - b ∨ (0 ≤ b ∧ i = 0 ∧ r = 0)) → 
    X Y T8 rs F (.exit 2) ⟨mk 82 .J [(1, .i b), (2, .ptr 0 0), (5, .ptr 1 0), (6, .i 0), (7, .i (tkZ (l - b, d)))], H⟩ P →
    X Y T8 rs F (.loop (loopN Tryd.f8 1)) ⟨mk 82 .J [(1, .i b), (2, .ptr 0 0), (5, .ptr 1 0), (6, .i 0), (7, .i (tkZ (m + i, d))), (9, .i (-(i : Int)))], H⟩ P := by
  intro r
  induction r with
  | zero =>
    intro i e hx
    have c1 : ¬ b < -(i : Int) := by omega
    have e2 : l - b = m + (i : Nat) := by omega
    rw [e2] at hx
    apply X_loop_of
    · simp only [loopN, Tryd.f8, loopsOf, List.nil_append, List.append_nil, List.cons_append, List.getD_cons_succ, List.getD_cons_zero]; rfl
    simp [-Int.not_lt, -Int.not_le, c1]
    refine X_keep hx ?_
    simp
  | succ r ih =>
    intro i e hx
    have c1 : b < -(i : Int) := by omega
    have q3 : IntKind.i64.wrap (-(i : Int) - 1) = -((i + 1 : Nat) : Int) := by
      rw [show -(i : Int) - 1 = -((i + 1 : Nat) : Int) by omega]; exact wrap64 (by unfold okV at h h'; omega) (by omega)
    have k1 : okV (m + (i : Nat)) d := by unfold okV at h h' ⊢; omega
    have k2 : okV (m + (i : Nat) + 1) d := by unfold okV at h h' ⊢; omega
    have t1 := tk_hlf k1 k2
    have t2 := tk_bound k2
    rw [show m + (i : Nat) + 1 = m + ((i + 1 : Nat) : Int) by omega] at t1 t2
    have w1 : IntKind.i64.wrap (tkZ (m + ((i + 1 : Nat) : Int), d)) = tkZ (m + ((i + 1 : Nat) : Int), d) := wrap64 (by omega) (by omega)
    apply X_loop_of
    · simp only [loopN, Tryd.f8, loopsOf, List.nil_append, List.append_nil, List.cons_append, List.getD_cons_succ, List.getD_cons_zero]; rfl
    simp [-Int.natCast_add, -Int.not_lt, -Int.not_le, c1, q3, t1, w1]
    refine X_keep (ih (i + 1) (by omega) hx) ?_
    simp
theorem x8 (l d b : Int) : XFn Y T8 Tryd.f8 [.agg [.i l, .i d], .i b] [] (Is (.bool true)) := by
  unfold XFn Tryd.f8
  rw [enter_2 _ (by decide)]
  have f14 : F14 [] = some (.bool true) := rfl
  by_cases h : okV l d
  · by_cases h1 : b < -9
    · have hs : sclZ l d b = ((0, 0), 17) := by unfold sclZ; rw [if_neg (by unfold okV at h; omega)]
      simp [-Int.not_lt, -Int.not_le, T8_eq, f14, F18, F26, h, h1, hs]
    by_cases h2 : 9 < b
    · have hs : sclZ l d b = ((0, 0), 17) := by unfold sclZ; rw [if_neg (by unfold okV at h; omega)]
      simp [-Int.not_lt, -Int.not_le, T8_eq, f14, F18, F26, h, h1, h2, hs]
    have w1 : IntKind.i64.wrap (l - b) = l - b := wrap64 (by unfold okV at h; omega) (by unfold okV at h; omega)
    by_cases h3 : okV (l - b) d
    · have hs : sclZ l d b = ((l - b, d), 0) := by unfold sclZ; rw [if_pos ⟨h, by unfold okV at h3; omega, by unfold okV at h3; omega⟩]
      have f1 := F38_ok h
      have f2 := F38_ok h3
      simp [-outR, -Int.not_lt, -Int.not_le, T8_eq, f14, F18, F26, h, h1, h2, h3, hs, w1, f1]
      have La := fun F P rs H => loop8a (F := F) (P := P) (rs := rs) (H := H) l d b h h3 b.toNat 0 (by omega)
      have Lb := fun F P rs H m hm => loop8b (F := F) (P := P) (rs := rs) (H := H) l d b m hm h h3 (-b).toNat 0 (by omega)
      rw [show l - ((0 : Nat) : Int) = l by omega] at La
      refine X_keep (La _ _ _ _ ?_) ?_
      · simp [-outR, -Int.not_lt, -Int.not_le]
        refine X_keep (Lb _ _ _ _ (if b < 0 then l else l - b) (by split <;> omega) ?_) ?_
        · simp [-Int.not_lt, -Int.not_le, T8_eq, w1, f2]
        · simp
      · simp
    · have hs : sclZ l d b = ((0, 0), 17) := by unfold sclZ; rw [if_neg (by unfold okV at h h3; omega)]
      simp [-Int.not_lt, -Int.not_le, T8_eq, f14, F18, F26, h, h1, h2, h3, hs, w1]
  · have hs : sclZ l d b = ((0, 0), 17) := by unfold sclZ; rw [if_neg (fun h' => h h'.1)]
    simp [T8_eq, f14, F18, F26, h, hs]
end Go.Proofs.YtngapiffgoignaaDoor
