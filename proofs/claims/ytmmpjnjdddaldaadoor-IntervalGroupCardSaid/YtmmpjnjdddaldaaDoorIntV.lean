/- The laws, by the machine. -/
import Derived.Test.YtmmpjnjdddaldaaDoorIntU
set_option linter.unusedSimpArgs false
set_option linter.unusedVariables false
set_option maxRecDepth 1000000
set_option maxHeartbeats 400000
namespace Go.Proofs.YtmmpjnjdddaldaaDoor
open Go Go.Pm Go.RowKit
/-- Adds. -/
noncomputable def T5 : FuncId → Option Pm.Spec := tab [(18, .pure false F18), (19, .pure false F19), (20, .pure false F20), (21, .pure false F21), (13, .pure false F13), (22, .pure false F22), (23, .pure false F23)]
theorem T5_eq (g : Nat) : T5 g = tab [(18, .pure false F18), (19, .pure false F19), (20, .pure false F20), (21, .pure false F21), (13, .pure false F13), (22, .pure false F22), (23, .pure false F23)] g := rfl
theorem tok5 (W0 : World) : TOk Tryd.prog W0 T5 := tok_cons (meets18 W0) (tok_cons (meets19 W0) (tok_cons (meets20 W0) (tok_cons (meets21 W0) (tok_cons (meets13 W0) (tok_cons (meets22 W0) (tok_cons (meets23 W0) tok_nil))))))
theorem x5 (s m s' m' : Int) : XFn Y T5 Tryd.f5 [I2 s m, I2 s' m'] [] (Is (.bool true)) := by
  unfold XFn Tryd.f5
  rw [enter_2 _ (by decide)]
  by_cases h : isI s m
  · simp [-Int.not_lt, -Int.not_le, T5_eq, F18, F19, F20, F21, F13, F22, F23, h]
  · simp [-Int.not_lt, -Int.not_le, T5_eq, F18, F19, F20, F21, F13, F22, F23, h]
/-- Transposes. -/
noncomputable def T3 : FuncId → Option Pm.Spec := tab [(11, .pure false F11), (12, .pure false F11), (13, .pure false F13), (14, .pure false F71)]
theorem T3_eq (g : Nat) : T3 g = tab [(11, .pure false F11), (12, .pure false F11), (13, .pure false F13), (14, .pure false F71)] g := rfl
theorem tok3 (W0 : World) : TOk Tryd.prog W0 T3 := tok_cons (meets11 W0) (tok_cons (meets12 W0) (tok_cons (meets13 W0) (tok_cons (meets14 W0) tok_nil)))
theorem x3 (s a o t m : Int) : XFn Y T3 Tryd.f3 [P3 s a o, I2 t m] [] (Is (.bool true)) := by
  unfold XFn Tryd.f3
  rw [enter_2 _ (by decide)]
  by_cases h : (trR s a o t m).2 = 0
  · obtain ⟨h1, h2, h3, h4⟩ := tr_num h
    have hF : F71 [P3 s a o] = some (.i (numZ s a o)) := by simp only [F71]; rw [if_pos h3.1]
    have hG : F71 [P3 (trR s a o t m).1.1 (trR s a o t m).1.2.1 (trR s a o t m).1.2.2] = some (.i (numZ s a o + m)) := by simp only [F71]; rw [if_pos h1.1, h2]
    have w := (goal_wraps h3 h4).2.1
    simp [-Int.not_lt, -Int.not_le, T3_eq, F11, F13, h, hF, hG, w]
  · simp [-Int.not_lt, -Int.not_le, T3_eq, F11, F13, h]
/-- Exact. -/
noncomputable def T8 : FuncId → Option Pm.Spec := tab [(27, .pure false F27), (29, .pure false F27), (13, .pure false F13)]
theorem T8_eq (g : Nat) : T8 g = tab [(27, .pure false F27), (29, .pure false F27), (13, .pure false F13)] g := rfl
theorem tok8 (W0 : World) : TOk Tryd.prog W0 T8 := tok_cons (meets27 W0) (tok_cons (meets29 W0) (tok_cons (meets13 W0) tok_nil))
theorem x8 (s a o t m : Int) : XFn Y T8 Tryd.f8 [P3 s a o, I2 t m] [] (Is (.bool true)) := by
  unfold XFn Tryd.f8
  rw [enter_2 _ (by decide)]
  simp [-Int.not_lt, -Int.not_le, T8_eq, F27, F13]
/-- Between. -/
noncomputable def T7 : FuncId → Option Pm.Spec := tab [(26, .pure false F26), (13, .pure false F13), (16, .pure false F16), (27, .pure false F27), (28, .pure false F28), (22, .pure false F22)]
theorem T7_eq (g : Nat) : T7 g = tab [(26, .pure false F26), (13, .pure false F13), (16, .pure false F16), (27, .pure false F27), (28, .pure false F28), (22, .pure false F22)] g := rfl
theorem tok7 (W0 : World) : TOk Tryd.prog W0 T7 := tok_cons (meets26 W0) (tok_cons (meets13 W0) (tok_cons (meets16 W0) (tok_cons (meets27 W0) (tok_cons (meets28 W0) (tok_cons (meets22 W0) tok_nil)))))
theorem x7 (s a o s' a' o' : Int) : XFn Y T7 Tryd.f7 [P3 s a o, P3 s' a' o'] [] (Is (.bool true)) := by
  unfold XFn Tryd.f7
  rw [enter_2 _ (by decide)]
  by_cases h : valid s a o
  · by_cases h' : valid s' a' o'
    · have hi := btw_isI h h'
      have hE : exR s a o (posZ s' o' - posZ s o) (numZ s' a' o' - numZ s a o) = ((s', a', o'), 0) := (ex_iff _ _ _ _ _ _).2 ⟨h, hi, h', by simp only [posP]; omega, by simp only []; omega⟩
      simp [-Int.not_lt, -Int.not_le, T7_eq, F26, F13, F16, F27, F28, F22, h, h', hi, hE]
    · simp [-Int.not_lt, -Int.not_le, T7_eq, F26, F13, F16, F27, F28, F22, h, h']
  · simp [-Int.not_lt, -Int.not_le, T7_eq, F26, F13, F16, F27, F28, F22, h]
/-- Acts. -/
noncomputable def T9 : FuncId → Option Pm.Spec := tab [(27, .pure false F27), (13, .pure false F13), (18, .pure false F18)]
theorem T9_eq (g : Nat) : T9 g = tab [(27, .pure false F27), (13, .pure false F13), (18, .pure false F18)] g := rfl
theorem tok9 (W0 : World) : TOk Tryd.prog W0 T9 := tok_cons (meets27 W0) (tok_cons (meets13 W0) (tok_cons (meets18 W0) tok_nil))
theorem x9 (s a o t m t' m' : Int) : XFn Y T9 Tryd.f9 [P3 s a o, I2 t m, I2 t' m'] [] (Is (.bool true)) := by
  unfold XFn Tryd.f9
  rw [enter_3 _ (by decide)]
  obtain ⟨q, e1, hq⟩ : ∃ q e, exR s a o t m = (q, e) := ⟨_, _, rfl⟩
  obtain ⟨r, e2, hr⟩ : ∃ r e, exR q.1 q.2.1 q.2.2 t' m' = (r, e) := ⟨_, _, rfl⟩
  obtain ⟨q1, q2, q3⟩ := q
  obtain ⟨r1, r2, r3⟩ := r
  simp only [] at hr
  by_cases h1 : e1 = 0
  · subst h1
    by_cases h2 : e2 = 0
    · subst h2
      obtain ⟨a1, a2, a3, a4, a5⟩ := (ex_iff _ _ _ _ _ _).1 hq
      obtain ⟨b1, b2, b3, b4, b5⟩ := (ex_iff _ _ _ _ _ _).1 hr
      simp only [posP] at a4 b4 a5 b5
      by_cases hs : isI (t + t') (m + m')
      · have hS : sumZ t m t' m' 1 = ((t + t', m + m'), 0) := by
          unfold sumZ
          rw [if_pos ⟨a2, b2, by rwa [Int.one_mul, Int.one_mul]⟩, Int.one_mul, Int.one_mul]
        have hE : exR s a o (t + t') (m + m') = ((r1, r2, r3), 0) := (ex_iff _ _ _ _ _ _).2 ⟨a1, hs, b3, by simp only [posP]; omega, by simp only []; omega⟩
        simp [-Int.not_lt, -Int.not_le, T9_eq, F27, F13, F18, hq, hr, hS, hE]
      · have hS : sumZ t m t' m' 1 = ((0, 0), 2) := by
          unfold sumZ
          rw [if_neg (fun h => hs (by simpa using h.2.2))]
        simp [-Int.not_lt, -Int.not_le, T9_eq, F27, F13, F18, hq, hr, hS]
    · simp [-Int.not_lt, -Int.not_le, T9_eq, F27, F13, F18, hq, hr, h2]
  · simp [-Int.not_lt, -Int.not_le, T9_eq, F27, F13, F18, hq, hr, h1]
/-- Qualities. -/
noncomputable def T10 : FuncId → Option Pm.Spec := tab [(30, .pure false F30), (31, .pure false F31), (32, .pure false F32), (13, .pure false F13), (23, .pure false F23), (33, .pure false F50), (34, .pure false F34)]
theorem T10_eq (g : Nat) : T10 g = tab [(30, .pure false F30), (31, .pure false F31), (32, .pure false F32), (13, .pure false F13), (23, .pure false F23), (33, .pure false F50), (34, .pure false F34)] g := rfl
theorem tok10 (W0 : World) : TOk Tryd.prog W0 T10 := tok_cons (meets30 W0) (tok_cons (meets31 W0) (tok_cons (meets32 W0) (tok_cons (meets13 W0) (tok_cons (meets23 W0) (tok_cons (meets33 W0) (tok_cons (meets34 W0) tok_nil))))))
theorem x10 (s m : Int) : XFn Y T10 Tryd.f10 [I2 s m] [] (Is (.bool true)) := by
  unfold XFn Tryd.f10
  rw [enter_1 _ (by decide)]
  by_cases h : isI s m
  · have hm := h.1
    have hm2 := h.2
    have w1 : IntKind.i64.wrap (7 - s) = 7 - s := wrap64 (by omega) (by omega)
    have w2 : IntKind.i64.wrap (12 - m) = 12 - m := wrap64 (by omega) (by omega)
    by_cases h1 : s < 0
    · have hI : invZ s m = ((0, 0), 2) := by unfold invZ; rw [if_neg (by omega)]
      simp [-Int.not_lt, -Int.not_le, T10_eq, F30, F31, F32, F13, F23, F50, F34, h, w1, w2, h1, hI]
    · by_cases h2 : 7 < s
      · have hI : invZ s m = ((0, 0), 2) := by unfold invZ; rw [if_neg (by omega)]
        simp [-Int.not_lt, -Int.not_le, T10_eq, F30, F31, F32, F13, F23, F50, F34, h, w1, w2, h1, h2, hI]
      · by_cases h3 : isI (7 - s) (12 - m)
        · have hI : invZ s m = ((7 - s, 12 - m), 0) := by unfold invZ; rw [if_pos ⟨h, by omega, h3⟩]
          have hJ : invZ (7 - s) (12 - m) = ((s, m), 0) := by
            unfold invZ
            rw [show (7 : Int) - (7 - s) = s by omega, show (12 : Int) - (12 - m) = m by omega, if_pos ⟨h3, by omega, h⟩]
          simp [-Int.not_lt, -Int.not_le, T10_eq, F30, F31, F32, F13, F23, F50, F34, h, w1, w2, h1, h2, h3, hI, hJ]
        · have hI : invZ s m = ((0, 0), 2) := by unfold invZ; rw [if_neg (fun hh => h3 hh.2.2)]
          simp [-Int.not_lt, -Int.not_le, T10_eq, F30, F31, F32, F13, F23, F50, F34, h, w1, w2, h1, h2, h3, hI]
  · have hI : invZ s m = ((0, 0), 2) := by unfold invZ; rw [if_neg (fun hh => h hh.1)]
    simp [-Int.not_lt, -Int.not_le, T10_eq, F30, F31, F32, F13, F23, F50, F34, h, hI]
/-- Enharmonics. -/
noncomputable def T4 : FuncId → Option Pm.Spec := tab [(15, .pure false F15), (13, .pure false F13), (16, .pure false F16), (14, .pure false F71), (17, .pure false F17)]
theorem T4_eq (g : Nat) : T4 g = tab [(15, .pure false F15), (13, .pure false F13), (16, .pure false F16), (14, .pure false F71), (17, .pure false F17)] g := rfl
theorem tok4 (W0 : World) : TOk Tryd.prog W0 T4 := tok_cons (meets15 W0) (tok_cons (meets13 W0) (tok_cons (meets16 W0) (tok_cons (meets14 W0) (tok_cons (meets17 W0) tok_nil))))
theorem loop4 {F : List Fr} {Q : SV × List Blk → Prop} {rs : List ResultVar} {H : List Blk} (l : List P) (hl : l.length ≤ 12) : ∀ (r i : Nat), i + r = l.length →
    X Y T4 rs F (.exit 0) ⟨mk 51 .J [], H⟩ Q →
    X Y T4 rs F (.loop (loopN Tryd.f4 0)) ⟨mk 51 .J [(3, .pv (.slice 3 (rowP l))), (5, .pv (.slice 3 (rowP l))), (6, .i (i : Nat))], H⟩ Q := by
  intro r
  induction r with
  | zero =>
    intro i e hx
    have q2 : ¬ (i : Int) < (l.length : Int) := by omega
    apply X_loop_of
    · simp only [loopN, Tryd.f4, loopsOf, List.nil_append, List.append_nil, List.cons_append, List.getD_cons_succ, List.getD_cons_zero]; rfl
    simp [-Int.not_lt, -Int.not_le, rowP_len, q2]
    refine X_keep hx ?_
    simp
  | succ r ih =>
    intro i e hx
    have hil : i < l.length := by omega
    have q2 : (i : Int) < (l.length : Int) := by omega
    have q3 := next_i (m := i) (by omega)
    have r1 := rowP_at hil
    have gz : ∀ {α : Type} (b : α) (l : List α), (b :: l)[0]? = some b := fun _ _ => rfl
    generalize l.getD i (0, 0, 0) = p at *
    apply X_loop_of
    · simp only [loopN, Tryd.f4, loopsOf, List.nil_append, List.append_nil, List.cons_append, List.getD_cons_succ, List.getD_cons_zero]; rfl
    simp [-Int.natCast_add, -Int.not_lt, -Int.not_le, -getElem?_pos, q2, q3, r1, rowP_len, gz]
    refine X_keep (ih (i + 1) (by omega) hx) ?_
    simp [-Int.natCast_add]
theorem x4 (s a o : Int) : XFn Y T4 Tryd.f4 [P3 s a o] [] (Is (.bool true)) := by
  unfold XFn Tryd.f4
  rw [enter_1 _ (by decide)]
  by_cases h : valid s a o
  · have hF : F71 [P3 s a o] = some (.i (numZ s a o)) := by simp only [F71]; rw [if_pos h.1]
    have hG : F17 [.i (numZ s a o)] = some (.fresh 23 3 (rowP (enhP (numZ s a o)))) := by
      simp only [F17]; rw [if_pos (by have := h.2; omega), allR, if_pos h.2]
    obtain ⟨e, ⟨⟨l1, l2⟩, _⟩⟩ := enh_p h.2
    simp [-Int.not_lt, -Int.not_le, T4_eq, F15, eofR, F13, F16, hF, hG, h, rowP_len]
    refine X_keep (loop4 (enhP (numZ s a o)) l2 (enhP (numZ s a o)).length 0 (by omega) ?_) ?_
    · simp
    · simp
  · simp [-Int.not_lt, -Int.not_le, T4_eq, F15, eofR, F13, F16, h]
end Go.Proofs.YtmmpjnjdddaldaaDoor
