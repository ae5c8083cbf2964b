/- The two parses are one; the laws of the texts and of the parses, by the machine. -/
import Derived.Test.YtooajpojikkkdaaDoorParseF
import Derived.Test.YtooajpojikkkdaaDoorMetreO
set_option linter.unusedSimpArgs false
set_option linter.unusedVariables false
set_option maxRecDepth 1000000
set_option maxHeartbeats 400000
namespace Go.Proofs.YtooajpojikkkdaaDoor
open Go Go.Pm Go.RowKit
theorem len6 {l : List Int} (h : l.length = 6) : ∃ a0 a1 a2 a3 a4 a5, l = [a0, a1, a2, a3, a4, a5] := by
  match l, h with
  | [a0, a1, a2, a3, a4, a5], _ => exact ⟨a0, a1, a2, a3, a4, a5, rfl⟩
theorem runP_len (k : Bool) : ∀ (l : List (List UInt8)) (m : Nat) (s : Int) (gl : List Int) (c : Int) (gl' : List Int), runP k l m s gl = some (c, gl') → gl'.length = gl.length
  | [], m, s, gl, c, gl', h => by simp [runP] at h; rw [h.2]
  | p :: r, m, s, gl, c, gl', h => by
    rw [runP] at h
    split at h
    · cases h
    · have := runP_len k r _ _ _ _ _ h
      rw [this]
      cases k <;> simp
theorem scanR_len : ∀ (r : Nat) (t : List UInt8) (k : Nat) (sum : Int) (gl : List Int) (t' : List UInt8) (k' : Nat) (sum' : Int) (gl' : List Int), scanR r t k sum gl = some (t', k', sum', gl') → gl'.length = gl.length
  | 0, t, k, sum, gl, t', k', sum', gl', h => by simp [scanR] at h
  | r + 1, t, k, sum, gl, t', k', sum', gl', h => by
    rw [scanR] at h
    split at h
    · cases h
    · split at h
      · split at h
        · simp only [Option.some.injEq, Prod.mk.injEq] at h
          rw [← h.2.2.2]; simp
        · split at h
          · have := scanR_len r _ _ _ _ _ _ _ _ h
            rw [this]; simp
          · cases h
      · cases h
theorem parseR_cases (s : List UInt8) (hl : ¬ 32 < s.length) : (∃ c u g0 g1 g2 g3 g4 g5, okM c u [g0, g1, g2, g3, g4, g5] ∧ textZ c u [g0, g1, g2, g3, g4, g5] = s) ∨ parseR s = ((0, 0, [0, 0, 0, 0, 0, 0]), 13) := by
  unfold parseR
  rw [if_neg hl]
  split
  · exact .inr rfl
  · cases hr : runP (decide (1 < (headP s).length)) (headP s) 0 0 [0, 0, 0, 0, 0, 0] with
    | none => exact .inr rfl
    | some x =>
      obtain ⟨c, gl⟩ := x
      simp only []
      split
      · rename_i hc
        obtain ⟨a0, a1, a2, a3, a4, a5, rfl⟩ := len6 (runP_len _ _ _ _ _ _ _ hr)
        exact .inl ⟨_, _, _, _, _, _, _, _, okM_chk.2 hc.1, hc.2⟩
      · exact .inr rfl
theorem parseF_cases (s : List UInt8) (hl : ¬ 32 < s.length) : (∃ c u g0 g1 g2 g3 g4 g5, okM c u [g0, g1, g2, g3, g4, g5] ∧ textZ c u [g0, g1, g2, g3, g4, g5] = s) ∨ parseF s = ((0, 0, [0, 0, 0, 0, 0, 0]), 13) := by
  unfold parseF
  rw [if_neg hl]
  cases hr : scanR 6 s 0 0 [0, 0, 0, 0, 0, 0] with
  | none => exact .inr rfl
  | some x =>
    obtain ⟨t, k, sum, gl⟩ := x
    have h6 : (if k = 1 then gl.set 0 0 else gl).length = 6 := by
      have := scanR_len _ _ _ _ _ _ _ _ _ hr
      split <;> simp [this]
    obtain ⟨a0, a1, a2, a3, a4, a5, e⟩ := len6 h6
    simp only []
    rw [e]
    by_cases hc : chkM sum (numR t).1 [a0, a1, a2, a3, a4, a5] = 0 ∧ textZ sum (numR t).1 [a0, a1, a2, a3, a4, a5] = s
    · exact .inl ⟨_, _, _, _, _, _, _, _, okM_chk.2 hc.1, hc.2⟩
    · rw [if_neg hc]; exact .inr rfl
theorem parse_eq (s : List UInt8) : parseR s = parseF s := by
  by_cases hl : 32 < s.length
  · unfold parseR parseF
    rw [if_pos hl, if_pos hl]
  · rcases parseR_cases s hl with ⟨c, u, g0, g1, g2, g3, g4, g5, ok, rfl⟩ | e
    · rw [parse_text ok, parseF_text ok]
    · rcases parseF_cases s hl with ⟨c, u, g0, g1, g2, g3, g4, g5, ok, rfl⟩ | e'
      · rw [parse_text ok, parseF_text ok]
      · rw [e, e']
theorem parseR_form (s : List UInt8) : ∃ c u a0 a1 a2 a3 a4 a5 e, parseR s = ((c, u, [a0, a1, a2, a3, a4, a5]), e) := by
  by_cases hl : 32 < s.length
  · unfold parseR
    rw [if_pos hl]
    exact ⟨_, _, _, _, _, _, _, _, _, rfl⟩
  · rcases parseR_cases s hl with ⟨c, u, g0, g1, g2, g3, g4, g5, ok, rfl⟩ | e
    · exact ⟨_, _, _, _, _, _, _, _, _, parse_text ok⟩
    · exact ⟨_, _, _, _, _, _, _, _, _, e⟩
noncomputable def T11 : FuncId → Option Pm.Spec := tab [(13, .pure false F13), (32, .pure false F32), (17, .pure false F17), (33, .pure false F33), (34, .pure false F34)]
theorem T11_eq (g : Nat) : T11 g = tab [(13, .pure false F13), (32, .pure false F32), (17, .pure false F17), (33, .pure false F33), (34, .pure false F34)] g := rfl
theorem tok11 {W0 : World} (L : Laid W0) : TOk Tryd.prog W0 T11 := tok_cons (meets13 W0) (tok_cons (meets32 W0) (tok_cons (meets17 W0) (tok_cons (meets33 L) (tok_cons (meets34 W0) tok_nil))))
theorem x11 (c u g0 g1 g2 g3 g4 g5 : Int) : XFn Y T11 Tryd.f11 [.agg (M8 c u g0 g1 g2 g3 g4 g5)] [] (Is (.bool true)) := by
  unfold XFn Tryd.f11
  rw [enter_1 _ (by decide)]
  by_cases h0 : chkM c u [g0, g1, g2, g3, g4, g5] = 0
  · have h := okM_chk.2 h0
    have tl := text_len (c := c) (u := u) (g0 := g0) (g1 := g1) (g2 := g2) (g3 := g3) (g4 := g4) (g5 := g5)
    have hP : F33 [.str (textZ c u [g0, g1, g2, g3, g4, g5])] = some (.tuple [.agg (M8 c u g0 g1 g2 g3 g4 g5), .i 0]) := by
      show (if _ then _ else none) = _
      rw [if_pos (by omega), parse_text h]; rfl
    simp [T11_eq, F13, F32, F17, F26, F34, F48, textR, h0, h, hP]
  · simp [T11_eq, F13, F32, F17, F26, textR, h0]
noncomputable def T12 : FuncId → Option Pm.Spec := tab [(13, .pure false F13), (33, .pure false F33), (35, .pure false F35)]
theorem T12_eq (g : Nat) : T12 g = tab [(13, .pure false F13), (33, .pure false F33), (35, .pure false F35)] g := rfl
theorem tok12 {W0 : World} (L : Laid W0) : TOk Tryd.prog W0 T12 := tok_cons (meets13 W0) (tok_cons (meets33 L) (tok_cons (meets35 W0) tok_nil))
theorem x12 (s : List UInt8) : XFn Y T12 Tryd.f12 [.pv (.str s)] [] (Is (.bool true)) := by
  unfold XFn Tryd.f12
  rw [enter_1 _ (by decide)]
  have key : ∀ t : List UInt8, t.length ≤ 40 → ∃ c u a0 a1 a2 a3 a4 a5 e, F33 [.str t] = some (.tuple [.agg (M8 c u a0 a1 a2 a3 a4 a5), .i e]) ∧ F35 [.str t] = some (.tuple [.agg (M8 c u a0 a1 a2 a3 a4 a5), .i e]) := fun t ht => by
    obtain ⟨c, u, a0, a1, a2, a3, a4, a5, e, h⟩ := parseR_form t
    refine ⟨c, u, a0, a1, a2, a3, a4, a5, e, ?_, ?_⟩
    · show (if _ then _ else none) = _
      rw [if_pos (by omega), h]; rfl
    · show (if _ then _ else none) = _
      rw [if_pos (by omega), ← parse_eq, h]; rfl
  by_cases hl : (40 : Int) < (s.length : Int)
  · have hl2 : 40 ≤ s.length := by omega
    obtain ⟨c, u, a0, a1, a2, a3, a4, a5, e, k1, k2⟩ := key (s.take 40) (by simp; omega)
    simp [-Int.not_lt, -Int.not_le, aBound, hl, hl2, T12_eq, F13, k1, k2]
  · obtain ⟨c, u, a0, a1, a2, a3, a4, a5, e, k1, k2⟩ := key s (by omega)
    simp [-Int.not_lt, -Int.not_le, aBound, hl, T12_eq, F13, k1, k2]
end Go.Proofs.YtooajpojikkkdaaDoor
