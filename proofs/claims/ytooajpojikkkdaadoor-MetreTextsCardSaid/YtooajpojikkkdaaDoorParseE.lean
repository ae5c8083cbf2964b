/- The reference's Parse, by the machine. -/
import Derived.Test.YtooajpojikkkdaaDoorParseD
set_option linter.unusedSimpArgs false
set_option linter.unusedVariables false
set_option maxRecDepth 1000000
set_option maxHeartbeats 400000
namespace Go.Proofs.YtooajpojikkkdaaDoor
open Go Go.Pm Go.RowKit
/-- The groups of the reference: so many may come; the rest of the text, how many there were, their sum, and they. -/
def scanR : Nat → List UInt8 → Nat → Int → List Int → Option (List UInt8 × Nat × Int × List Int)
  | 0, _, _, _, _ => none
  | r + 1, t, k, sum, gl =>
    if (numR t).2 = 0 ∨ (numR t).2 = t.length then none else
      match t[(numR t).2]? with
      | some b => if b = 47 then some (t.drop ((numR t).2 + 1), k + 1, sum + (numR t).1, gl.set k (numR t).1) else
          if b = 43 then scanR r (t.drop ((numR t).2 + 1)) (k + 1) (sum + (numR t).1) (gl.set k (numR t).1) else none
      | none => none
noncomputable def T35 : FuncId → Option Pm.Spec := tab [(53, .pure false F53), (17, .pure false F17), (34, .pure false F34)]
theorem T35_eq (g : Nat) : T35 g = tab [(53, .pure false F53), (17, .pure false F17), (34, .pure false F34)] g := rfl
theorem u8_eq {b : UInt8} {n : Nat} (h : n < 256) : ((b.toNat : Int) = (n : Int)) ↔ b = UInt8.ofNat n := by
  constructor
  · intro e
    have e2 : b.toNat = n := by omega
    rw [← e2]; simp
  · intro e
    subst e
    simp [UInt8.toNat_ofNat]; omega
theorem loop35 {F : List Fr} {P : SV × List Blk → Prop} (s : List UInt8) (hs : s.length ≤ 1000) : ∀ (r k a : Nat) (sum g0 g1 g2 g3 g4 g5 : Int), k + r = 6 → a ≤ s.length → 0 ≤ sum → sum ≤ 999 * k →
    (scanR r (s.drop a) k sum [g0, g1, g2, g3, g4, g5] = none → ∀ H, P (.tuple [.agg Z8, .i 13], H)) →
    (∀ k' a' sum' a0 a1 a2 a3 a4 a5, a' ≤ s.length → 0 ≤ sum' → scanR r (s.drop a) k sum [g0, g1, g2, g3, g4, g5] = some (s.drop a', k', sum', [a0, a1, a2, a3, a4, a5]) →
      X Y T35 [.cell 2 24, .tmp 3] F (.exit 0) ⟨mk 87 .J [(0, .str s), (2, .ptr 0 0), (4, .ptr 1 0), (5, .i (a' : Nat)), (6, .i (k' : Nat)), (7, .i sum')], [.box Z8, .box (M8 0 0 a0 a1 a2 a3 a4 a5)]⟩ P) →
    X Y T35 [.cell 2 24, .tmp 3] F (.loop (loopN Tryd.f35 0)) ⟨mk 87 .J [(0, .str s), (2, .ptr 0 0), (4, .ptr 1 0), (5, .i (a : Nat)), (6, .i (k : Nat)), (7, .i sum)], [.box Z8, .box (M8 0 0 g0 g1 g2 g3 g4 g5)]⟩ P := by
  intro r
  induction r with
  | zero =>
    intro k a sum g0 g1 g2 g3 g4 g5 e ha c1 c2 hbad hok
    have e1 : k = 6 := by omega
    subst e1
    obtain ⟨⟨n1, n2⟩, n3⟩ := numR_facts (s.drop a)
    have hF : F53 [.str (s.drop a)] = some (.tuple [.i (numR (s.drop a)).1, .i ((numR (s.drop a)).2 : Nat)]) := rfl
    rw [List.length_drop] at n3
    generalize (numR (s.drop a)).1 = n at *
    generalize (numR (s.drop a)).2 = z at *
    have q1 : IntKind.i64.wrap ((a : Int) + (z : Int)) = (a : Int) + (z : Int) := wrap64 (by omega) (by omega)
    apply X_loop_of
    · simp only [loopN, Tryd.f35, loopsOf, List.nil_append, List.append_nil, List.cons_append, List.getD_cons_succ, List.getD_cons_zero]; rfl
    by_cases h1 : (z : Int) = 0
    · simp [-Int.natCast_add, -Int.natCast_eq_zero, -Int.not_lt, -Int.not_le, aBound, ha, T35_eq, hF, q1, h1]
      exact hbad rfl _
    · by_cases h2 : (a : Int) + (z : Int) = (s.length : Int)
      · simp [-Int.natCast_add, -Int.natCast_eq_zero, -Int.not_lt, -Int.not_le, aBound, ha, T35_eq, hF, q1, h1, h2]
        exact hbad rfl _
      · simp [-Int.natCast_add, -Int.natCast_eq_zero, -Int.not_lt, -Int.not_le, aBound, ha, T35_eq, hF, q1, h1, h2]
        exact hbad rfl _
  | succ r ih =>
    intro k a sum g0 g1 g2 g3 g4 g5 e ha c1 c2 hbad hok
    have hk6 : k < 6 := by omega
    obtain ⟨⟨n1, n2⟩, n3⟩ := numR_facts (s.drop a)
    have hF : F53 [.str (s.drop a)] = some (.tuple [.i (numR (s.drop a)).1, .i ((numR (s.drop a)).2 : Nat)]) := rfl
    rw [List.length_drop] at n3
    rw [scanR, List.length_drop, List.getElem?_drop, List.drop_drop] at hbad hok
    generalize (numR (s.drop a)).1 = n at *
    generalize (numR (s.drop a)).2 = z at *
    have q1 : IntKind.i64.wrap ((a : Int) + (z : Int)) = ((a + z : Nat) : Int) := by rw [show (a : Int) + (z : Int) = ((a + z : Nat) : Int) by omega]; exact wrap64 (by omega) (by omega)
    have gz : ∀ {α : Type} (b : α) (l : List α), (b :: l)[0]? = some b := fun _ _ => rfl
    have gs1 : ∀ {α : Type} (a b : α) (l : List α), (a :: b :: l)[1]? = some b := fun _ _ _ => rfl
    apply X_loop_of
    · simp only [loopN, Tryd.f35, loopsOf, List.nil_append, List.append_nil, List.cons_append, List.getD_cons_succ, List.getD_cons_zero]; rfl
    by_cases h1 : (z : Int) = 0
    · rw [if_pos (.inl (by omega))] at hbad
      simp [-Int.natCast_add, -Int.natCast_eq_zero, -Int.not_lt, -Int.not_le, aBound, ha, T35_eq, hF, q1, h1]
      exact hbad rfl _
    · by_cases h2 : ((a + z : Nat) : Int) = (s.length : Int)
      · rw [if_pos (.inr (by omega))] at hbad
        simp [-Int.natCast_add, -Int.natCast_eq_zero, -Int.not_lt, -Int.not_le, aBound, ha, T35_eq, hF, q1, h1, h2]
        exact hbad rfl _
      · rw [if_neg (by omega)] at hbad hok
        have hlt : a + z < s.length := by omega
        have hb : s[a + z]? = some (s.getD (a + z) 0) := by simp [hlt]
        rw [hb] at hbad hok
        generalize s.getD (a + z) 0 = b at *
        simp only [] at hbad hok
        have k6 : ¬ (k : Int) = 6 := by omega
        have m1 : (k : Int) < 6 := by omega
        have m2 : 2 + k ≤ 7 := by omega
        have q3 := next_i (m := k) (by omega)
        have q4 : IntKind.i64.wrap (sum + n) = sum + n := wrap64 (by omega) (by omega)
        have q5 := next_i (m := a + z) (by omega)
        have q6 : IntKind.i64.wrap (((a + z + 1 : Nat) : Int) - 1) = ((a + z : Nat) : Int) := by rw [show ((a + z + 1 : Nat) : Int) - 1 = ((a + z : Nat) : Int) by omega]; exact wrap64 (by omega) (by omega)
        have ms : (M8 0 0 g0 g1 g2 g3 g4 g5).set (2 + k) (.i n) = M8 0 0 (if k = 0 then n else g0) (if k = 1 then n else g1) (if k = 2 then n else g2) (if k = 3 then n else g3) (if k = 4 then n else g4) (if k = 5 then n else g5) :=
          m8_set 0 0 g0 g1 g2 g3 g4 g5 n hk6
        rw [g6_set _ _ _ _ _ _ _ hk6] at hbad hok
        by_cases h3 : b = 47
        · rw [if_pos h3] at hok
          have h3' : (b.toNat : Int) = 47 := by rw [h3]; rfl
          have := hok (k + 1) (a + z + 1) (sum + n) _ _ _ _ _ _ (by omega) (by omega) (by rw [show a + z + 1 = a + (z + 1) by omega])
          simp [-Int.natCast_add, -Int.natCast_eq_zero, -Int.not_lt, -Int.not_le, -getElem?_pos, aBound, ha, T35_eq, hF, q1, h1, h2, k6, m1, m2, q3, q4, q5, q6, ms, hb, h3', gz, gs1]
          refine X_keep this ?_
          simp [-Int.natCast_add]
        · rw [if_neg h3] at hbad hok
          have h3' : ¬ (b.toNat : Int) = 47 := fun e => h3 ((u8_eq (n := 47) (by decide)).1 e)
          by_cases h4 : b = 43
          · rw [if_pos h4, show a + (z + 1) = a + z + 1 by omega] at hbad hok
            have h4' : (b.toNat : Int) = 43 := by rw [h4]; rfl
            simp [-Int.natCast_add, -Int.natCast_eq_zero, -Int.not_lt, -Int.not_le, -getElem?_pos, aBound, ha, T35_eq, hF, q1, h1, h2, k6, m1, m2, q3, q4, q5, q6, ms, hb, h3', h4', gz, gs1]
            refine X_keep (ih (k + 1) (a + z + 1) (sum + n) _ _ _ _ _ _ (by omega) (by omega) (by omega) (by omega) hbad hok) ?_
            simp [-Int.natCast_add]
          · rw [if_neg h4] at hbad
            have h4' : ¬ (b.toNat : Int) = 43 := fun e => h4 ((u8_eq (n := 43) (by decide)).1 e)
            simp [-Int.natCast_add, -Int.natCast_eq_zero, -Int.not_lt, -Int.not_le, -getElem?_pos, aBound, ha, T35_eq, hF, q1, h1, h2, k6, m1, m2, q3, q4, q5, q6, ms, hb, h3', h4', gz, gs1]
            exact hbad rfl _
/-- What the reference's Parse answers. -/
def parseF (s : List UInt8) : (Int × Int × List Int) × Int :=
  if 32 < s.length then ((0, 0, [0, 0, 0, 0, 0, 0]), 5) else
    match scanR 6 s 0 0 [0, 0, 0, 0, 0, 0] with
    | none => ((0, 0, [0, 0, 0, 0, 0, 0]), 13)
    | some (t, k, sum, gl) =>
      let gl' := if k = 1 then gl.set 0 0 else gl
      if chkM sum (numR t).1 gl' = 0 ∧ textZ sum (numR t).1 gl' = s then ((sum, (numR t).1, gl'), 0) else ((0, 0, [0, 0, 0, 0, 0, 0]), 13)
theorem x35 (s : List UInt8) (hs : s.length ≤ 1000) : XFn Y T35 Tryd.f35 [.pv (.str s)] [] (Is (.tuple [mV (parseF s).1, .i (parseF s).2])) := by
  unfold XFn Tryd.f35
  rw [enter_1 _ (by decide)]
  unfold parseF
  by_cases h0 : 32 < s.length
  · have h0' : (32 : Int) < (s.length : Int) := by omega
    rw [if_pos h0]
    simp [-Int.not_lt, -Int.not_le, h0', mV]
  · have h0' : ¬ (32 : Int) < (s.length : Int) := by omega
    rw [if_neg h0]
    simp [-Int.not_lt, -Int.not_le, h0']
    refine X_keep (loop35 s hs 6 0 0 0 0 0 0 0 0 0 (by omega) (by omega) (by omega) (by omega) (fun hn H => ?_) (fun k' a' sum' a0 a1 a2 a3 a4 a5 ha' hs' hn => ?_)) ?_
    · rw [List.drop_zero] at hn
      rw [hn]
      simp [mV]
    · rw [List.drop_zero] at hn
      rw [hn]
      simp only []
      have hF : F53 [.str (s.drop a')] = some (.tuple [.i (numR (s.drop a')).1, .i ((numR (s.drop a')).2 : Nat)]) := rfl
      generalize (numR (s.drop a')).1 = u at *
      generalize (numR (s.drop a')).2 = z at *
      by_cases hk : k' = 1
      · subst hk
        have hset : [a0, a1, a2, a3, a4, a5].set 0 0 = [0, a1, a2, a3, a4, a5] := rfl
        simp only [if_true, hset]
        by_cases h2 : chkM sum' u [0, a1, a2, a3, a4, a5] = 0
        · have hok := okM_chk.2 h2
          by_cases h3 : textZ sum' u [0, a1, a2, a3, a4, a5] = s
          · simp [-Int.not_lt, -Int.not_le, aBound, ha', T35_eq, hF, F17, F26, F34, F48, h2, hok, h3, mV]
          · simp [-Int.not_lt, -Int.not_le, aBound, ha', T35_eq, hF, F17, F26, F34, F48, h2, hok, h3, mV]
        · simp [-Int.not_lt, -Int.not_le, aBound, ha', T35_eq, hF, F17, F26, F34, F48, h2, mV]
      · have hk' : ¬ (k' : Int) = 1 := by omega
        simp only [if_neg hk]
        by_cases h2 : chkM sum' u [a0, a1, a2, a3, a4, a5] = 0
        · have hok := okM_chk.2 h2
          by_cases h3 : textZ sum' u [a0, a1, a2, a3, a4, a5] = s
          · simp [-Int.not_lt, -Int.not_le, aBound, ha', T35_eq, hF, F17, F26, F34, F48, h2, hok, h3, mV, hk']
          · simp [-Int.not_lt, -Int.not_le, aBound, ha', T35_eq, hF, F17, F26, F34, F48, h2, hok, h3, mV, hk']
        · simp [-Int.not_lt, -Int.not_le, aBound, ha', T35_eq, hF, F17, F26, F34, F48, h2, mV, hk']
    · simp
def F35 : List SV → Option SV
  | [.pv (.str s)] => if s.length ≤ 1000 then some (.tuple [mV (parseF s).1, .i (parseF s).2]) else none
  | _ => none
theorem meets35 (W0 : World) : OkAt W0 35 F35 := meets_fn env (tok_cons (meets53 W0) (tok_cons (meets17 W0) (tok_cons (meets34 W0) tok_nil))) mixed Tryd.func35 (by kernel_rfl) (by kernel_rfl) fun args r h => by
  unfold F35 at h
  split at h
  · split at h
    · rename_i hl; cases h; exact x35 _ hl
    · cases h
  · cases h
end Go.Proofs.YtooajpojikkkdaaDoor
