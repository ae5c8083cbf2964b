/- metre.Parse, by the machine. -/
import Derived.Test.YtooajpojikkkdaaDoorParseA
set_option linter.unusedSimpArgs false
set_option linter.unusedVariables false
set_option maxRecDepth 1000000
set_option maxHeartbeats 400000
namespace Go.Proofs.YtooajpojikkkdaaDoor
open Go Go.Pm Go.RowKit
/-- The number of Atoi. -/
def atoiN (l : List UInt8) : Int := match Lib.atoiAll l with
  | .ok v => v
  | .range => Lib.atoiSat l
  | _ => 0
theorem atoiR_eq (l : List UInt8) : ∃ x : PV, atoiR l = .tuple [.i (atoiN l), .pv x] := by
  unfold atoiR atoiN
  cases Lib.atoiAll l
  · exact ⟨_, rfl⟩
  · exact ⟨_, rfl⟩
  · exact ⟨_, rfl⟩
/-- The groups of Parse. -/
def runP (k : Bool) : List (List UInt8) → Nat → Int → List Int → Option (Int × List Int)
  | [], _, s, gl => some (s, gl)
  | p :: r, m, s, gl => if atoiN p < 1 ∨ 64 < atoiN p then none else runP k r (m + 1) (s + atoiN p) (if k then gl.set m (atoiN p) else gl)
abbrev Z8 : List SV := M8 0 0 0 0 0 0 0 0
noncomputable def T33 : FuncId → Option Pm.Spec := tab [(49, .pure false F49), (50, .pure false F50), (51, .pure false F51), (26, .pure false F26), (48, .pure false F48)]
theorem T33_eq (g : Nat) : T33 g = tab [(49, .pure false F49), (50, .pure false F50), (51, .pure false F51), (26, .pure false F26), (48, .pure false F48)] g := rfl
theorem m8_set (c u g0 g1 g2 g3 g4 g5 n : Int) {m : Nat} (h : m < 6) : setCells (M8 c u g0 g1 g2 g3 g4 g5) (2 + m) [.i n] = M8 c u (if m = 0 then n else g0) (if m = 1 then n else g1) (if m = 2 then n else g2) (if m = 3 then n else g3) (if m = 4 then n else g4) (if m = 5 then n else g5) := by
  rcases (by omega : m = 0 ∨ m = 1 ∨ m = 2 ∨ m = 3 ∨ m = 4 ∨ m = 5) with rfl | rfl | rfl | rfl | rfl | rfl <;> rfl
theorem g6_set (g0 g1 g2 g3 g4 g5 n : Int) {m : Nat} (h : m < 6) : [g0, g1, g2, g3, g4, g5].set m n = [(if m = 0 then n else g0), (if m = 1 then n else g1), (if m = 2 then n else g2), (if m = 3 then n else g3), (if m = 4 then n else g4), (if m = 5 then n else g5)] := by
  rcases (by omega : m = 0 ∨ m = 1 ∨ m = 2 ∨ m = 3 ∨ m = 4 ∨ m = 5) with rfl | rfl | rfl | rfl | rfl | rfl <;> rfl
theorem loop33 {F : List Fr} {P : SV × List Blk → Prop} (s : List UInt8) (u : Int) (parts : List (List UInt8)) (hl : parts.length ≤ 6) (hs : ∀ p ∈ parts, p.length ≤ 1000) : ∀ (r m : Nat) (c g0 g1 g2 g3 g4 g5 : Int), m + r = parts.length → 0 ≤ c → c ≤ 64 * m →
    (runP (decide (1 < parts.length)) (parts.drop m) m c [g0, g1, g2, g3, g4, g5] = none → ∀ H, P (.tuple [.agg Z8, .i 13], H)) →
    (∀ c' a0 a1 a2 a3 a4 a5, runP (decide (1 < parts.length)) (parts.drop m) m c [g0, g1, g2, g3, g4, g5] = some (c', [a0, a1, a2, a3, a4, a5]) →
      X Y T33 [.cell 2 24, .tmp 3] F (.exit 0) ⟨mk 78 .J [(0, .str s), (2, .ptr 0 0), (8, .ptr 1 0)], [.box Z8, .box (M8 c' u a0 a1 a2 a3 a4 a5)]⟩ P) →
    X Y T33 [.cell 2 24, .tmp 3] F (.loop (loopN Tryd.f33 0)) ⟨mk 78 .J [(0, .str s), (2, .ptr 0 0), (7, .pv (.slice 1 (rowS parts))), (8, .ptr 1 0), (35, .pv (.slice 1 (rowS parts))), (36, .i (parts.length : Nat)), (37, .i (m : Nat))], [.box Z8, .box (M8 c u g0 g1 g2 g3 g4 g5)]⟩ P := by
  intro r
  induction r with
  | zero =>
    intro m c g0 g1 g2 g3 g4 g5 e c1 c2 hbad hok
    have q2 : ¬ (m : Int) < (parts.length : Int) := by omega
    rw [List.drop_eq_nil_of_le (by omega)] at hok
    apply X_loop_of
    · simp only [loopN, Tryd.f33, loopsOf, List.nil_append, List.append_nil, List.cons_append, List.getD_cons_succ, List.getD_cons_zero]; rfl
    simp [-Int.not_lt, -Int.not_le, q2]
    refine X_keep (hok _ _ _ _ _ _ _ rfl) ?_
    simp
  | succ r ih =>
    intro m c g0 g1 g2 g3 g4 g5 e c1 c2 hbad hok
    have hml : m < parts.length := by omega
    have hm6 : m < 6 := by omega
    have q2 : (m : Int) < (parts.length : Int) := by omega
    have q3 := next_i (m := m) (by omega)
    have hrow : (rowS parts)[m]? = some [.str (parts.getD m [])] := by simp [rowS, hml]
    have e1 : parts.drop m = parts.getD m [] :: parts.drop (m + 1) := by rw [List.drop_eq_getElem_cons hml]; simp [hml]
    have hp := hs (parts.getD m []) (by simp [hml])
    rw [e1] at hbad hok
    generalize parts.getD m [] = p at *
    obtain ⟨x, hx⟩ := atoiR_eq p
    have hF : F51 [.str p] = some (.tuple [.i (atoiN p), .pv x]) := by
      show (if p.length ≤ 1000 then some (atoiR p) else none) = _
      rw [if_pos hp, hx]
    rw [runP] at hbad hok
    have gz : ∀ {α : Type} (b : α) (l : List α), (b :: l)[0]? = some b := fun _ _ => rfl
    have gs1 : ∀ {α : Type} (a b : α) (l : List α), (a :: b :: l)[1]? = some b := fun _ _ _ => rfl
    generalize atoiN p = n at *
    apply X_loop_of
    · simp only [loopN, Tryd.f33, loopsOf, List.nil_append, List.append_nil, List.cons_append, List.getD_cons_succ, List.getD_cons_zero]; rfl
    by_cases h1 : n < 1
    · rw [if_pos (.inl h1)] at hbad
      simp [-Int.natCast_add, -Int.not_lt, -Int.not_le, -getElem?_pos, q2, q3, hrow, T33_eq, hF, h1, gz, gs1]
      exact hbad rfl _
    · by_cases h2 : 64 < n
      · rw [if_pos (.inr h2)] at hbad
        simp [-Int.natCast_add, -Int.not_lt, -Int.not_le, -getElem?_pos, q2, q3, hrow, T33_eq, hF, h1, h2, gz, gs1]
        exact hbad rfl _
      · rw [if_neg (by omega)] at hbad hok
        have q4 : IntKind.i64.wrap (c + n) = c + n := wrap64 (by omega) (by omega)
        by_cases h3 : 1 < parts.length
        · have h3' : (1 : Int) < (parts.length : Int) := by omega
          rw [if_pos (decide_eq_true h3), g6_set _ _ _ _ _ _ _ hm6] at hbad hok
          have m1 : (m : Int) < 6 := by omega
          have m2 : 2 + m ≤ 7 := by omega
          have ms : (M8 (c + n) u g0 g1 g2 g3 g4 g5).set (2 + m) (.i n) = M8 (c + n) u (if m = 0 then n else g0) (if m = 1 then n else g1) (if m = 2 then n else g2) (if m = 3 then n else g3) (if m = 4 then n else g4) (if m = 5 then n else g5) :=
            m8_set (c + n) u g0 g1 g2 g3 g4 g5 n hm6
          simp [-Int.natCast_add, -Int.not_lt, -Int.not_le, -getElem?_pos, q2, q3, q4, hrow, T33_eq, hF, h1, h2, h3', gz, gs1, rowS_len, m1, m2, ms]
          refine X_keep (ih (m + 1) (c + n) _ _ _ _ _ _ (by omega) (by omega) (by omega) hbad hok) ?_
          simp [-Int.natCast_add]
        · have h3' : ¬ (1 : Int) < (parts.length : Int) := by omega
          rw [if_neg (by simpa using h3)] at hbad hok
          simp [-Int.natCast_add, -Int.not_lt, -Int.not_le, -getElem?_pos, q2, q3, q4, hrow, T33_eq, hF, h1, h2, h3', gz, gs1, rowS_len]
          refine X_keep (ih (m + 1) (c + n) _ _ _ _ _ _ (by omega) (by omega) (by omega) hbad hok) ?_
          simp [-Int.natCast_add]
/-- The parts of a text: what stands ahead of the first '/', cut at each '+'; and what stands behind. -/
def headP (s : List UInt8) : List (List UInt8) := Lib.split (Lib.cut s [47]).1 [43]
def tailP (s : List UInt8) : List UInt8 := (Lib.cut s [47]).2.1
/-- What Parse answers: the cells of a time signature, and the error. -/
def parseR (s : List UInt8) : (Int × Int × List Int) × Int :=
  if 32 < s.length then ((0, 0, [0, 0, 0, 0, 0, 0]), 5) else if 6 < (headP s).length then ((0, 0, [0, 0, 0, 0, 0, 0]), 13) else
    match runP (decide (1 < (headP s).length)) (headP s) 0 0 [0, 0, 0, 0, 0, 0] with
    | none => ((0, 0, [0, 0, 0, 0, 0, 0]), 13)
    | some (c, gl) => if chkM c (atoiN (tailP s)) gl = 0 ∧ textZ c (atoiN (tailP s)) gl = s then ((c, atoiN (tailP s), gl), 0) else ((0, 0, [0, 0, 0, 0, 0, 0]), 13)
def mV (r : Int × Int × List Int) : SV := .agg (.i r.1 :: .i r.2.1 :: r.2.2.map fun n => .i n)
theorem cut_len (s p : List UInt8) : (Lib.cut s p).1.length ≤ s.length ∧ (Lib.cut s p).2.1.length ≤ s.length := by
  unfold Lib.cut
  split
  · simp only [List.length_take, List.length_drop]; omega
  · simp
theorem splitK_len (sep : List UInt8) : ∀ (k : Nat) (s : List UInt8), ∀ p ∈ Lib.splitK sep 0 k s, p.length ≤ s.length
  | 0, s, p, h => by simp [Lib.splitK] at h; subst h; exact Nat.le_refl _
  | k + 1, s, p, h => by
    unfold Lib.splitK at h
    split at h
    · simp at h; subst h; exact Nat.le_refl _
    · rcases List.mem_cons.1 h with rfl | h
      · simp only [List.length_take]; omega
      · have := splitK_len sep k _ p h
        simp only [List.length_drop] at this; omega
theorem x33 (s : List UInt8) (hs : s.length ≤ 1000) : XFn Y T33 Tryd.f33 [.pv (.str s)] [] (Is (.tuple [mV (parseR s).1, .i (parseR s).2])) := by
  unfold XFn Tryd.f33
  rw [enter_1 _ (by decide)]
  unfold parseR
  by_cases h0 : 32 < s.length
  · have h0' : (32 : Int) < (s.length : Int) := by omega
    rw [if_pos h0]
    simp [-Int.not_lt, -Int.not_le, h0', mV]
  · have h0' : ¬ (32 : Int) < (s.length : Int) := by omega
    rw [if_neg h0]
    obtain ⟨l1, l2⟩ := cut_len s [47]
    have k1 : F49 [.str s, .str [47]] = some (.tuple [.str (Lib.cut s [47]).1, .str (tailP s), .bool (Lib.cut s [47]).2.2]) := by
      show (if s.length ≤ 1000 then _ else none) = _
      rw [if_pos (by omega)]; rfl
    have k2 : F50 [.str (Lib.cut s [47]).1, .str [43]] = some (.pv (.slice 1 (rowS (headP s)))) := by
      show (if (Lib.cut s [47]).1.length ≤ 1000 ∧ 1 ≤ [(43 : UInt8)].length then _ else none) = _
      rw [if_pos ⟨by omega, by simp⟩]; rfl
    obtain ⟨x, hx⟩ := atoiR_eq (tailP s)
    have k3 : F51 [.str (tailP s)] = some (.tuple [.i (atoiN (tailP s)), .pv x]) := by
      show (if (tailP s).length ≤ 1000 then some (atoiR (tailP s)) else none) = _
      rw [if_pos (by unfold tailP; omega), hx]
    have hparts : ∀ p ∈ headP s, p.length ≤ 1000 := fun p hp => by
      have := splitK_len _ _ _ p hp
      omega
    generalize hb : (Lib.cut s [47]).1 = b at *
    generalize (Lib.cut s [47]).2.2 = f at *
    generalize tailP s = a at *
    generalize headP s = parts at *
    generalize atoiN a = u at *
    by_cases h1 : 6 < parts.length
    · have h1' : (6 : Int) < (parts.length : Int) := by omega
      rw [if_pos h1]
      simp [-Int.not_lt, -Int.not_le, h0', T33_eq, k1, k2, k3, rowS_len, h1', mV]
    · have h1' : ¬ (6 : Int) < (parts.length : Int) := by omega
      rw [if_neg h1]
      simp [-Int.not_lt, -Int.not_le, h0', T33_eq, k1, k2, k3, rowS_len, h1']
      refine X_keep (loop33 s u parts (by omega) hparts parts.length 0 0 0 0 0 0 0 0 (by omega) (by omega) (by omega) (fun hn H => ?_) (fun c' a0 a1 a2 a3 a4 a5 hn => ?_)) ?_
      · rw [List.drop_zero] at hn
        rw [hn]
        simp [mV]
      · rw [List.drop_zero] at hn
        rw [hn]
        by_cases h2 : chkM c' u [a0, a1, a2, a3, a4, a5] = 0
        · have hok := okM_chk.2 h2
          by_cases h3 : textZ c' u [a0, a1, a2, a3, a4, a5] = s
          · simp [-Int.not_lt, -Int.not_le, T33_eq, F26, F48, h2, hok, h3, mV]
          · simp [-Int.not_lt, -Int.not_le, T33_eq, F26, F48, h2, hok, h3, mV]
        · simp [-Int.not_lt, -Int.not_le, T33_eq, F26, F48, h2, mV]
      · simp
def F33 : List SV → Option SV
  | [.pv (.str s)] => if s.length ≤ 1000 then some (.tuple [mV (parseR s).1, .i (parseR s).2]) else none
  | _ => none
theorem meets33 {W0 : World} (L : Laid W0) : OkAt W0 33 F33 := meets_fn env (tok_cons (meets49 L) (tok_cons (meets50 L) (tok_cons (meets51 L) (tok_cons (meets26 W0) (tok_cons (meets48 W0) tok_nil))))) mixed Tryd.func33 (by kernel_rfl) (by kernel_rfl) fun args r h => by
  unfold F33 at h
  split at h
  · split at h
    · rename_i hl; cases h; exact x33 _ hl
    · cases h
  · cases h
end Go.Proofs.YtooajpojikkkdaaDoor
