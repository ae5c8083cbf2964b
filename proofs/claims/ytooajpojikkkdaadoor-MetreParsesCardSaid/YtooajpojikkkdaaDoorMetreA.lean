/- Time signatures: which are valid, by the machine. -/
import Derived.Test.YtooajpojikkkdaaDoorPmTys
set_option linter.unusedSimpArgs false
set_option linter.unusedVariables false
set_option maxRecDepth 1000000
set_option maxHeartbeats 400000
namespace Go.Proofs.YtooajpojikkkdaaDoor
open Go Go.Pm
abbrev OkAt (W0 : World) (g : Nat) (F : List SV → Option SV) : Prop := Enterable Tryd.prog g ∧ Meets Tryd.prog W0 g (specFn (.pure false F))
abbrev OkFr (W0 : World) (g : Nat) (F : List SV → Option SV) : Prop := Enterable Tryd.prog g ∧ Meets Tryd.prog W0 g (specFn (.pure true F))
/-- The cells of a time signature. -/
abbrev M8 (c u g0 g1 g2 g3 g4 g5 : Int) : List SV := [.i c, .i u, .i g0, .i g1, .i g2, .i g3, .i g4, .i g5]
abbrev G6 (g0 g1 g2 g3 g4 g5 : Int) : List SV := [.i g0, .i g1, .i g2, .i g3, .i g4, .i g5]
def gAt (g0 g1 g2 g3 g4 g5 : Int) (i : Nat) : Int := [g0, g1, g2, g3, g4, g5].getD i 0
theorem g6_at (g0 g1 g2 g3 g4 g5 : Int) {i : Nat} (h : i < 6) : (G6 g0 g1 g2 g3 g4 g5)[i]? = some (.i (gAt g0 g1 g2 g3 g4 g5 i)) := by
  have : i = 0 ∨ i = 1 ∨ i = 2 ∨ i = 3 ∨ i = 4 ∨ i = 5 := by omega
  rcases this with rfl | rfl | rfl | rfl | rfl | rfl <;> rfl
theorem g6_drop (g0 g1 g2 g3 g4 g5 : Int) {i : Nat} (h : i < 6) : [g0, g1, g2, g3, g4, g5].drop i = gAt g0 g1 g2 g3 g4 g5 i :: [g0, g1, g2, g3, g4, g5].drop (i + 1) := by
  have : i = 0 ∨ i = 1 ∨ i = 2 ∨ i = 3 ∨ i = 4 ∨ i = 5 := by omega
  rcases this with rfl | rfl | rfl | rfl | rfl | rfl <;> rfl
theorem m8_at (c u g0 g1 g2 g3 g4 g5 : Int) {i : Nat} (h : i < 6) : (M8 c u g0 g1 g2 g3 g4 g5)[2 + i]? = some (.i (gAt g0 g1 g2 g3 g4 g5 i)) := by
  have : i = 0 ∨ i = 1 ∨ i = 2 ∨ i = 3 ∨ i = 4 ∨ i = 5 := by omega
  rcases this with rfl | rfl | rfl | rfl | rfl | rfl <;> rfl
/-- The sum of the groups and how many there are, if they are as they should be. -/
def gfold : List Int → Int → Int → Int → Option (Int × Int)
  | [], _, s, n => some (s, n)
  | g :: r, i, s, n => if g < 0 ∨ 64 < g ∨ (0 < g ∧ i ≠ n) then none else if 0 < g then gfold r (i + 1) (s + g) (n + 1) else gfold r (i + 1) s n
def grpB (c : Int) (gs : List Int) : Bool := decide (gs = [0, 0, 0, 0, 0, 0]) || (match gfold gs 0 0 0 with
  | some (s, n) => decide (s = c) && decide (2 ≤ n)
  | none => false)
noncomputable abbrev T0 : FuncId → Option Pm.Spec := tab []
theorem loop46 {F : List Fr} {P : SV × List Blk → Prop} (c u g0 g1 g2 g3 g4 g5 : Int) : ∀ (r m : Nat) (s n : Int), m + r = 6 → (0 ≤ s ∧ s ≤ 64 * m) → (0 ≤ n ∧ n ≤ m) →
    (match gfold ([g0, g1, g2, g3, g4, g5].drop m) m s n with
      | some (s', n') => X Y T0 [.tmp 2] F (.exit 0) ⟨mk 50 .J [(1, .ptr 0 0), (3, .i s'), (4, .i n')], [.box (M8 c u g0 g1 g2 g3 g4 g5)]⟩ P
      | none => P (.bool false, [.box (M8 c u g0 g1 g2 g3 g4 g5)])) →
    X Y T0 [.tmp 2] F (.loop (loopN Tryd.f46 0)) ⟨mk 50 .J [(1, .ptr 0 0), (3, .i s), (4, .i n), (12, .agg (G6 g0 g1 g2 g3 g4 g5)), (13, .i (m : Nat))], [.box (M8 c u g0 g1 g2 g3 g4 g5)]⟩ P := by
  intro r
  induction r with
  | zero =>
    intro m s n h1 hs hn hx
    have e1 : m = 6 := by omega
    subst e1
    apply X_loop_of
    · simp only [loopN, Tryd.f46, loopsOf, List.nil_append, List.append_nil, List.cons_append, List.getD_cons_succ, List.getD_cons_zero]; rfl
    simp
    simp [gfold] at hx
    refine X_keep hx ?_
    simp
  | succ r ih =>
    intro m s n h1 hs hn hx
    have hm : m < 6 := by omega
    have hg := g6_at g0 g1 g2 g3 g4 g5 hm
    rw [g6_drop g0 g1 g2 g3 g4 g5 hm] at hx
    generalize gAt g0 g1 g2 g3 g4 g5 m = g at hg hx
    have q2 : ((m : Int) < 6) := by omega
    have q3 : IntKind.i64.wrap ((m : Int) + 1) = ((m + 1 : Nat) : Int) := by rw [show ((m : Int) + 1) = ((m + 1 : Nat) : Int) by omega]; exact wrap64 (by omega) (by omega)
    have q4 : IntKind.i64.wrap (n + 1) = n + 1 := wrap64 (by omega) (by omega)
    rw [gfold] at hx
    apply X_loop_of
    · simp only [loopN, Tryd.f46, loopsOf, List.nil_append, List.append_nil, List.cons_append, List.getD_cons_succ, List.getD_cons_zero]; rfl
    simp [-Int.natCast_add, -Int.not_lt, -Int.not_le, q2, q3, q4, hg]
    refine ⟨fun h => ?_, fun h => ⟨fun h' => ?_, fun h' => ⟨fun h2 => ⟨fun h3 => ?_, fun h3 => ?_⟩, fun h2 => ?_⟩⟩⟩
    · rw [if_pos (by omega)] at hx; exact hx
    · rw [if_pos (by omega)] at hx; exact hx
    · refine ⟨fun _ => ?_, fun h4 => absurd h2 h4⟩
      rw [if_neg (by omega), if_pos h2, show (m : Int) + 1 = ((m + 1 : Nat) : Int) by omega] at hx
      rw [show IntKind.i64.wrap (s + g) = s + g from wrap64 (by omega) (by omega)]
      refine X_keep (ih (m + 1) (s + g) (n + 1) (by omega) (by omega) (by omega) hx) ?_
      simp
    · rw [if_pos (by omega)] at hx; exact hx
    · refine ⟨fun h4 => absurd h4 h2, fun _ => ?_⟩
      rw [if_neg (by omega), if_neg h2, show (m : Int) + 1 = ((m + 1 : Nat) : Int) by omega] at hx
      refine X_keep (ih (m + 1) s n (by omega) (by omega) (by omega) hx) ?_
      simp
theorem x46 (c u g0 g1 g2 g3 g4 g5 : Int) : XFn Y T0 Tryd.f46 [.agg (M8 c u g0 g1 g2 g3 g4 g5)] [] (Is (.bool (grpB c [g0, g1, g2, g3, g4, g5]))) := by
  unfold XFn Tryd.f46
  rw [enter_1 _ (by decide)]
  by_cases hz : [g0, g1, g2, g3, g4, g5] = [0, 0, 0, 0, 0, 0]
  · have hz' := hz
    simp only [List.cons.injEq, and_true] at hz
    obtain ⟨rfl, rfl, rfl, rfl, rfl, rfl⟩ := hz
    simp [grpB]
  · have hz' : ¬ (g0 = 0 ∧ g1 = 0 ∧ g2 = 0 ∧ g3 = 0 ∧ g4 = 0 ∧ g5 = 0) := by simpa using hz
    have hb : (g0 == 0 && (g1 == 0 && (g2 == 0 && (g3 == 0 && (g4 == 0 && g5 == 0))))) = false := by
      rw [Bool.eq_false_iff]; simpa using hz'
    simp [hb]
    refine X_keep (loop46 c u g0 g1 g2 g3 g4 g5 6 0 0 0 (by omega) (by omega) (by omega) ?_) ?_
    · simp only [List.drop_zero, Int.natCast_zero]
      cases hf : gfold [g0, g1, g2, g3, g4, g5] 0 0 0 with
      | none => simp [grpB, hz, hf]
      | some st =>
        obtain ⟨s, n⟩ := st
        simp [grpB, hz, hf]
        refine ⟨fun h _ => h, fun h h' => absurd h' h⟩
    · simp
def F46 : List SV → Option SV
  | [.agg [.pv (.int .i64 c), .pv (.int .i64 _), .pv (.int .i64 g0), .pv (.int .i64 g1), .pv (.int .i64 g2), .pv (.int .i64 g3), .pv (.int .i64 g4), .pv (.int .i64 g5)]] => some (.bool (grpB c [g0, g1, g2, g3, g4, g5]))
  | _ => none
theorem meets46 (W0 : World) : OkAt W0 46 F46 := meets_fn env tok_nil mixed Tryd.func46 (by kernel_rfl) (by kernel_rfl) fun args r h => by
  unfold F46 at h
  split at h
  · cases h; exact x46 _ _ _ _ _ _ _ _
  · cases h
def uOk (u : Int) : Bool := u == 1 || u == 2 || u == 4 || u == 8 || u == 16 || u == 32 || u == 64
theorem uOk_all : (List.range 65).all (fun n => n == 0 || (decide (IntKind.i64.wrap (((((n : Int) % 2 ^ IntKind.i64.bits).toNat &&& (IntKind.i64.wrap ((n : Int) - 1) % 2 ^ IntKind.i64.bits).toNat : Nat)) : Int) = 0) == uOk (n : Int))) = true := by kernel_rfl
theorem uOk_bits {u : Int} (h : 1 ≤ u ∧ u ≤ 64) : IntKind.i64.wrap ((((u % 2 ^ IntKind.i64.bits).toNat &&& (IntKind.i64.wrap (u - 1) % 2 ^ IntKind.i64.bits).toNat : Nat)) : Int) = 0 ↔ uOk u = true := by
  have h1 := List.all_eq_true.1 uOk_all u.toNat (by simp; omega)
  rw [show ((u.toNat : Nat) : Int) = u by omega] at h1
  simp only [Bool.or_eq_true, beq_iff_eq] at h1
  rcases h1 with h1 | h1
  · omega
  · rw [← h1, decide_eq_true_iff]
theorem uOk_bad {u : Int} (h : u < 1 ∨ 64 < u) : uOk u = false := by
  unfold uOk
  simp
  omega
/-- The error of a time signature. -/
def chkM (c u : Int) (gs : List Int) : Int := if c < 1 ∨ 64 < c then 2 else if uOk u = false then 17 else if grpB c gs = false then 19 else 0
noncomputable def T26 : FuncId → Option Pm.Spec := tab [(46, .pure false F46)]
theorem T26_eq (g : Nat) : T26 g = tab [(46, .pure false F46)] g := rfl
theorem x26 (c u g0 g1 g2 g3 g4 g5 : Int) : XFn Y T26 Tryd.f26 [.agg (M8 c u g0 g1 g2 g3 g4 g5)] [] (Is (.i (chkM c u [g0, g1, g2, g3, g4, g5]))) := by
  unfold XFn Tryd.f26
  rw [enter_1 _ (by decide)]
  simp [T26_eq, F46, -Int.not_lt, -Int.not_le]
  refine ⟨fun h => ?_, fun h => ⟨fun h => ?_, fun h => ⟨fun h => ?_, fun h => ⟨fun h => ?_, fun h => ⟨fun h => ⟨fun h => ?_, fun h => ?_⟩, fun h => ?_⟩⟩⟩⟩⟩
  · rw [chkM, if_pos (by omega)]
  · rw [chkM, if_pos (by omega)]
  · rw [chkM, if_neg (by omega), if_pos (uOk_bad (by omega))]
  · rw [chkM, if_neg (by omega), if_pos (uOk_bad (by omega))]
  · rw [chkM, if_neg (by omega), if_neg (by rw [(uOk_bits ⟨by omega, by omega⟩).1 (by assumption)]; decide), if_neg (by rw [h]; decide)]
  · rw [chkM, if_neg (by omega), if_neg (by rw [(uOk_bits ⟨by omega, by omega⟩).1 (by assumption)]; decide), if_pos h]
  · rw [chkM, if_neg (by omega), if_pos]
    cases hu : uOk u with
    | false => rfl
    | true => exact absurd ((uOk_bits ⟨by omega, by omega⟩).2 hu) h
def F26 : List SV → Option SV
  | [.agg [.pv (.int .i64 c), .pv (.int .i64 u), .pv (.int .i64 g0), .pv (.int .i64 g1), .pv (.int .i64 g2), .pv (.int .i64 g3), .pv (.int .i64 g4), .pv (.int .i64 g5)]] => some (.i (chkM c u [g0, g1, g2, g3, g4, g5]))
  | _ => none
theorem meets26 (W0 : World) : OkAt W0 26 F26 := meets_fn env (tok_cons (meets46 W0) tok_nil) mixed Tryd.func26 (by kernel_rfl) (by kernel_rfl) fun args r h => by
  unfold F26 at h
  split at h
  · cases h; exact x26 _ _ _ _ _ _ _ _
  · cases h

/-- The reference's check: the powers. -/
def powF (u : Int) : Nat → Int → Bool → Bool
  | 0, _, b => b
  | r + 1, p, b => powF u r (2 * p) (b || u == p)
theorem powF_uOk (u : Int) : powF u 7 1 false = uOk u := by
  simp [powF, uOk]
theorem loop17u {F : List Fr} {P : SV × List Blk → Prop} {rs : List ResultVar} (c u g0 g1 g2 g3 g4 g5 : Int) : ∀ (r : Nat) (p : Int) (b : Bool), p * 2 ^ r = 128 →
    X Y T0 rs F (.exit 0) ⟨mk 72 .J [(1, .ptr 0 0), (3, .bool (powF u r p b))], [.box (M8 c u g0 g1 g2 g3 g4 g5)]⟩ P →
    X Y T0 rs F (.loop (loopN Tryd.f17 0)) ⟨mk 72 .J [(1, .ptr 0 0), (3, .bool b), (4, .i p)], [.box (M8 c u g0 g1 g2 g3 g4 g5)]⟩ P := by
  intro r
  induction r with
  | zero =>
    intro p b hp hx
    have : p = 128 := by simpa using hp
    subst this
    apply X_loop_of
    · simp only [loopN, Tryd.f17, loopsOf, List.nil_append, List.append_nil, List.cons_append, List.getD_cons_succ, List.getD_cons_zero]; rfl
    simp
    simp [powF] at hx
    refine X_keep hx ?_
    simp
  | succ r ih =>
    intro p b hp hx
    have h2 : (2 : Int) ^ r ≥ 1 := by
      have : (0 : Int) < 2 ^ r := Int.pow_pos (by decide)
      omega
    have hp' : 2 * p * 2 ^ r = 128 := by rw [Int.pow_succ] at hp; rw [← hp]; ac_rfl
    have hp0 : 0 < p := by
      by_cases h : 0 < p
      · exact h
      · exfalso
        have : 2 * p * 2 ^ r ≤ 0 := Int.mul_nonpos_of_nonpos_of_nonneg (by omega) (by omega)
        omega
    have hp1 : p ≤ 64 := by
      have : 2 * p * 1 ≤ 2 * p * 2 ^ r := Int.mul_le_mul_of_nonneg_left h2 (by omega)
      omega
    have q3 : IntKind.i64.wrap (2 * p) = 2 * p := wrap64 (by omega) (by omega)
    apply X_loop_of
    · simp only [loopN, Tryd.f17, loopsOf, List.nil_append, List.append_nil, List.cons_append, List.getD_cons_succ, List.getD_cons_zero]; rfl
    rw [powF] at hx
    cases b with
    | true =>
      simp [hp1, q3]
      refine X_keep (ih (2 * p) true hp' (by simpa using hx)) ?_
      simp
    | false =>
      simp [hp1, q3]
      refine X_keep (ih (2 * p) (u == p) hp' (by simpa using hx)) ?_
      simp

theorem gfold_le : ∀ (gs : List Int) (i s n s' n' : Int), gfold gs i s n = some (s', n') → n ≤ n' ∧ (n' = n → ∀ g ∈ gs, g = 0)
  | [], i, s, n, s', n', h => by simp [gfold] at h; exact ⟨by omega, fun _ g hg => by cases hg⟩
  | g :: r, i, s, n, s', n', h => by
    rw [gfold] at h
    split at h
    · cases h
    · rename_i h1
      split at h
      · have := gfold_le r _ _ _ _ _ h
        exact ⟨by omega, fun e => by omega⟩
      · have := gfold_le r _ _ _ _ _ h
        refine ⟨this.1, fun e x hx => ?_⟩
        rcases List.mem_cons.1 hx with rfl | hx
        · omega
        · exact this.2 e x hx
theorem grp_ref (c g0 g1 g2 g3 g4 g5 : Int) {s n : Int} (h : gfold [g0, g1, g2, g3, g4, g5] 0 0 0 = some (s, n)) : grpB c [g0, g1, g2, g3, g4, g5] = !(n == 1 || (decide (1 < n) && s != c)) := by
  have h1 := gfold_le _ _ _ _ _ _ h
  unfold grpB
  rw [h]
  by_cases hz : [g0, g1, g2, g3, g4, g5] = [0, 0, 0, 0, 0, 0]
  · have : n = 0 := by
      rw [hz] at h
      simp [gfold] at h
      omega
    subst this
    simp [hz]
  · have hn : n ≠ 0 := by
      intro e
      have := h1.2 e
      apply hz
      simp at this ⊢
      exact this
    rw [decide_eq_false hz, Bool.false_or]
    rw [Bool.eq_iff_iff]
    simp
    omega
theorem loop17g {F : List Fr} {P : SV × List Blk → Prop} (c u g0 g1 g2 g3 g4 g5 : Int) : ∀ (r m : Nat) (s n : Int), m + r = 6 → (0 ≤ s ∧ s ≤ 64 * m) → (0 ≤ n ∧ n ≤ m) →
    (match gfold ([g0, g1, g2, g3, g4, g5].drop m) m s n with
      | some (s', n') => X Y T0 [.tmp 2] F (.exit 2) ⟨mk 72 .J [(1, .ptr 0 0), (5, .i s'), (6, .i n')], [.box (M8 c u g0 g1 g2 g3 g4 g5)]⟩ P
      | none => P (.i 19, [.box (M8 c u g0 g1 g2 g3 g4 g5)])) →
    X Y T0 [.tmp 2] F (.loop (loopN Tryd.f17 1)) ⟨mk 72 .J [(1, .ptr 0 0), (5, .i s), (6, .i n), (7, .i (m : Nat))], [.box (M8 c u g0 g1 g2 g3 g4 g5)]⟩ P := by
  intro r
  induction r with
  | zero =>
    intro m s n h1 hs hn hx
    have e1 : m = 6 := by omega
    subst e1
    apply X_loop_of
    · simp only [loopN, Tryd.f17, loopsOf, List.nil_append, List.append_nil, List.cons_append, List.getD_cons_succ, List.getD_cons_zero]; rfl
    simp
    simp [gfold] at hx
    refine X_keep hx ?_
    simp
  | succ r ih =>
    intro m s n h1 hs hn hx
    have hm : m < 6 := by omega
    have hg := m8_at c u g0 g1 g2 g3 g4 g5 hm
    rw [g6_drop g0 g1 g2 g3 g4 g5 hm] at hx
    generalize gAt g0 g1 g2 g3 g4 g5 m = g at hg hx
    have q2 : ((m : Int) < 6) := by omega
    have q3 : IntKind.i64.wrap ((m : Int) + 1) = ((m + 1 : Nat) : Int) := by rw [show ((m : Int) + 1) = ((m + 1 : Nat) : Int) by omega]; exact wrap64 (by omega) (by omega)
    have q4 : IntKind.i64.wrap (n + 1) = n + 1 := wrap64 (by omega) (by omega)
    rw [gfold] at hx
    apply X_loop_of
    · simp only [loopN, Tryd.f17, loopsOf, List.nil_append, List.append_nil, List.cons_append, List.getD_cons_succ, List.getD_cons_zero]; rfl
    simp [-Int.natCast_add, -Int.not_lt, -Int.not_le, q2, q3, q4, hg]
    refine ⟨fun h => ?_, fun h => ⟨fun h' => ?_, fun h' => ⟨fun h2 => ⟨fun h3 => ?_, fun h3 => ⟨fun _ => ?_, fun h4 => absurd h2 h4⟩⟩, fun h2 => ⟨fun h4 => absurd h4 h2, fun _ => ?_⟩⟩⟩⟩
    · rw [if_pos (by omega)] at hx; exact hx
    · rw [if_pos (by omega)] at hx; exact hx
    · rw [if_pos (by omega)] at hx; exact hx
    · rw [if_neg (by omega), if_pos h2, show (m : Int) + 1 = ((m + 1 : Nat) : Int) by omega] at hx
      rw [show IntKind.i64.wrap (s + g) = s + g from wrap64 (by omega) (by omega)]
      refine X_keep (ih (m + 1) (s + g) (n + 1) (by omega) (by omega) (by omega) hx) ?_
      simp
    · rw [if_neg (by omega), if_neg h2, show (m : Int) + 1 = ((m + 1 : Nat) : Int) by omega] at hx
      refine X_keep (ih (m + 1) s n (by omega) (by omega) (by omega) hx) ?_
      simp
theorem x17 (c u g0 g1 g2 g3 g4 g5 : Int) : XFn Y T0 Tryd.f17 [.agg (M8 c u g0 g1 g2 g3 g4 g5)] [] (Is (.i (chkM c u [g0, g1, g2, g3, g4, g5]))) := by
  unfold XFn Tryd.f17
  rw [enter_1 _ (by decide)]
  simp [-Int.not_lt, -Int.not_le]
  refine ⟨fun h => ?_, fun h => ⟨fun h' => ?_, fun h' => ?_⟩⟩
  · rw [chkM, if_pos (by omega)]
  · rw [chkM, if_pos (by omega)]
  · refine X_keep (loop17u c u g0 g1 g2 g3 g4 g5 7 1 false (by decide) ?_) ?_
    · rw [powF_uOk]
      cases hu : uOk u with
      | false => simp [chkM, hu]; omega
      | true =>
        simp
        refine X_keep (loop17g c u g0 g1 g2 g3 g4 g5 6 0 0 0 (by omega) (by omega) (by omega) ?_) ?_
        · simp only [List.drop_zero, Int.natCast_zero]
          cases hf : gfold [g0, g1, g2, g3, g4, g5] 0 0 0 with
          | none =>
            simp only []
            rw [chkM, if_neg (by omega), if_neg (by rw [hu]; decide), if_pos]
            · simp
            · unfold grpB
              rw [hf]
              by_cases hz : [g0, g1, g2, g3, g4, g5] = [0, 0, 0, 0, 0, 0]
              · rw [hz] at hf; simp [gfold] at hf
              · simp [hz]
          | some st =>
            obtain ⟨s, n⟩ := st
            have hg := grp_ref c g0 g1 g2 g3 g4 g5 hf
            have e : chkM c u [g0, g1, g2, g3, g4, g5] = if n = 1 ∨ 1 < n ∧ s ≠ c then 19 else 0 := by
              rw [chkM, if_neg (by omega), if_neg (by rw [hu]; decide), hg]
              by_cases h : n = 1 ∨ 1 < n ∧ s ≠ c
              · rw [if_pos h, if_pos (by simp; omega)]
              · rw [if_neg h, if_neg (by simp; omega)]
            rw [e]
            simp [-Int.not_lt, -Int.not_le]
            omega
        · simp
    · simp
def F17 : List SV → Option SV := F26
theorem meets17 (W0 : World) : OkAt W0 17 F17 := meets_fn env tok_nil mixed Tryd.func17 (by kernel_rfl) (by kernel_rfl) fun args r h => by
  unfold F17 F26 at h
  split at h
  · cases h; exact x17 _ _ _ _ _ _ _ _
  · cases h
end Go.Proofs.YtooajpojikkkdaaDoor
