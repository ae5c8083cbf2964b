/- Levels and units; duration.Sum; the law of the sums, by the machine. -/
import Derived.Test.YtooajpojikkkdaaDoorMetreU
set_option linter.unusedSimpArgs false
set_option linter.unusedVariables false
set_option maxRecDepth 1000000
set_option maxHeartbeats 400000
namespace Go.Proofs.YtooajpojikkkdaaDoor
open Go Go.Pm Go.RowKit
theorem sum_same : ∀ (l : List Int) (g : Int), (∀ x ∈ l, x = g) → l.sum = (l.length : Int) * g
  | [], g, _ => by simp
  | a :: r, g, h => by
    have h1 := h a (by simp)
    have := sum_same r g fun x hx => h x (by simp [hx])
    rw [List.sum_cons, this, h1, List.length_cons, show ((r.length + 1 : Nat) : Int) = (r.length : Int) + 1 by omega, Int.add_mul, Int.one_mul]; omega
theorem onsets_mod (q : Int) : ∀ (l : List Int) (a : Int), a % q = 0 → ∀ b ∈ onsets q a l, b % q = 0
  | [], a, _, b, h => by simp [onsets] at h
  | g :: r, a, ha, b, h => by
    rcases List.mem_cons.1 h with rfl | h
    · exact ha
    · exact onsets_mod q r (a + g * q) (by rw [Int.add_mul_emod_self_right]; exact ha) b h
theorem inM_mod {c u t : Int} : inM c u t % unitZ u = t % unitZ u := by
  unfold inM lenZ
  exact Int.emod_emod_of_dvd t (Int.dvd_mul_left _ _)
theorem sub_ge4 (u t : Int) : ∀ (r k : Nat), k + r = 9 → 1 ≤ k → 4 ≤ subZ u t r k
  | 0, _, _, _ => by unfold subZ; omega
  | r + 1, k, h, hk => by
    unfold subZ
    split
    · omega
    · exact sub_ge4 u t r (k + 1) (by omega) (by omega)
theorem level_unit {c u t : Int} {gs : List Int} (h : okM c u gs) (h6 : gs.length = 6) (ht : t % unitZ u = 0) : levelZ c u gs t ≤ 3 := by
  obtain ⟨q1, q2, _⟩ := okq0 h.2.1
  have hs : subZ u (inM c u t) 9 0 = 3 := by
    unfold subZ
    rw [if_pos ⟨q1, by rw [q2, inM_mod]; exact ht⟩]; rfl
  unfold levelZ
  rw [hs]
  repeat' split
  all_goals omega
theorem level_sub {c u t : Int} {gs : List Int} (h : okM c u gs) (h6 : gs.length = 6) (ht : t % unitZ u ≠ 0) : 4 ≤ levelZ c u gs t := by
  obtain ⟨q1, q2, _⟩ := okq0 h.2.1
  obtain ⟨f1, f2, f3, f4⟩ := grpL_facts h h6
  have hr := unitZ_range h.2.1
  have hm : inM c u t % unitZ u ≠ 0 := by rw [inM_mod]; exact ht
  have n0 : ¬ inM c u t = 0 := fun e => hm (by rw [e]; simp)
  have n1 : ¬ (2 * inM c u t = lenZ c u ∧ eqB (grpL c u gs) = true) := by
    rintro ⟨e1, e2⟩
    obtain ⟨p1, p2⟩ := (eqB_iff _).1 e2
    have p3 := (minmax_eq _).1 p2
    have all : ∀ x ∈ grpL c u gs, x = (grpL c u gs).getD 0 0 := by
      cases hg : grpL c u gs with
      | nil => intro x hx; simp at hx
      | cons g r =>
        rw [hg] at p3
        intro x hx
        rcases List.mem_cons.1 hx with rfl | hx
        · rfl
        · have := List.all_eq_true.1 p3 x (by simpa using hx)
          simpa using this
    have hs := sum_same _ _ all
    rw [f2] at hs
    generalize (grpL c u gs).getD 0 0 = g at *
    obtain ⟨k, hk⟩ : ∃ k : Nat, (grpL c u gs).length = 2 * k := ⟨(grpL c u gs).length / 2, by omega⟩
    rw [hk] at hs
    have e3 : lenZ c u = 2 * ((k : Int) * g * unitZ u) := by
      unfold lenZ
      rw [hs, show ((2 * k : Nat) : Int) = 2 * (k : Int) by omega, Int.mul_assoc 2, Int.mul_assoc 2]
    have e4 : inM c u t = (k : Int) * g * unitZ u := by omega
    rw [e4] at hm
    exact hm (Int.mul_emod_left _ _)
  have n2 : ¬ (atZ c u gs t).2 = 0 := fun e => by
    have := (at_zero h h6).1 e
    exact hm (onsets_mod _ _ 0 (by simp) _ this)
  unfold levelZ
  rw [if_neg n0, if_neg n1, if_neg n2]
  have hk : ¬ (okq u 0 ∧ inM c u t % qv u 0 = 0) := by rw [q2]; exact fun e => hm e.2
  rw [subZ, if_neg hk]
  exact sub_ge4 u _ 8 1 rfl (by omega)
theorem level_bar {c u t : Int} {gs : List Int} (h : okM c u gs) : levelZ c u gs t = 0 ↔ t % lenZ c u = 0 := by
  have := sub_ge u (inM c u t) 9 0 rfl
  have e : inM c u t = t % lenZ c u := rfl
  rw [← e]
  unfold levelZ
  constructor
  · intro h0
    split at h0
    · assumption
    · split at h0
      · omega
      · split at h0 <;> omega
  · intro h0
    rw [if_pos h0]
theorem unit_seven {u : Int} (h : uOk u = true) : unitZ u = 1935360 ∨ unitZ u = 967680 ∨ unitZ u = 483840 ∨ unitZ u = 241920 ∨ unitZ u = 120960 ∨ unitZ u = 60480 ∨ unitZ u = 30240 := by
  rcases uOk_cases h with rfl | rfl | rfl | rfl | rfl | rfl | rfl <;> decide
theorem len_seven {c u : Int} (h : uOk u = true) : lenZ c u % 7560 = 0 := by
  unfold lenZ
  rcases unit_seven h with e | e | e | e | e | e | e <;> rw [e] <;> omega
theorem chain_sum {n : Int} : ∀ (l : List (Int × Int)) (a b : Int), chainZ n a b l → (l.map tkZ).sum = b - a
  | [], a, b, h => by have : a = b := h; subst this; simp
  | v :: r, a, b, h => by
    have := chain_sum r _ _ h.2.2.2
    rw [List.map_cons, List.sum_cons, this]; omega
theorem chain_ok {n : Int} : ∀ (l : List (Int × Int)) (a b : Int), chainZ n a b l → ∀ v ∈ l, ∃ i : Fin 40, v = V i
  | [], a, b, h, v, hv => by simp at hv
  | w :: r, a, b, h, v, hv => by
    rcases List.mem_cons.1 hv with rfl | hv
    · exact h.1
    · exact chain_ok r _ _ h.2.2.2 v hv
/-- Check, Ticks and Sum of valid note values. -/
def okV (l d : Int) : Prop := (-1 ≤ l ∧ l ≤ 8) ∧ 0 ≤ d ∧ d ≤ 3
instance (l d : Int) : Decidable (okV l d) := inferInstanceAs (Decidable (_ ∧ _))
theorem x66 (l d : Int) (h : okV l d) : XFn Y T0 Tryd.f66 [.agg [.i l, .i d]] [] (Is (.i 0)) := by
  unfold XFn Tryd.f66
  rw [enter_1 _ (by decide)]
  obtain ⟨⟨h1, h2⟩, h3, h4⟩ := h
  have a1 : ¬ l < -1 := by omega
  have a2 : ¬ 8 < l := by omega
  have a3 : ¬ d < 0 := by omega
  have a4 : ¬ 3 < d := by omega
  simp [-Int.not_lt, -Int.not_le, a1, a2, a3, a4]
def F66 : List SV → Option SV
  | [.agg [.pv (.int .i64 l), .pv (.int .i64 d)]] => if okV l d then some (.i 0) else none
  | _ => none
theorem meets66 (W0 : World) : OkAt W0 66 F66 := meets_fn env tok_nil mixed Tryd.func66 (by kernel_rfl) (by kernel_rfl) fun args r h => by
  unfold F66 at h
  split at h
  · split at h
    · rename_i hc; cases h; exact x66 _ _ hc
    · cases h
  · cases h
noncomputable def T47 : FuncId → Option Pm.Spec := tab [(66, .pure false F66), (67, .pure false F67)]
theorem T47_eq (g : Nat) : T47 g = tab [(66, .pure false F66), (67, .pure false F67)] g := rfl
theorem x47 (l d : Int) (h : okV l d) : XFn Y T47 Tryd.f47 [.agg [.i l, .i d]] [] (Is (.tuple [.i (tkZ (l, d)), .i 0])) := by
  unfold XFn Tryd.f47
  rw [enter_1 _ (by decide)]
  have h' := h
  unfold okV at h'
  simp [-Int.not_lt, -Int.not_le, T47_eq, F66, F67, h, h']
def F47 : List SV → Option SV
  | [.agg [.pv (.int .i64 l), .pv (.int .i64 d)]] => if okV l d then some (.tuple [.i (tkZ (l, d)), .i 0]) else none
  | _ => none
theorem meets47 (W0 : World) : OkAt W0 47 F47 := meets_fn env (tok_cons (meets66 W0) (tok_cons (meets67 W0) tok_nil)) mixed Tryd.func47 (by kernel_rfl) (by kernel_rfl) fun args r h => by
  unfold F47 at h
  split at h
  · split at h
    · rename_i hc; cases h; exact x47 _ _ hc
    · cases h
  · cases h
theorem tk_range {l d : Int} (h : okV l d) : 7560 ≤ tkZ (l, d) ∧ tkZ (l, d) ≤ 7257600 := by
  obtain ⟨⟨h1, h2⟩, h3, h4⟩ := h
  rcases (by omega : l = -1 ∨ l = 0 ∨ l = 1 ∨ l = 2 ∨ l = 3 ∨ l = 4 ∨ l = 5 ∨ l = 6 ∨ l = 7 ∨ l = 8) with rfl | rfl | rfl | rfl | rfl | rfl | rfl | rfl | rfl | rfl <;>
    rcases (by omega : d = 0 ∨ d = 1 ∨ d = 2 ∨ d = 3) with rfl | rfl | rfl | rfl <;> decide +kernel
noncomputable def T30 : FuncId → Option Pm.Spec := tab [(47, .pure false F47)]
theorem T30_eq (g : Nat) : T30 g = tab [(47, .pure false F47)] g := rfl
theorem loop30 {F : List Fr} {P : SV × List Blk → Prop} {rs : List ResultVar} (l : List (Int × Int)) (hl : l.length ≤ 1024) (hv : ∀ v ∈ l, okV v.1 v.2) : ∀ (r m : Nat) (s : Int) (H : List Blk), m + r = l.length → 0 ≤ s → s ≤ 7257600 * m →
    (∀ H', X Y T30 rs F (.exit 0) ⟨mk 31 .J [(4, .i (s + ((l.drop m).map tkZ).sum))], H'⟩ P) →
    X Y T30 rs F (.loop (loopN Tryd.f30 0)) ⟨mk 31 .J [(4, .i s), (12, argV l), (13, .i (l.length : Nat)), (14, .i (m : Nat))], H⟩ P := by
  intro r
  induction r with
  | zero =>
    intro m s H e hs1 hs2 hx
    have q2 : ¬ (m : Int) < (l.length : Int) := by omega
    rw [List.drop_eq_nil_of_le (by omega)] at hx
    simp only [List.map_nil, List.sum_nil, Int.add_zero] at hx
    apply X_loop_of
    · simp only [loopN, Tryd.f30, loopsOf, List.nil_append, List.append_nil, List.cons_append, List.getD_cons_succ, List.getD_cons_zero]; rfl
    simp [-Int.not_lt, -Int.not_le, q2]
    refine X_keep (hx H) ?_
    simp
  | succ r ih =>
    intro m s H e hs1 hs2 hx
    have hml : m < l.length := by omega
    have q2 : (m : Int) < (l.length : Int) := by omega
    have q3 := next_i (m := m) (by omega)
    have r1 := at_arg hml
    have e1 : l.drop m = l.getD m (0, 0) :: l.drop (m + 1) := by rw [List.drop_eq_getElem_cons hml]; simp [hml]
    have hvm := hv (l.getD m (0, 0)) (by simp [hml])
    rw [e1] at hx
    generalize l.getD m (0, 0) = v at *
    obtain ⟨v1, v2⟩ := v
    replace hvm : okV v1 v2 := hvm
    have ht : 7560 ≤ tkZ (v1, v2) ∧ tkZ (v1, v2) ≤ 7257600 := tk_range hvm
    simp only [List.map_cons, List.sum_cons] at hx
    have q4 : IntKind.i64.wrap (s + tkZ (v1, v2)) = s + tkZ (v1, v2) := wrap64 (by omega) (by omega)
    have hF : F47 [.agg [.i v1, .i v2]] = some (.tuple [.i (tkZ (v1, v2)), .i 0]) := by
      simp only [F47]; rw [if_pos hvm]
    generalize tkZ (v1, v2) = t at *
    apply X_loop_of
    · simp only [loopN, Tryd.f30, loopsOf, List.nil_append, List.append_nil, List.cons_append, List.getD_cons_succ, List.getD_cons_zero]; rfl
    simp [-Int.natCast_add, -Int.not_lt, -Int.not_le, -aIndexAddr, live_arg, q2, q3, q4, r1, T30_eq, hF]
    refine X_keep (ih (m + 1) (s + t) _ (by omega) (by omega) (by omega) (fun H' => by rw [Int.add_assoc]; exact hx H')) ?_
    simp [-Int.natCast_add]
theorem x30 (l : List (Int × Int)) (hl : l.length ≤ 1024) (hv : ∀ v ∈ l, okV v.1 v.2) : XFn Y T30 Tryd.f30 [argV l] [] (Is (.tuple [.i (l.map tkZ).sum, .i 0])) := by
  unfold XFn Tryd.f30
  rw [enter_1 _ (by decide)]
  have q1 : ¬ 1024 < (l.length : Int) := by omega
  simp [-Int.not_lt, -Int.not_le, -aLen, live_arg, len_arg, q1]
  refine X_keep (loop30 l hl hv l.length 0 0 _ (by omega) (by omega) (by omega) fun H' => ?_) ?_
  · simp
  · simp
def F30 : List SV → Option SV
  | [x] => match unV x with
    | some l => if l.length ≤ 1024 ∧ (l.all fun v => decide (okV v.1 v.2)) = true then some (.tuple [.i (l.map tkZ).sum, .i 0]) else none
    | none => none
  | _ => none
theorem meets30 (W0 : World) : OkAt W0 30 F30 := meets_fn env (tok_cons (meets47 W0) tok_nil) mixed Tryd.func30 (by kernel_rfl) (by kernel_rfl) fun args r h => by
  unfold F30 at h
  split at h
  · split at h
    · rename_i l h1
      split at h
      · rename_i hl
        cases h
        rw [unV_eq h1]
        exact x30 l hl.1 fun v hv => by simpa using List.all_eq_true.1 hl.2 v hv
      · cases h
    · cases h
  · cases h
end Go.Proofs.YtooajpojikkkdaaDoor
