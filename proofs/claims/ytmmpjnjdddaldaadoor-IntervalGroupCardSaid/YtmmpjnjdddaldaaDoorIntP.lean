/- slices.IndexFunc over a closure that looks into its capture; Exact, by the machine. -/
import Derived.Test.YtmmpjnjdddaldaaDoorIntO
set_option linter.unusedSimpArgs false
set_option linter.unusedVariables false
set_option maxRecDepth 1000000
set_option maxHeartbeats 400000
namespace Go.Proofs.YtmmpjnjdddaldaaDoor
open Go Go.Pm Go.RowKit
noncomputable def T49 : FuncId → Option Pm.Spec := tab [(38, .pure false F38)]
theorem T49_eq (g : Nat) : T49 g = tab [(38, .pure false F38)] g := rfl
def F49 : List SV → Option PV
  | [.agg [.pv (.int .i64 s), .pv (.int .i64 a), .pv (.int .i64 o)], .tuple [.pv (.int .i64 g)]] => if inR s a o then some (.bool (decide (posZ s o = g))) else none
  | _ => none
theorem x49 (s a o g : Int) (h : inR s a o) (H : List Blk) (k : Nat) (hk : H[k]? = some (.box [.i g])) :
    XFn Y T49 Tryd.f49 [P3 s a o, .ptr k 0] H (fun x => x.1 = .pv (.bool (decide (posZ s o = g))) ∧ ∃ bs, x.2 = H ++ bs) := by
  unfold XFn Tryd.f49
  rw [enter_2 _ (by decide)]
  have hF : F38 [P3 s a o] = some (.i (posZ s o)) := by simp only [F38]; rw [if_pos h]
  have hk' : ∀ b, (H ++ b)[k]? = some (.box [.i g]) := fun b => by
    rw [List.getElem?_append_left (List.getElem?_eq_some_iff.1 hk).1]; exact hk
  simp [-Int.not_lt, -Int.not_le, T49_eq, hF, hk']
  rfl
theorem meets49 (W0 : World) : OkRd W0 49 F49 := meets_read env (tok_cons (meets38 W0) tok_nil) mixed Tryd.func49 (by kernel_rfl) (by kernel_rfl) fun args H rs p has h => by
  unfold F49 at h
  split at h
  · split at h
    · rename_i hc
      cases h
      obtain ⟨c1, cs, rfl, h1, has⟩ := resCs_cons has
      obtain ⟨c2, cs, rfl, h2, has⟩ := resCs_cons has
      have := resCs_nil has
      subst this
      rw [res_P h1]
      obtain ⟨k, rfl, hk⟩ := res_box h2
      exact x49 _ _ _ _ hc H k hk
    · cases h
  · cases h
noncomputable def T48 : FuncId → Option Pm.Spec := tab [(2, .read F0), (49, .read F49)]
theorem T48_eq (g : Nat) : T48 g = tab [(2, .read F0), (49, .read F49)] g := rfl
/-- The index of the first one at a position. -/
def ixP (g : Int) : List P → Int → Int
  | [], _ => -1
  | q :: r, i => if posP q = g then i else ixP g r (i + 1)
theorem loop48 {F : List Fr} {Q : SV × List Blk → Prop} {H : List Blk} (l : List P) (hl : l.length ≤ 12) (ho : okP l = true) (g : Int) (k : Nat) (hk : H[k]? = some (.box [.i g])) : ∀ (r i : Nat), i + r = l.length →
    (ixP g (l.drop i) i = -1 → X Y T48 [.tmp 4] F (.exit 0) ⟨mk 19 .J [], H⟩ Q) → (ixP g (l.drop i) i ≠ -1 → Q (.i (ixP g (l.drop i) i), H)) →
    X Y T48 [.tmp 4] F (.loop (loopN Tryd.f48 0)) ⟨mk 19 .J [(0, .pv (.slice 3 (rowP l))), (1, .clo 49 [.ptr k 0]), (7, .i (l.length : Nat)), (8, .i (i : Nat))], H⟩ Q := by
  intro r
  induction r with
  | zero =>
    intro i e hx hp
    have q2 : ¬ (i : Int) < (l.length : Int) := by omega
    rw [List.drop_eq_nil_of_le (by omega)] at hx
    apply X_loop_of
    · simp only [loopN, Tryd.f48, loopsOf, List.nil_append, List.append_nil, List.cons_append, List.getD_cons_succ, List.getD_cons_zero]; rfl
    simp [-Int.not_lt, -Int.not_le, rowP_len, q2]
    refine X_keep (hx rfl) ?_
    simp
  | succ r ih =>
    intro i e hx hp
    have hil : i < l.length := by omega
    have q2 : (i : Int) < (l.length : Int) := by omega
    have q3 := next_i (m := i) (by omega)
    have r1 := rowP_at hil
    have o1 : inR (l.getD i (0, 0, 0)).1 (l.getD i (0, 0, 0)).2.1 (l.getD i (0, 0, 0)).2.2 := by
      have := List.all_eq_true.1 ho (l.getD i (0, 0, 0)) (by simp [hil])
      simpa using this
    have e1 : l.drop i = l.getD i (0, 0, 0) :: l.drop (i + 1) := by rw [List.drop_eq_getElem_cons hil]; simp [hil]
    rw [e1, ixP] at hx hp
    generalize l.getD i (0, 0, 0) = p at *
    obtain ⟨s, a, o⟩ := p
    simp only [posP] at o1 hx hp r1
    have hF : F49 [.agg [.i s, .i a, .i o], .tuple [.i g]] = some (.bool (decide (posZ s o = g))) := by
      simp only [F49]; rw [if_pos o1]
    have gz : ∀ {α : Type} (b : α) (l : List α), (b :: l)[0]? = some b := fun _ _ => rfl
    apply X_loop_of
    · simp only [loopN, Tryd.f48, loopsOf, List.nil_append, List.append_nil, List.cons_append, List.getD_cons_succ, List.getD_cons_zero]; rfl
    by_cases hd : posZ s o = g
    · rw [if_pos hd] at hp
      simp [-Int.natCast_add, -Int.not_lt, -Int.not_le, -getElem?_pos, q2, q3, r1, rowP_len, T48_eq, hk, hF, hd, gz]
      exact hp (by omega)
    · rw [if_neg hd, show (i : Int) + 1 = ((i + 1 : Nat) : Int) by omega] at hx hp
      simp [-Int.natCast_add, -Int.not_lt, -Int.not_le, -getElem?_pos, q2, q3, r1, rowP_len, T48_eq, hk, hF, hd, gz]
      refine X_keep (ih (i + 1) (by omega) hx hp) ?_
      simp [-Int.natCast_add]
theorem x48 (l : List P) (hl : l.length ≤ 12) (ho : okP l = true) (g : Int) (H : List Blk) (k : Nat) (hk : H[k]? = some (.box [.i g])) :
    XFn Y T48 Tryd.f48 [.pv (.slice 3 (rowP l)), .clo 49 [.ptr k 0]] H (fun x => x = (.i (ixP g l 0), H)) := by
  unfold XFn Tryd.f48
  rw [enter_2 _ (by decide)]
  simp [-Int.not_lt, -Int.not_le, rowP_len]
  refine X_keep (loop48 l hl ho g k hk l.length 0 (by omega) (fun h => ?_) (fun h => ?_)) ?_
  · rw [List.drop_zero] at h
    simp [show ixP g l 0 = -1 from h]
  · simp
  · simp
theorem x48nil (H : List Blk) (k : Nat) : XFn Y T48 Tryd.f48 [.pv .nilSlice, .clo 49 [.ptr k 0]] H (fun x => x = (.i (-1), H)) := by
  unfold XFn Tryd.f48
  rw [enter_2 _ (by decide)]
  simp [-Int.not_lt, -Int.not_le, X_loop]
theorem tok48 (W0 : World) : TOk Tryd.prog W0 T48 := tok_cons (meets2 W0) (tok_cons (meets49 W0) tok_nil)
theorem meets48 (W0 : World) : Enterable Tryd.prog 48 ∧ Meets Tryd.prog W0 48 (specFn (.heap (arunAll Y T48 Tryd.f48))) := meets_heap env (tok48 W0) mixed Tryd.func48 (by kernel_rfl) (by kernel_rfl)
theorem all48 (l : List P) (hl : l.length ≤ 12) (ho : okP l = true) (g : Int) (H : List Blk) (k : Nat) (hk : H[k]? = some (.box [.i g])) :
    arunAll Y T48 Tryd.f48 [.pv (.slice 3 (rowP l)), .clo 49 [.ptr k 0]] H = some (.i (ixP g l 0), H) := by
  obtain ⟨r, H', h1, h2⟩ := all_of_XFn (by rfl) (x48 l hl ho g H k hk)
  rw [h1, h2]
theorem all48nil (H : List Blk) (k : Nat) : arunAll Y T48 Tryd.f48 [.pv .nilSlice, .clo 49 [.ptr k 0]] H = some (.i (-1), H) := by
  obtain ⟨r, H', h1, h2⟩ := all_of_XFn (by rfl) (x48nil H k)
  rw [h1, h2]
/-- The one at a position. -/
def atP (g : Int) (l : List P) : P × Int := match l.find? fun q => decide (posP q = g) with
  | some q => (q, 0)
  | none => ((0, 0, 0), 18)
theorem ix_at (g : Int) : ∀ (l : List P) (i : Nat), (ixP g l i = -1 ∧ l.find? (fun q => decide (posP q = g)) = none) ∨ (∃ j, j < l.length ∧ ixP g l i = ((i + j : Nat) : Int) ∧ l.find? (fun q => decide (posP q = g)) = some (l.getD j (0, 0, 0)))
  | [], i => .inl ⟨rfl, rfl⟩
  | q :: r, i => by
    by_cases h : posP q = g
    · refine .inr ⟨0, by simp, ?_, ?_⟩
      · rw [ixP, if_pos h]; rfl
      · simp [h]
    · rcases ix_at g r (i + 1) with ⟨h1, h2⟩ | ⟨j, h1, h2, h3⟩
      · refine .inl ⟨?_, ?_⟩
        · rw [ixP, if_neg h]; exact h1
        · simpa [h] using h2
      · refine .inr ⟨j + 1, by simp; omega, ?_, ?_⟩
        · rw [ixP, if_neg h, show (i : Int) + 1 = ((i + 1 : Nat) : Int) by omega, h2]; congr 1; omega
        · simpa [h] using h3
/-- Exact. -/
noncomputable def T27 : FuncId → Option Pm.Spec := tab [(35, .pure false F35), (36, .pure false F36), (48, .heap (arunAll Y T48 Tryd.f48))]
theorem T27_eq (g : Nat) : T27 g = tab [(35, .pure false F35), (36, .pure false F36), (48, .heap (arunAll Y T48 Tryd.f48))] g := rfl
def exR (s a o t m : Int) : P × Int :=
  if valid s a o then (if isI t m then (if 0 ≤ numZ s a o + m ∧ numZ s a o + m ≤ 127 then atP (posZ s o + t) (enhP (numZ s a o + m)) else ((0, 0, 0), 18)) else ((0, 0, 0), 2)) else ((0, 0, 0), 18)
abbrev exV (e : P × Int) : SV := .tuple [P3 e.1.1 e.1.2.1 e.1.2.2, .i e.2]
theorem x27 (s a o t m : Int) : XFn Y T27 Tryd.f27 [P3 s a o, I2 t m] [] (Is (exV (exR s a o t m))) := by
  unfold XFn Tryd.f27
  rw [enter_2 _ (by decide)]
  unfold exR
  by_cases h : valid s a o
  · by_cases hi : isI t m
    · obtain ⟨w1, w2, w3, w4⟩ := goal_wraps h hi
      by_cases hn : 0 ≤ numZ s a o + m ∧ numZ s a o + m ≤ 127
      · obtain ⟨e, hs⟩ := enh_p hn
        have hF : F36 [.i (numZ s a o + m)] = some (.tuple [.pv (.slice 3 (rowP (enhP (numZ s a o + m)))), .i 0]) := by
          show some (splR _) = _
          rw [splR, if_pos hn]
        have hA := all48 (enhP (numZ s a o + m)) hs.1.2 hs.2.1 (posZ s o + t) [.box [.i s, .i a, .i o], .box [.i t, .i m], .box [.i 0, .i 0, .i 0], .box [.i (posZ s o + t)]] 3 rfl
        unfold atP
        rcases ix_at (posZ s o + t) (enhP (numZ s a o + m)) 0 with ⟨h1, h2⟩ | ⟨j, h1, h2, h3⟩
        · rw [show ((0 : Nat) : Int) = 0 from rfl] at h1
          rw [h1] at hA
          rw [h2]
          simp [T27_eq, F35, hF, h, hi, hn, hA]
        · rw [show ((0 : Nat) : Int) = 0 from rfl, Nat.zero_add] at h2
          rw [h2] at hA
          rw [h3]
          have r1 := rowP_at h1
          have n1 : ¬ (j : Int) < 0 := by omega
          have n2 : (0 : Int) ≤ (j : Int) := by omega
          have gz : ∀ {α : Type} (b : α) (l : List α), (b :: l)[0]? = some b := fun _ _ => rfl
          generalize (enhP (numZ s a o + m)).getD j (0, 0, 0) = q at *
          simp [-Int.not_lt, -Int.not_le, -getElem?_pos, List.getElem?_cons_succ, T27_eq, F35, hF, h, hi, hn, hA, r1, n1, n2, gz]
      · have hF : F36 [.i (numZ s a o + m)] = some (.tuple [.pv .nilSlice, .i 18]) := by
          show some (splR _) = _
          rw [splR, if_neg hn]
        have hA := all48nil [.box [.i s, .i a, .i o], .box [.i t, .i m], .box [.i 0, .i 0, .i 0], .box [.i (posZ s o + t)]] 3
        simp [T27_eq, F35, hF, h, hi, hn, hA]
    · simp [T27_eq, F35, h, hi]
  · simp [T27_eq, F35, h]
def F27 : List SV → Option SV
  | [.agg [.pv (.int .i64 s), .pv (.int .i64 a), .pv (.int .i64 o)], .agg [.pv (.int .i64 t), .pv (.int .i64 m)]] => some (exV (exR s a o t m))
  | _ => none
theorem meets27 (W0 : World) : OkAt W0 27 F27 := meets_fn env (tok_cons (meets35 W0) (tok_cons (meets36 W0) (tok_cons (meets48 W0) tok_nil))) mixed Tryd.func27 (by kernel_rfl) (by kernel_rfl) fun args r h => by
  unfold F27 at h
  split at h
  · cases h; exact x27 _ _ _ _ _
  · cases h
end Go.Proofs.YtmmpjnjdddaldaaDoor
