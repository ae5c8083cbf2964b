/- Long names, and the reference's short and long names, by the machine. -/
import Derived.Test.YtmmpjnjdddaldaaGreatDoorIntX
set_option linter.unusedSimpArgs false
set_option linter.unusedVariables false
set_option maxRecDepth 1000000
set_option maxHeartbeats 400000
namespace Go.Proofs.YtmmpjnjdddaldaaGreatDoor
open Go Go.Pm Go.RowKit
/-- The reference's short name. -/
noncomputable def zT11 : FuncId → Option Pm.Spec := tab [(27, .pure false F51), (28, .pure false F50), (30, .pure false F52), (29, .pure false (zF29 1000))]
theorem zT11_eq (g : Nat) : zT11 g = tab [(27, .pure false F51), (28, .pure false F50), (30, .pure false F52), (29, .pure false (zF29 1000))] g := rfl
theorem ztok11 (W0 : World) : TOk Tryz.prog W0 zT11 := tok_cons (meets53 W0) (tok_cons (meets33 W0) (tok_cons (meets52 W0) (tok_cons (zmeets29 W0) tok_nil)))
theorem loop11 {F : List Fr} {P : SV × List Blk → Prop} {rs : List ResultVar} {H : List Blk} (q t : Int) (ht : t ≤ 283) : ∀ (r : Nat) (k : Int) (s : Bs), k + r = t → 0 ≤ k → s.length + r ≤ 1000 →
    X Y zT11 rs F (.exit 1) ⟨mk 45 .J [(1, .ptr 0 0), (3, .str (s ++ List.replicate r (if 0 < q then 65 else 100)))], H⟩ P →
    X Y zT11 rs F (.loop (loopN Tryz.f11 0)) ⟨mk 45 .J [(1, .ptr 0 0), (3, .str s), (4, .i q), (5, .i t), (6, .i k)], H⟩ P := by
  intro r
  induction r with
  | zero =>
    intro k s e hk hl hx
    have q2 : ¬ k < t := by omega
    apply X_loop_of
    · simp only [loopN, Tryz.f11, loopsOf, List.nil_append, List.append_nil, List.cons_append, List.getD_cons_succ, List.getD_cons_zero]; rfl
    simp [-Int.not_lt, -Int.not_le, q2]
    refine X_keep (by simpa using hx) ?_
    simp
  | succ r ih =>
    intro k s e hk hl hx
    have q2 : k < t := by omega
    have w : IntKind.i64.wrap (k + 1) = k + 1 := wrap64 (by omega) (by omega)
    have hc : s.length + 1 ≤ 4611686018427387904 := by omega
    have e2 : ∀ c : UInt8, s ++ List.replicate (r + 1) c = (s ++ [c]) ++ List.replicate r c := fun c => by rw [List.replicate_succ, List.append_assoc]; rfl
    rw [e2] at hx
    apply X_loop_of
    · simp only [loopN, Tryz.f11, loopsOf, List.nil_append, List.append_nil, List.cons_append, List.getD_cons_succ, List.getD_cons_zero]; rfl
    by_cases hq : 0 < q
    · rw [if_pos hq] at hx
      simp [-Int.not_lt, -Int.not_le, q2, hq, w, hc]
      refine X_keep (ih (k + 1) (s ++ [65]) (by omega) (by omega) (by simp; omega) (by rw [if_pos hq]; exact hx)) ?_
      simp
    · rw [if_neg hq] at hx
      simp [-Int.not_lt, -Int.not_le, q2, hq, w, hc]
      refine X_keep (ih (k + 1) (s ++ [100]) (by omega) (by omega) (by simp; omega) (by rw [if_neg hq]; exact hx)) ?_
      simp
theorem text_up (s m : Int) : textZ s m = (if downZ s m = true then [45] else []) ++ txtU (upZ s m).1 (upZ s m).2 := by
  unfold textZ upZ
  split <;> rfl
theorem decL_d100 {n : Int} (h : 0 ≤ n ∧ n < 100) : decL n = d100 n.toNat := dec_d100 (by omega)
theorem zx11 (s m : Int) (h : isI s m) : XFn Y zT11 Tryz.f11 [I2 s m] [] (Is (.str (textZ s m))) := by
  unfold XFn Tryz.f11
  rw [enter_1 _ (by decide)]
  obtain ⟨⟨u1, u2⟩, u3, u4⟩ := up_z h
  obtain ⟨q, t, e, ht, hq⟩ := qua_cases ⟨u1, u2⟩ ⟨u3, u4⟩
  have hz : quaZ s m = (q, t) := by rw [qua_up, e]
  have h50 : F50 [I2 s m] = some (.tuple [.i q, .i t]) := by simp only [F50]; rw [if_pos h, hz]
  have h52 : F52 [I2 s m] = some (I2 (upZ s m).1 (upZ s m).2) := by simp only [F52]; rw [if_pos h]
  rw [text_up]
  unfold txtU tmsU
  rw [e]
  generalize (upZ s m).1 = u at *
  generalize (upZ s m).2 = v at *
  have h29 : zF29 1000 [.i (u + 1)] = some (.str (d100 (u + 1).toNat)) := by simp only [zF29]; rw [if_pos (by omega), decL_d100 (by omega)]
  have w1 : IntKind.i64.wrap (u + 1) = u + 1 := wrap64 (by omega) (by omega)
  have hl := d100_len (u + 1).toNat
  generalize d100 (u + 1).toNat = B at *
  have h51 : F51 [I2 s m] = some (.bool (downZ s m)) := rfl
  have hpre : (if downZ s m = true then [45] else [] : Bs).length ≤ 1 := by split <;> simp
  have fin : ∀ (pre : Bs) (F : List Fr), pre.length ≤ 290 → X Y zT11 Tryz.f11.results.toList F (.exit 1) ⟨mk 45 .J [(1, .ptr 0 0), (3, .str pre)], [.box [.i s, .i m]]⟩ (Is (.str (pre ++ B))) → True := fun _ _ _ _ => trivial
  generalize downZ s m = dn at *
  rcases hq with ⟨rfl, h1⟩ | ⟨rfl, h1⟩ | ⟨rfl, rfl⟩ | ⟨rfl, rfl⟩ | ⟨rfl, rfl⟩ <;> cases dn
  · have e1 : max 1 t.toNat = t.toNat := by omega
    have hc : t.toNat + B.length ≤ 4611686018427387904 := by omega
    simp [-Int.not_lt, -Int.not_le, zT11_eq, h51, h50, letQ, e1]
    refine X_keep (loop11 2 t ht t.toNat 0 [] (by omega) (by omega) (by simp; omega) ?_) ?_
    · simp [-Int.not_lt, -Int.not_le, zT11_eq, h52, w1, h29, hc]
    · simp
  · have e1 : max 1 t.toNat = t.toNat := by omega
    have hc : t.toNat + 1 + B.length ≤ 4611686018427387904 := by omega
    simp [-Int.not_lt, -Int.not_le, zT11_eq, h51, h50, letQ, e1]
    refine X_keep (loop11 2 t ht t.toNat 0 [45] (by omega) (by omega) (by simp; omega) ?_) ?_
    · simp [-Int.not_lt, -Int.not_le, zT11_eq, h52, w1, h29, hc]
    · simp
  · have e1 : max 1 t.toNat = t.toNat := by omega
    have hc : t.toNat + B.length ≤ 4611686018427387904 := by omega
    simp [-Int.not_lt, -Int.not_le, zT11_eq, h51, h50, letQ, e1]
    refine X_keep (loop11 (-2) t ht t.toNat 0 [] (by omega) (by omega) (by simp; omega) ?_) ?_
    · simp [-Int.not_lt, -Int.not_le, zT11_eq, h52, w1, h29, hc]
    · simp
  · have e1 : max 1 t.toNat = t.toNat := by omega
    have hc : t.toNat + 1 + B.length ≤ 4611686018427387904 := by omega
    simp [-Int.not_lt, -Int.not_le, zT11_eq, h51, h50, letQ, e1]
    refine X_keep (loop11 (-2) t ht t.toNat 0 [45] (by omega) (by omega) (by simp; omega) ?_) ?_
    · simp [-Int.not_lt, -Int.not_le, zT11_eq, h52, w1, h29, hc]
    · simp
  all_goals
    have hc : 1 + B.length ≤ 4611686018427387904 := by omega
    have hc2 : 1 + 1 + B.length ≤ 4611686018427387904 := by omega
    simp [-Int.not_lt, -Int.not_le, X_loop, zT11_eq, h51, h50, h52, w1, h29, hc, hc2, letQ]
def zF11 : List SV → Option SV
  | [.agg [.pv (.int .i64 s), .pv (.int .i64 m)]] => if isI s m then some (.str (textZ s m)) else none
  | _ => none
theorem zmeets11 (W0 : World) : OkAt W0 11 zF11 := meets_fn env (ztok11 W0) mixed Tryz.func11 (by kernel_rfl) (by kernel_rfl) fun args r h => by
  unfold zF11 at h
  split at h
  · split at h
    · rename_i hc; cases h; exact zx11 _ _ hc
    · cases h
  · cases h
end Go.Proofs.YtmmpjnjdddaldaaGreatDoor
