/- known, the small functions and the reference's Parse, by the machine. -/
import Derived.Test.YtngapiffgoignaaDoorDurU
import Derived.Test.YtngapiffgoignaaDoorDurV
set_option linter.unusedSimpArgs false
set_option linter.unusedVariables false
set_option maxRecDepth 1000000
set_option maxHeartbeats 400000
namespace Go.Proofs.YtngapiffgoignaaDoor
open Go Go.Pm Go.RowKit
def F19 : List SV → Option SV
  | [.pv (.int .i64 n)] => some (.tuple [(decZ n).1, .i (decZ n).2])
  | _ => none
theorem meets19 (W0 : World) : OkAt W0 19 F19 := meets_fn env (tok_cons (meets13 W0) (tok_cons (meets38 W0) (tok_cons (meets39 W0) tok_nil))) mixed Tryd.func19 (by kernel_rfl) (by kernel_rfl) fun args r h => by
  unfold F19 at h
  split at h
  · cases h; exact x19 _
  · cases h
noncomputable def T14 : FuncId → Option Pm.Spec := tab [(22, .pure false F22), (19, .pure false F19), (31, .pure false F31)]
theorem T14_eq (g : Nat) : T14 g = tab [(22, .pure false F22), (19, .pure false F19), (31, .pure false F31)] g := rfl
theorem tok14 {W0 : World} (L : Laid W0) : TOk Tryd.prog W0 T14 := tok_cons (meets22 W0) (tok_cons (meets19 W0) (tok_cons (meets31 L) tok_nil))
theorem dec2560 : decZ 2419200 = (.fresh 23 2 [[.int .i64 0, .int .i64 0], [.int .i64 2, .int .i64 0]], 0) := by
  unfold decZ
  rw [if_neg (by decide), if_neg ?_]
  · rw [show ((2419200 : Int) / 945).toNat = 2560 by decide, canon2560]
    rfl
  · rw [show ((2419200 : Int) / 945).toNat = 2560 by decide, fw2560]
    decide
theorem x14 : XFn Y T14 Tryd.f14 [] [] (Is (.bool true)) := by
  unfold XFn Tryd.f14
  rw [enter_mk0]
  have h1 : F22 [.agg [.i 2, .i 1]] = some (.tuple [.i 725760, .i 0]) := by rfl
  have h2 : F19 [.i 2419200] = some (.tuple [.fresh 23 2 [[.int .i64 0, .int .i64 0], [.int .i64 2, .int .i64 0]], .i 0]) := by simp only [F19]; rw [dec2560]
  have h3 : F31 [.agg [.i 3, .i 2]] = some (.tuple [.str [56, 46, 46], .i 0]) := by rfl
  simp [T14_eq, h1, h2, h3]
def F14 : List SV → Option SV
  | [] => some (.bool true)
  | _ => none
theorem meets14 {W0 : World} (L : Laid W0) : OkAt W0 14 F14 := meets_fn env (tok14 L) mixed Tryd.func14 (by kernel_rfl) (by kernel_rfl) fun args r h => by
  unfold F14 at h
  split at h
  · cases h; exact x14
  · cases h
/-- Flags, Stemmed. -/
def flgZ (l d : Int) : Int := if okV l d ∧ 3 ≤ l then l - 2 else 0
def F20 : List SV → Option SV
  | [.agg [.pv (.int .i64 l), .pv (.int .i64 d)]] => some (.i (flgZ l d))
  | _ => none
noncomputable def T20 : FuncId → Option Pm.Spec := tab [(23, .pure false F23)]
theorem T20_eq (g : Nat) : T20 g = tab [(23, .pure false F23)] g := rfl
theorem x20 (l d : Int) : XFn Y T20 Tryd.f20 [.agg [.i l, .i d]] [] (Is (.i (flgZ l d))) := by
  unfold XFn Tryd.f20
  rw [enter_1 _ (by decide)]
  by_cases h : okV l d
  · have w1 : IntKind.i64.wrap (l - 2) = l - 2 := wrap64 (by unfold okV at h; omega) (by unfold okV at h; omega)
    simp [T20_eq, F23, h, w1, flgZ]
    omega
  · simp [T20_eq, F23, h, flgZ]
theorem meets20 (W0 : World) : OkAt W0 20 F20 := meets_fn env (tok_cons (meets23 W0) tok_nil) mixed Tryd.func20 (by kernel_rfl) (by kernel_rfl) fun args r h => by
  unfold F20 at h
  split at h
  · cases h; exact x20 _ _
  · cases h
def F21 : List SV → Option SV
  | [.agg [.pv (.int .i64 l), .pv (.int .i64 d)]] => some (.bool (decide (okV l d ∧ 1 ≤ l)))
  | _ => none
theorem x21 (l d : Int) : XFn Y T20 Tryd.f21 [.agg [.i l, .i d]] [] (Is (.bool (decide (okV l d ∧ 1 ≤ l)))) := by
  unfold XFn Tryd.f21
  rw [enter_1 _ (by decide)]
  by_cases h : okV l d
  · simp [T20_eq, F23, h]
  · simp [T20_eq, F23, h]
theorem meets21 (W0 : World) : OkAt W0 21 F21 := meets_fn env (tok_cons (meets23 W0) tok_nil) mixed Tryd.func21 (by kernel_rfl) (by kernel_rfl) fun args r h => by
  unfold F21 at h
  split at h
  · cases h; exact x21 _ _
  · cases h
/-- Scale. -/
def sclZ (l d b : Int) : (Int × Int) × Int := if okV l d ∧ l - 8 ≤ b ∧ b ≤ l + 1 then ((l - b, d), 0) else ((0, 0), 17)
def F26 : List SV → Option SV
  | [.agg [.pv (.int .i64 l), .pv (.int .i64 d)], .pv (.int .i64 b)] => some (.tuple [.agg [.i (sclZ l d b).1.1, .i (sclZ l d b).1.2], .i (sclZ l d b).2])
  | _ => none
theorem x26 (l d b : Int) : XFn Y T20 Tryd.f26 [.agg [.i l, .i d], .i b] [] (Is (.tuple [.agg [.i (sclZ l d b).1.1, .i (sclZ l d b).1.2], .i (sclZ l d b).2])) := by
  unfold XFn Tryd.f26
  rw [enter_2 _ (by decide)]
  by_cases h : okV l d
  · have w1 : IntKind.i64.wrap (l - 8) = l - 8 := wrap64 (by unfold okV at h; omega) (by unfold okV at h; omega)
    have w2 : IntKind.i64.wrap (l + 1) = l + 1 := wrap64 (by unfold okV at h; omega) (by unfold okV at h; omega)
    by_cases h1 : b < l - 8
    · have hs : sclZ l d b = ((0, 0), 17) := by unfold sclZ; rw [if_neg (by omega)]
      simp [-Int.not_lt, -Int.not_le, T20_eq, F23, h, w1, w2, h1, hs]
    · by_cases h2 : l + 1 < b
      · have hs : sclZ l d b = ((0, 0), 17) := by unfold sclZ; rw [if_neg (by omega)]
        simp [-Int.not_lt, -Int.not_le, T20_eq, F23, h, w1, w2, h1, h2, hs]
      · have hs : sclZ l d b = ((l - b, d), 0) := by unfold sclZ; rw [if_pos ⟨h, by omega, by omega⟩]
        have w3 : IntKind.i64.wrap (l - b) = l - b := wrap64 (by unfold okV at h; omega) (by unfold okV at h; omega)
        simp [-Int.not_lt, -Int.not_le, T20_eq, F23, h, w1, w2, w3, h1, h2, hs]
  · have hs : sclZ l d b = ((0, 0), 17) := by unfold sclZ; rw [if_neg (fun h' => h h'.1)]
    simp [T20_eq, F23, h, hs]
theorem meets26 (W0 : World) : OkAt W0 26 F26 := meets_fn env (tok_cons (meets23 W0) tok_nil) mixed Tryd.func26 (by kernel_rfl) (by kernel_rfl) fun args r h => by
  unfold F26 at h
  split at h
  · cases h; exact x26 _ _ _
  · cases h
end Go.Proofs.YtngapiffgoignaaDoor
set_option linter.unusedSimpArgs false
set_option linter.unusedVariables false
set_option maxRecDepth 1000000
set_option maxHeartbeats 400000
namespace Go.Proofs.YtngapiffgoignaaDoor
open Go Go.Pm Go.RowKit
theorem par_at {i : Nat} (hi : i < 40) : parT (txt (AV i)) = (AV i, 0) := by
  have : ∀ j < 40, parT (txt (AV j)) = (AV j, 0) := by decide +kernel
  exact this i hi
theorem par_non {s : List UInt8} (h : ∀ i < 40, txt (AV i) ≠ s) : parT s = ((0, 0), 13) := by
  unfold parT
  rw [List.find?_eq_none.2 (by intro y hy; rw [V_AV]; simpa using h _ (by have := y.isLt; omega))]
noncomputable def T30 : FuncId → Option Pm.Spec := tab [(16, .pure false F16), (33, .pure false F33)]
theorem T30_eq (g : Nat) : T30 g = tab [(16, .pure false F16), (33, .pure false F33)] g := rfl
theorem F33_ok {l d : Int} (h : okV l d) : F33 [.agg [.pv (.int .i64 l), .pv (.int .i64 d)]] = some (.str (txt (l, d))) := by
  simp only [F33]; rw [if_pos h]
theorem loop30 {F : List Fr} {P : SV × List Blk → Prop} (s : List UInt8) : ∀ (r i : Nat) (H : List Blk), i + r = 40 → H[0]? = some (.box (some 23) [.i 0, .i 0]) → 
    (∀ j, i ≤ j → j < 40 → txt (AV j) = s → ∀ H', P (.tuple [.agg [.i (AV j).1, .i (AV j).2], .i 0], H')) →
    ((∀ j, i ≤ j → j < 40 → txt (AV j) ≠ s) → X Y T30 [.cell 2 23, .tmp 3] F (.exit 0) ⟨mk 32 .J [(2, .ptr 0 0)], H⟩ P) →
    X Y T30 [.cell 2 23, .tmp 3] F (.loop (loopN Tryd.f30 0)) ⟨mk 32 .J [(0, .str s), (2, .ptr 0 0), (4, .pv (.slice 2 rowsA)), (5, .i (i : Nat))], H⟩ P := by
  intro r
  induction r with
  | zero =>
    intro i H e hH hp hx
    have e1 : i = 40 := by omega
    subst e1
    have hl : rowsA.length = 40 := rfl
    apply X_loop_of
    · simp only [loopN, Tryd.f30, loopsOf, List.nil_append, List.append_nil, List.cons_append, List.getD_cons_succ, List.getD_cons_zero]; rfl
    simp [hl]
    refine X_keep (hx fun j h1 h2 => by omega) ?_
    simp
  | succ r ih =>
    intro i H e hH hp hx
    have hi : i < 40 := by omega
    have hl : rowsA.length = 40 := rfl
    have q3 := next_i (m := i) (by omega)
    have hat : rowsA[i]? = some [.int .i64 (AV i).1, .int .i64 (AV i).2] := rowsA_at hi
    have f1 := F33_ok (AV_ok hi)
    have c3 : ((i : Nat) : Int).toNat = i := by omega
    have c4 : ((i : Nat) : Int) < 40 := by omega
    have hlt := (List.getElem?_eq_some_iff.1 hH).1
    apply X_loop_of
    · simp only [loopN, Tryd.f30, loopsOf, List.nil_append, List.append_nil, List.cons_append, List.getD_cons_succ, List.getD_cons_zero]; rfl
    simp [-Int.natCast_add, -Int.not_lt, -Int.not_le, -getElem?_pos, List.getElem?_cons_zero, List.getElem?_cons_succ, T30_eq, hl, q3, hat, f1, c3, c4, hi, hH, hlt]
    refine ⟨fun h => ?_, fun h => ?_⟩
    · simpa using hp i (Nat.le_refl _) hi h _
    · refine X_keep (ih (i + 1) H (by omega) hH (fun j h1 h2 h3 => hp j (by omega) h2 h3) (fun h1 => hx fun j h2 h3 => ?_)) ?_
      · by_cases he : j = i
        · subst he; exact h
        · exact h1 j (by omega) h3
      · simp
theorem x30 (s : List UInt8) : XFn Y T30 Tryd.f30 [.str s] [] (Is (.tuple [.agg [.i (parZ s).1.1, .i (parZ s).1.2], .i (parZ s).2])) := by
  unfold XFn Tryd.f30
  rw [enter_1 _ (by decide)]
  by_cases h0 : s = []
  · subst h0
    simp [parZ]
  by_cases h6 : 6 < s.length
  · have c1 : (6 : Int) < (s.length : Nat) := by omega
    simp [-Int.not_lt, -Int.not_le, h0, c1, h6, parZ]
  have c1 : ¬ (6 : Int) < (s.length : Nat) := by omega
  have hz : parZ s = parT s := by unfold parZ; rw [if_neg h0, if_neg h6]
  rw [hz]
  simp [-outR, -Int.not_lt, -Int.not_le, h0, c1, h6, T30_eq, F16]
  refine X_keep (loop30 s 40 0 _ rfl rfl (fun i _ h2 h3 H => ?_) (fun h1 => ?_)) ?_
  · rw [← h3, par_at h2]
    simp
  · rw [par_non fun j hj => h1 j (by omega) hj]
    simp
  · simp
def F30 := F29
theorem meets30 (W0 : World) : OkAt W0 30 F29 := meets_fn env (tok_cons (meets16 W0) (tok_cons (meets33 W0) tok_nil)) mixed Tryd.func30 (by kernel_rfl) (by kernel_rfl) fun args r h => by
  unfold F29 at h
  split at h
  · cases h; exact x30 _
  · cases h
end Go.Proofs.YtngapiffgoignaaDoor
