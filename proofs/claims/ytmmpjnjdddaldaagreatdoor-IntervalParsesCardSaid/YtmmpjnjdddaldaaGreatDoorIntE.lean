/- slices.SortFunc on a row in order; interval.spelled, by the machine. -/
import Derived.Test.YtmmpjnjdddaldaaGreatDoorIntD
set_option linter.unusedSimpArgs false
set_option linter.unusedVariables false
set_option maxRecDepth 1000000
set_option maxHeartbeats 400000
namespace Go.Proofs.YtmmpjnjdddaldaaGreatDoor
open Go Go.Pm Go.RowKit
def srt (l : List P) : Prop := (1 ≤ l.length ∧ l.length ≤ 12) ∧ okP l = true ∧ upP l = true
instance (l : List P) : Decidable (srt l) := inferInstanceAs (Decidable (_ ∧ _))
def F73 : List SV → Option SV
  | [.pv (.slice 3 es), .pv (.int .i64 z), .pv (.int .i64 n), .pv (.fn g)] => match unP es with
    | some l => if srt l ∧ z = 0 ∧ n = l.length ∧ g = 72 then some (.tuple []) else none
    | none => none
  | _ => none
theorem meets73 (W0 : World) : OkAt W0 101 F73 := meets_fn env (tok_cons (meets56 W0) tok_nil) mixed Tryz.func101 (by kernel_rfl) (by kernel_rfl) fun args r h => by
  unfold F73 at h
  split at h
  · split at h
    · rename_i l hu
      split at h
      · rename_i hc
        cases h
        obtain ⟨⟨⟨h1, h2⟩, h3, h4⟩, rfl, rfl, rfl⟩ := hc
        rw [unP_eq hu]
        exact x73 l h1 h2 h3 h4
      · cases h
    · cases h
  · cases h
noncomputable def T67 : FuncId → Option Pm.Spec := tab [(101, .pure false F73)]
theorem T67_eq (g : Nat) : T67 g = tab [(101, .pure false F73)] g := rfl
theorem F73_ok {l : List P} (h : srt l) : F73 [.pv (.slice 3 (rowP l)), .i 0, .i (l.length : Nat), .pv (.fn 72)] = some (.tuple []) := by
  simp [F73, unP_row, h]
theorem x67 (l : List P) (h : srt l) (lim : Int) : XFn Y T67 Tryz.f87 [.pv (.slice 3 (rowP l)), .i 0, .i (l.length : Nat), .i lim, .pv (.fn 72)] [] (Is (.tuple [])) := by
  unfold XFn Tryz.f87
  rw [enter_5 _ (by decide)]
  have hF := F73_ok h
  have w : IntKind.i64.wrap ((l.length : Int)) = (l.length : Int) := wrap64 (by omega) (by have := h.1.2; omega)
  have n1 : (l.length : Int) ≤ 12 := by have := h.1.2; omega
  simp [-Int.not_lt, -Int.not_le, w, X_loop, T67_eq, hF, n1]
def F67 : List SV → Option SV
  | [.pv (.slice 3 es), .pv (.int .i64 z), .pv (.int .i64 n), .pv (.int .i64 lim), .pv (.fn g)] => match unP es with
    | some l => if srt l ∧ z = 0 ∧ n = l.length ∧ g = 72 then some (.tuple []) else none
    | none => none
  | _ => none
theorem meets67 (W0 : World) : OkAt W0 87 F67 := meets_fn env (tok_cons (meets73 W0) tok_nil) mixed Tryz.func87 (by kernel_rfl) (by kernel_rfl) fun args r h => by
  unfold F67 at h
  split at h
  · split at h
    · rename_i l hu
      split at h
      · rename_i hc
        cases h
        obtain ⟨hs, rfl, rfl, rfl⟩ := hc
        rw [unP_eq hu]
        exact x67 l hs _
      · cases h
    · cases h
  · cases h
def bitLen (n : Int) : Int := if n < 2 then 1 else if n < 4 then 2 else if n < 8 then 3 else 4
theorem run82 (n : Int) (h : 1 ≤ n ∧ n ≤ 12) : prun Y T0 Tryz.f110 100 [.pv (.int .u64 n)] = some (.i (bitLen n)) := by
  rcases (by omega : n = 1 ∨ n = 2 ∨ n = 3 ∨ n = 4 ∨ n = 5 ∨ n = 6 ∨ n = 7 ∨ n = 8 ∨ n = 9 ∨ n = 10 ∨ n = 11 ∨ n = 12) with rfl | rfl | rfl | rfl | rfl | rfl | rfl | rfl | rfl | rfl | rfl | rfl <;> kernel_rfl
def F82 : List SV → Option SV
  | [.pv (.int .u64 n)] => if 1 ≤ n ∧ n ≤ 12 then some (.i (bitLen n)) else none
  | _ => none
theorem meets82 (W0 : World) : OkAt W0 110 F82 := ⟨enterable_of Tryz.func110 (by kernel_rfl), meets_prun env tok_nil mixed Tryz.func110 rfl (by kernel_rfl) fun args r h => by
  unfold F82 at h
  split at h
  · split at h
    · rename_i hc; cases h; exact ⟨100, run82 _ hc⟩
    · cases h
  · cases h⟩
noncomputable def T68 : FuncId → Option Pm.Spec := tab [(110, .pure false F82)]
theorem T68_eq (g : Nat) : T68 g = tab [(110, .pure false F82)] g := rfl
theorem x68 (n : Int) (h : 1 ≤ n ∧ n ≤ 12) : XFn Y T68 Tryz.f88 [.pv (.int .u64 n)] [] (Is (.i (bitLen n))) := by
  unfold XFn Tryz.f88
  rw [enter_1 _ (by decide)]
  simp [-Int.not_lt, -Int.not_le, T68_eq, F82, h]
theorem meets68 (W0 : World) : OkAt W0 88 F82 := meets_fn env (tok_cons (meets82 W0) tok_nil) mixed Tryz.func88 (by kernel_rfl) (by kernel_rfl) fun args r h => by
  unfold F82 at h
  split at h
  · split at h
    · rename_i hc; cases h; exact x68 _ hc
    · cases h
  · cases h
noncomputable def T55 : FuncId → Option Pm.Spec := tab [(88, .pure false F82), (87, .pure false F67)]
theorem T55_eq (g : Nat) : T55 g = tab [(88, .pure false F82), (87, .pure false F67)] g := rfl
theorem F67_ok {l : List P} (h : srt l) (lim : Int) : F67 [.pv (.slice 3 (rowP l)), .i 0, .i (l.length : Nat), .i lim, .pv (.fn 72)] = some (.tuple []) := by
  simp [F67, unP_row, h]
theorem wrapU {n : Int} (h : 0 ≤ n ∧ n ≤ 12) : IntKind.u64.wrap n = n := by
  rcases (by omega : n = 0 ∨ n = 1 ∨ n = 2 ∨ n = 3 ∨ n = 4 ∨ n = 5 ∨ n = 6 ∨ n = 7 ∨ n = 8 ∨ n = 9 ∨ n = 10 ∨ n = 11 ∨ n = 12) with rfl | rfl | rfl | rfl | rfl | rfl | rfl | rfl | rfl | rfl | rfl | rfl | rfl <;> rfl
theorem x55 (l : List P) (h : srt l) : XFn Y T55 Tryz.f71 [.pv (.slice 3 (rowP l)), .pv (.fn 72)] [] (Is (.tuple [])) := by
  unfold XFn Tryz.f71
  rw [enter_2 _ (by decide)]
  have h1 := h.1.1
  have h2 := h.1.2
  have w := wrapU (n := (l.length : Int)) (by omega)
  have hF := F67_ok h (bitLen (l.length : Nat))
  have hL : F82 [.pv (.int .u64 (l.length : Nat))] = some (.i (bitLen (l.length : Nat))) := by
    simp only [F82]; rw [if_pos (by omega)]
  simp [-Int.not_lt, -Int.not_le, rowP_len, T55_eq, w, hL, hF]
def F55 : List SV → Option SV
  | [.pv (.slice 3 es), .pv (.fn g)] => match unP es with
    | some l => if srt l ∧ g = 72 then some (.tuple []) else none
    | none => none
  | _ => none
theorem meets55 (W0 : World) : OkAt W0 71 F55 := meets_fn env (tok_cons (meets68 W0) (tok_cons (meets67 W0) tok_nil)) mixed Tryz.func71 (by kernel_rfl) (by kernel_rfl) fun args r h => by
  unfold F55 at h
  split at h
  · split at h
    · rename_i l hu
      split at h
      · rename_i hc
        cases h
        obtain ⟨hs, rfl⟩ := hc
        rw [unP_eq hu]
        exact x55 l hs
      · cases h
    · cases h
  · cases h
/-- The pitches with a number. -/
def enhP (n : Int) : List P := (unP (enhL n)).getD []
def enhOk (l : List (List PV)) : Bool := match unP l with
  | some p => decide (srt p)
  | none => false
theorem enh_all : (List.range 128).all (fun n => enhOk (rowO (n : Int) 5)) = true := by kernel_rfl
theorem enh_p {n : Int} (h : 0 ≤ n ∧ n ≤ 127) : enhL n = rowP (enhP n) ∧ srt (enhP n) := by
  have h1 := List.all_eq_true.1 enh_all n.toNat (by simp; omega)
  rw [show ((n.toNat : Nat) : Int) = n by omega] at h1
  unfold enhP enhL
  unfold enhOk at h1
  cases hu : unP (rowO n 5) with
  | none => rw [hu] at h1; cases h1
  | some p =>
    rw [hu] at h1
    exact ⟨unP_eq hu, by simpa using h1⟩
noncomputable def T36 : FuncId → Option Pm.Spec := tab [(70, .pure false F54), (71, .pure false F55)]
theorem T36_eq (g : Nat) : T36 g = tab [(70, .pure false F54), (71, .pure false F55)] g := rfl
def splR (n : Int) : SV := if 0 ≤ n ∧ n ≤ 127 then .tuple [.pv (.slice 3 (rowP (enhP n))), .i 0] else .tuple [.pv .nilSlice, .i 18]
theorem x36 (n : Int) : XFn Y T36 Tryz.f43 [.i n] [] (Is (splR n)) := by
  unfold XFn Tryz.f43
  rw [enter_1 _ (by decide)]
  unfold splR
  by_cases h : 0 ≤ n ∧ n ≤ 127
  · obtain ⟨e, hs⟩ := enh_p h
    have hE : F54 [.i n] = some (.tuple [.fresh 46 3 (rowP (enhP n)), .i 0]) := by
      show some (enhR n) = _
      rw [enhR, if_pos h, e]
    have hS : F55 [.pv (.slice 3 (rowP (enhP n))), .pv (.fn 72)] = some (.tuple []) := by simp [F55, unP_row, hs]
    have l0 : ¬ ((enhP n).length : Int) = 0 := by have := hs.1.1; omega
    have l1 : ¬ enhP n = [] := fun e => by rw [e] at hs; have := hs.1.1; simp at this
    simp [-Int.not_lt, -Int.not_le, T36_eq, hE, hS, h, rowP_len, l0, l1]
  · have hE : F54 [.i n] = some (.tuple [.pv .nilSlice, .i 2]) := by
      show some (enhR n) = _
      rw [enhR, if_neg h]
    simp [-Int.not_lt, -Int.not_le, T36_eq, hE, h]
def F36 : List SV → Option SV
  | [.pv (.int .i64 n)] => some (splR n)
  | _ => none
theorem meets36 (W0 : World) : OkAt W0 43 F36 := meets_fn env (tok_cons (meets54 W0) (tok_cons (meets55 W0) tok_nil)) mixed Tryz.func43 (by kernel_rfl) (by kernel_rfl) fun args r h => by
  unfold F36 at h
  split at h
  · cases h; exact x36 _
  · cases h
end Go.Proofs.YtmmpjnjdddaldaaGreatDoor
