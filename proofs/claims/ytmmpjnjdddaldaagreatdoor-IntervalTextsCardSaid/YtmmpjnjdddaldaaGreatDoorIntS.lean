/- Qualities, simple and inverted intervals, with the reference's, by the machine. -/
import Derived.Test.YtmmpjnjdddaldaaGreatDoorIntK
set_option linter.unusedSimpArgs false
set_option linter.unusedVariables false
set_option maxRecDepth 1000000
set_option maxHeartbeats 400000
namespace Go.Proofs.YtmmpjnjdddaldaaGreatDoor
open Go Go.Pm Go.RowKit
theorem x53 (s m : Int) : XFn Y T0 Tryz.f27 [I2 s m] [] (Is (.bool (downZ s m))) := by
  unfold XFn Tryz.f27 downZ
  rw [enter_1 _ (by decide)]
  by_cases h1 : s < 0
  · simp [-Int.not_lt, -Int.not_le, h1]
  · by_cases h2 : s = 0
    · by_cases h3 : m < 0
      · simp [-Int.not_lt, -Int.not_le, h1, h2, h3]
      · simp [-Int.not_lt, -Int.not_le, h1, h2, h3]
    · simp [-Int.not_lt, -Int.not_le, h1, h2]
theorem meets53 (W0 : World) : OkAt W0 27 F51 := meets_fn env tok_nil mixed Tryz.func27 (by kernel_rfl) (by kernel_rfl) fun args r h => by
  unfold F51 at h
  split at h
  · cases h; exact x53 _ _
  · cases h
/-- Upwards. -/
def upZ (s m : Int) : Int × Int := if downZ s m = true then (-s, -m) else (s, m)
theorem up_z {s m : Int} (h : isI s m) : (0 ≤ (upZ s m).1 ∧ (upZ s m).1 ≤ 77) ∧ -140 ≤ (upZ s m).2 ∧ (upZ s m).2 ≤ 140 := by
  obtain ⟨u1, u2⟩ := up_range h
  obtain ⟨⟨h1, h2⟩, h3, h4⟩ := h
  unfold upZ
  by_cases hd : downZ s m = true
  · have := u1 hd
    simp only [if_pos hd]; omega
  · have := u2 (by simpa using hd)
    simp only [if_neg hd]; omega
theorem qua_up (s m : Int) : quaZ s m = quaU (upZ s m).1 (upZ s m).2 := by
  unfold quaZ upZ
  by_cases hd : downZ s m = true
  · simp only [if_pos hd]
  · simp only [if_neg hd]
noncomputable def T52 : FuncId → Option Pm.Spec := tab [(27, .pure false F51)]
theorem T52_eq (g : Nat) : T52 g = tab [(27, .pure false F51)] g := rfl
theorem x52 (s m : Int) (h : isI s m) : XFn Y T52 Tryz.f30 [I2 s m] [] (Is (I2 (upZ s m).1 (upZ s m).2)) := by
  unfold XFn Tryz.f30 upZ
  rw [enter_1 _ (by decide)]
  obtain ⟨⟨h1, h2⟩, h3, h4⟩ := h
  have w1 : IntKind.i64.wrap (-s) = -s := wrap64 (by omega) (by omega)
  have w2 : IntKind.i64.wrap (-m) = -m := wrap64 (by omega) (by omega)
  by_cases hd : downZ s m = true
  · simp [-Int.not_lt, -Int.not_le, T52_eq, F51, hd, w1, w2]
  · simp [-Int.not_lt, -Int.not_le, T52_eq, F51, hd]
def F52 : List SV → Option SV
  | [.agg [.pv (.int .i64 s), .pv (.int .i64 m)]] => if isI s m then some (I2 (upZ s m).1 (upZ s m).2) else none
  | _ => none
theorem meets52 (W0 : World) : OkAt W0 30 F52 := meets_fn env (tok_cons (meets53 W0) tok_nil) mixed Tryz.func30 (by kernel_rfl) (by kernel_rfl) fun args r h => by
  unfold F52 at h
  split at h
  · split at h
    · rename_i hc; cases h; exact x52 _ _ hc
    · cases h
  · cases h
noncomputable def T33 : FuncId → Option Pm.Spec := tab [(30, .pure false F52), (50, .pure false F44)]
theorem T33_eq (g : Nat) : T33 g = tab [(30, .pure false F52), (50, .pure false F44)] g := rfl
theorem x33 (s m : Int) (h : isI s m) : XFn Y T33 Tryz.f28 [I2 s m] [] (Is (.tuple [.i (quaZ s m).1, .i (quaZ s m).2])) := by
  unfold XFn Tryz.f28
  rw [enter_1 _ (by decide)]
  obtain ⟨⟨u1, u2⟩, u3, u4⟩ := up_z h
  rw [qua_up]
  have hF : F52 [I2 s m] = some (I2 (upZ s m).1 (upZ s m).2) := by simp only [F52]; rw [if_pos h]
  generalize (upZ s m).1 = u at *
  generalize (upZ s m).2 = v at *
  have t1 : u.tdiv 7 = u / 7 := Int.tdiv_eq_ediv_of_nonneg u1
  have t2 : u.tmod 7 = u % 7 := Int.tmod_eq_emod_of_nonneg u1
  have hk : 0 ≤ u % 7 ∧ u % 7 ≤ 6 := by omega
  have hs := semi_range hk
  have hG : F44 [.i (u % 7)] = some (.i (semi (u % 7))) := by simp only [F44]; rw [if_pos hk]
  have w1 : IntKind.i64.wrap (u / 7) = u / 7 := wrap64 (by omega) (by omega)
  have w2 : IntKind.i64.wrap (12 * (u / 7)) = 12 * (u / 7) := wrap64 (by omega) (by omega)
  have w3 : IntKind.i64.wrap (v - 12 * (u / 7)) = v - 12 * (u / 7) := wrap64 (by omega) (by omega)
  have w4 : IntKind.i64.wrap (v - 12 * (u / 7) - semi (u % 7)) = v - natZ u := by rw [wrap64 (by omega) (by omega)]; unfold natZ; omega
  have hd : -2000 ≤ v - natZ u ∧ v - natZ u ≤ 2000 := by unfold natZ; omega
  unfold quaU perZ larZ
  generalize v - natZ u = d at *
  have w5 : IntKind.i64.wrap (-d) = -d := wrap64 (by omega) (by omega)
  have w6 : IntKind.i64.wrap (-1 - d) = -1 - d := wrap64 (by omega) (by omega)
  generalize u % 7 = k at *
  generalize semi k = z at *
  rcases (by omega : k = 0 ∨ k = 1 ∨ k = 2 ∨ k = 3 ∨ k = 4 ∨ k = 5 ∨ k = 6) with rfl | rfl | rfl | rfl | rfl | rfl | rfl
  all_goals
    by_cases h1 : 0 < d
    · simp [-Int.not_lt, -Int.not_le, T33_eq, hF, hG, t1, t2, w1, w2, w3, w4, w5, w6, h1, pureIx]
    · by_cases h2 : d = 0
      · subst h2
        simp [-Int.not_lt, -Int.not_le, T33_eq, hF, hG, t1, t2, w1, w2, w3, w4, w5, w6, pureIx]
      · by_cases h3 : d = -1
        · subst h3
          simp [-Int.not_lt, -Int.not_le, T33_eq, hF, hG, t1, t2, w1, w2, w3, w4, show IntKind.i64.wrap 1 = 1 from rfl, pureIx]
        · have h4 : d < 0 := by omega
          simp [-Int.not_lt, -Int.not_le, T33_eq, hF, hG, t1, t2, w1, w2, w3, w4, w5, w6, h1, h2, h3, h4, pureIx]
theorem meets33 (W0 : World) : OkAt W0 28 F50 := meets_fn env (tok_cons (meets52 W0) (tok_cons (meets44 W0) tok_nil)) mixed Tryz.func28 (by kernel_rfl) (by kernel_rfl) fun args r h => by
  unfold F50 at h
  split at h
  · split at h
    · rename_i hc; cases h; exact x33 _ _ hc
    · cases h
  · cases h
/-- Quality, with its error. -/
noncomputable def T30 : FuncId → Option Pm.Spec := tab [(19, .pure false F22), (24, .pure false F50)]
theorem T30_eq (g : Nat) : T30 g = tab [(19, .pure false F22), (24, .pure false F50)] g := rfl
def F30 : List SV → Option SV
  | [.agg [.pv (.int .i64 s), .pv (.int .i64 m)]] => some (if isI s m then .tuple [.i (quaZ s m).1, .i (quaZ s m).2, .i 0] else .tuple [.i 0, .i 0, .i 2])
  | _ => none
/-- Simple intervals. -/
def simU (s m : Int) : (Int × Int) × Int := ((s - 7 * (s / 7), m - 12 * (s / 7)), s / 7)
def simZ (s m : Int) : (Int × Int) × Int := if downZ s m = true then ((-(simU (-s) (-m)).1.1, -(simU (-s) (-m)).1.2), -(simU (-s) (-m)).2) else simU s m
abbrev simV (x : (Int × Int) × Int) : SV := .tuple [I2 x.1.1 x.1.2, .i x.2, .i 0]
theorem sim_wraps {s m : Int} (h : 0 ≤ s ∧ s ≤ 77) (h2 : -140 ≤ m ∧ m ≤ 140) : s.tdiv 7 = s / 7 ∧ IntKind.i64.wrap (s / 7) = s / 7 ∧ IntKind.i64.wrap (7 * (s / 7)) = 7 * (s / 7) ∧ IntKind.i64.wrap (s - 7 * (s / 7)) = s - 7 * (s / 7) ∧ IntKind.i64.wrap (12 * (s / 7)) = 12 * (s / 7) ∧ IntKind.i64.wrap (m - 12 * (s / 7)) = m - 12 * (s / 7) :=
  ⟨Int.tdiv_eq_ediv_of_nonneg h.1, wrap64 (by omega) (by omega), wrap64 (by omega) (by omega), wrap64 (by omega) (by omega), wrap64 (by omega) (by omega), wrap64 (by omega) (by omega)⟩
noncomputable def T31u : FuncId → Option Pm.Spec := tab [(19, .pure false F22), (23, .pure false F51)]
theorem T31u_eq (g : Nat) : T31u g = tab [(19, .pure false F22), (23, .pure false F51)] g := rfl
def F31u : List SV → Option SV
  | [.agg [.pv (.int .i64 s), .pv (.int .i64 m)]] => if isI s m ∧ downZ s m = false then some (simV (simU s m)) else none
  | _ => none
theorem down_opp {s m : Int} (h : downZ s m = true) : downZ (-s) (-m) = false := by
  unfold downZ at *
  by_cases h1 : s < 0
  · simp; omega
  · simp [h1] at h
    simp; omega
def F31 : List SV → Option SV
  | [.agg [.pv (.int .i64 s), .pv (.int .i64 m)]] => some (if isI s m then simV (simZ s m) else .tuple [I2 0 0, .i 0, .i 2])
  | _ => none
noncomputable def T34 : FuncId → Option Pm.Spec := tab [(30, .pure false F52), (27, .pure false F51)]
theorem T34_eq (g : Nat) : T34 g = tab [(30, .pure false F52), (27, .pure false F51)] g := rfl
def F34 : List SV → Option SV
  | [.agg [.pv (.int .i64 s), .pv (.int .i64 m)]] => if isI s m then some (.tuple [I2 (simZ s m).1.1 (simZ s m).1.2, .i (simZ s m).2]) else none
  | _ => none
def invZ (s m : Int) : (Int × Int) × Int := if isI s m ∧ (0 ≤ s ∧ s ≤ 7) ∧ isI (7 - s) (12 - m) then ((7 - s, 12 - m), 0) else ((0, 0), 2)
abbrev invV (x : (Int × Int) × Int) : SV := .tuple [I2 x.1.1 x.1.2, .i x.2]
def F32 : List SV → Option SV
  | [.agg [.pv (.int .i64 s), .pv (.int .i64 m)]] => some (invV (invZ s m))
  | _ => none
/-- Enharmonics of a pitch. -/
noncomputable def T15 : FuncId → Option Pm.Spec := tab [(41, .pure false F45), (43, .pure false F36)]
theorem T15_eq (g : Nat) : T15 g = tab [(41, .pure false F45), (43, .pure false F36)] g := rfl
def eofR (s a o : Int) : SV := if valid s a o then .tuple [.pv (.slice 3 (rowP (enhP (numZ s a o)))), .i 0] else .tuple [.pv .nilSlice, .i 18]
def F15 : List SV → Option SV
  | [.agg [.pv (.int .i64 s), .pv (.int .i64 a), .pv (.int .i64 o)]] => some (eofR s a o)
  | _ => none
end Go.Proofs.YtmmpjnjdddaldaaGreatDoor
