/- Qualities, simple and inverted intervals, with the reference's, by the machine. -/
import Derived.Test.YtmmpjnjdddaldaaDoorIntR
set_option linter.unusedSimpArgs false
set_option linter.unusedVariables false
set_option maxRecDepth 1000000
set_option maxHeartbeats 400000
namespace Go.Proofs.YtmmpjnjdddaldaaDoor
open Go Go.Pm Go.RowKit
theorem x53 (s m : Int) : XFn Y T0 Tryd.f53 [I2 s m] [] (Is (.bool (downZ s m))) := by
  unfold XFn Tryd.f53 downZ
  rw [enter_1 _ (by decide)]
  by_cases h1 : s < 0
  · simp [-Int.not_lt, -Int.not_le, h1]
  · by_cases h2 : s = 0
    · by_cases h3 : m < 0
      · simp [-Int.not_lt, -Int.not_le, h1, h2, h3]
      · simp [-Int.not_lt, -Int.not_le, h1, h2, h3]
    · simp [-Int.not_lt, -Int.not_le, h1, h2]
theorem meets53 (W0 : World) : OkAt W0 53 F51 := meets_fn env tok_nil mixed Tryd.func53 (by kernel_rfl) (by kernel_rfl) fun args r h => by
  unfold F51 at h
  split at h
  · cases h; exact x53 _ _
  · cases h
/-- Upwards. -/
def upZ (s m : Int) : Int × Int := if downZ s m = true then (-s, -m) else (s, m)
theorem up_z {s m : Int} (h : isI s m) : (0 ≤ (upZ s m).1 ∧ (upZ s m).1 ≤ 77) ∧ -140 ≤ (upZ s m).2 ∧ (upZ s m).2 ≤ 140 := by
  obtain ⟨u1, u2⟩ := up_range h
  obtain ⟨⟨h1, h2⟩, h3, h4⟩ := h
  unfold upZ
  by_cases hd : downZ s m = true
  · have := u1 hd
    simp only [if_pos hd]; omega
  · have := u2 (by simpa using hd)
    simp only [if_neg hd]; omega
theorem qua_up (s m : Int) : quaZ s m = quaU (upZ s m).1 (upZ s m).2 := by
  unfold quaZ upZ
  by_cases hd : downZ s m = true
  · simp only [if_pos hd]
  · simp only [if_neg hd]
noncomputable def T52 : FuncId → Option Pm.Spec := tab [(53, .pure false F51)]
theorem T52_eq (g : Nat) : T52 g = tab [(53, .pure false F51)] g := rfl
theorem x52 (s m : Int) (h : isI s m) : XFn Y T52 Tryd.f52 [I2 s m] [] (Is (I2 (upZ s m).1 (upZ s m).2)) := by
  unfold XFn Tryd.f52 upZ
  rw [enter_1 _ (by decide)]
  obtain ⟨⟨h1, h2⟩, h3, h4⟩ := h
  have w1 : IntKind.i64.wrap (-s) = -s := wrap64 (by omega) (by omega)
  have w2 : IntKind.i64.wrap (-m) = -m := wrap64 (by omega) (by omega)
  by_cases hd : downZ s m = true
  · simp [-Int.not_lt, -Int.not_le, T52_eq, F51, hd, w1, w2]
  · simp [-Int.not_lt, -Int.not_le, T52_eq, F51, hd]
def F52 : List SV → Option SV
  | [.agg [.pv (.int .i64 s), .pv (.int .i64 m)]] => if isI s m then some (I2 (upZ s m).1 (upZ s m).2) else none
  | _ => none
theorem meets52 (W0 : World) : OkAt W0 52 F52 := meets_fn env (tok_cons (meets53 W0) tok_nil) mixed Tryd.func52 (by kernel_rfl) (by kernel_rfl) fun args r h => by
  unfold F52 at h
  split at h
  · split at h
    · rename_i hc; cases h; exact x52 _ _ hc
    · cases h
  · cases h
noncomputable def T33 : FuncId → Option Pm.Spec := tab [(52, .pure false F52), (44, .pure false F44)]
theorem T33_eq (g : Nat) : T33 g = tab [(52, .pure false F52), (44, .pure false F44)] g := rfl
theorem x33 (s m : Int) (h : isI s m) : XFn Y T33 Tryd.f33 [I2 s m] [] (Is (.tuple [.i (quaZ s m).1, .i (quaZ s m).2])) := by
  unfold XFn Tryd.f33
  rw [enter_1 _ (by decide)]
  obtain ⟨⟨u1, u2⟩, u3, u4⟩ := up_z h
  rw [qua_up]
  have hF : F52 [I2 s m] = some (I2 (upZ s m).1 (upZ s m).2) := by simp only [F52]; rw [if_pos h]
  generalize (upZ s m).1 = u at *
  generalize (upZ s m).2 = v at *
  have t1 : u.tdiv 7 = u / 7 := Int.tdiv_eq_ediv_of_nonneg u1
  have t2 : u.tmod 7 = u % 7 := Int.tmod_eq_emod_of_nonneg u1
  have hk : 0 ≤ u % 7 ∧ u % 7 ≤ 6 := by omega
  have hs := semi_range hk
  have hG : F44 [.i (u % 7)] = some (.i (semi (u % 7))) := by simp only [F44]; rw [if_pos hk]
  have w1 : IntKind.i64.wrap (u / 7) = u / 7 := wrap64 (by omega) (by omega)
  have w2 : IntKind.i64.wrap (12 * (u / 7)) = 12 * (u / 7) := wrap64 (by omega) (by omega)
  have w3 : IntKind.i64.wrap (v - 12 * (u / 7)) = v - 12 * (u / 7) := wrap64 (by omega) (by omega)
  have w4 : IntKind.i64.wrap (v - 12 * (u / 7) - semi (u % 7)) = v - natZ u := by rw [wrap64 (by omega) (by omega)]; unfold natZ; omega
  have hd : -2000 ≤ v - natZ u ∧ v - natZ u ≤ 2000 := by unfold natZ; omega
  unfold quaU perZ larZ
  generalize v - natZ u = d at *
  have w5 : IntKind.i64.wrap (-d) = -d := wrap64 (by omega) (by omega)
  have w6 : IntKind.i64.wrap (-1 - d) = -1 - d := wrap64 (by omega) (by omega)
  generalize u % 7 = k at *
  generalize semi k = z at *
  rcases (by omega : k = 0 ∨ k = 1 ∨ k = 2 ∨ k = 3 ∨ k = 4 ∨ k = 5 ∨ k = 6) with rfl | rfl | rfl | rfl | rfl | rfl | rfl
  all_goals
    by_cases h1 : 0 < d
    · simp [-Int.not_lt, -Int.not_le, T33_eq, hF, hG, t1, t2, w1, w2, w3, w4, w5, w6, h1, pureIx]
    · by_cases h2 : d = 0
      · subst h2
        simp [-Int.not_lt, -Int.not_le, T33_eq, hF, hG, t1, t2, w1, w2, w3, w4, w5, w6, pureIx]
      · by_cases h3 : d = -1
        · subst h3
          simp [-Int.not_lt, -Int.not_le, T33_eq, hF, hG, t1, t2, w1, w2, w3, w4, show IntKind.i64.wrap 1 = 1 from rfl, pureIx]
        · have h4 : d < 0 := by omega
          simp [-Int.not_lt, -Int.not_le, T33_eq, hF, hG, t1, t2, w1, w2, w3, w4, w5, w6, h1, h2, h3, h4, pureIx]
theorem meets33 (W0 : World) : OkAt W0 33 F50 := meets_fn env (tok_cons (meets52 W0) (tok_cons (meets44 W0) tok_nil)) mixed Tryd.func33 (by kernel_rfl) (by kernel_rfl) fun args r h => by
  unfold F50 at h
  split at h
  · split at h
    · rename_i hc; cases h; exact x33 _ _ hc
    · cases h
  · cases h
/-- Quality, with its error. -/
noncomputable def T30 : FuncId → Option Pm.Spec := tab [(22, .pure false F22), (50, .pure false F50)]
theorem T30_eq (g : Nat) : T30 g = tab [(22, .pure false F22), (50, .pure false F50)] g := rfl
theorem x30 (s m : Int) : XFn Y T30 Tryd.f30 [I2 s m] [] (Is (if isI s m then .tuple [.i (quaZ s m).1, .i (quaZ s m).2, .i 0] else .tuple [.i 0, .i 0, .i 2])) := by
  unfold XFn Tryd.f30
  rw [enter_1 _ (by decide)]
  by_cases h : isI s m
  · simp [T30_eq, F22, F50, h]
  · simp [T30_eq, F22, h]
def F30 : List SV → Option SV
  | [.agg [.pv (.int .i64 s), .pv (.int .i64 m)]] => some (if isI s m then .tuple [.i (quaZ s m).1, .i (quaZ s m).2, .i 0] else .tuple [.i 0, .i 0, .i 2])
  | _ => none
theorem meets30 (W0 : World) : OkAt W0 30 F30 := meets_fn env (tok_cons (meets22 W0) (tok_cons (meets50 W0) tok_nil)) mixed Tryd.func30 (by kernel_rfl) (by kernel_rfl) fun args r h => by
  unfold F30 at h
  split at h
  · cases h; exact x30 _ _
  · cases h
/-- Simple intervals. -/
def simU (s m : Int) : (Int × Int) × Int := ((s - 7 * (s / 7), m - 12 * (s / 7)), s / 7)
def simZ (s m : Int) : (Int × Int) × Int := if downZ s m = true then ((-(simU (-s) (-m)).1.1, -(simU (-s) (-m)).1.2), -(simU (-s) (-m)).2) else simU s m
abbrev simV (x : (Int × Int) × Int) : SV := .tuple [I2 x.1.1 x.1.2, .i x.2, .i 0]
theorem sim_wraps {s m : Int} (h : 0 ≤ s ∧ s ≤ 77) (h2 : -140 ≤ m ∧ m ≤ 140) : s.tdiv 7 = s / 7 ∧ IntKind.i64.wrap (s / 7) = s / 7 ∧ IntKind.i64.wrap (7 * (s / 7)) = 7 * (s / 7) ∧ IntKind.i64.wrap (s - 7 * (s / 7)) = s - 7 * (s / 7) ∧ IntKind.i64.wrap (12 * (s / 7)) = 12 * (s / 7) ∧ IntKind.i64.wrap (m - 12 * (s / 7)) = m - 12 * (s / 7) :=
  ⟨Int.tdiv_eq_ediv_of_nonneg h.1, wrap64 (by omega) (by omega), wrap64 (by omega) (by omega), wrap64 (by omega) (by omega), wrap64 (by omega) (by omega), wrap64 (by omega) (by omega)⟩
noncomputable def T31u : FuncId → Option Pm.Spec := tab [(22, .pure false F22), (51, .pure false F51)]
theorem T31u_eq (g : Nat) : T31u g = tab [(22, .pure false F22), (51, .pure false F51)] g := rfl
theorem x31u (s m : Int) (h : isI s m) (hd : downZ s m = false) : XFn Y T31u Tryd.f31 [I2 s m] [] (Is (simV (simU s m))) := by
  unfold XFn Tryd.f31
  rw [enter_1 _ (by decide)]
  have u2 := (up_range h).2 hd
  obtain ⟨t1, w1, w2, w3, w4, w5⟩ := sim_wraps (s := s) (m := m) ⟨u2, h.1.2⟩ h.2
  simp [-Int.not_lt, -Int.not_le, T31u_eq, F22, F51, h, hd, t1, w1, w2, w3, w4, w5, simU]
def F31u : List SV → Option SV
  | [.agg [.pv (.int .i64 s), .pv (.int .i64 m)]] => if isI s m ∧ downZ s m = false then some (simV (simU s m)) else none
  | _ => none
theorem meets31u (W0 : World) : OkAt W0 31 F31u := meets_fn env (tok_cons (meets22 W0) (tok_cons (meets51 W0) tok_nil)) mixed Tryd.func31 (by kernel_rfl) (by kernel_rfl) fun args r h => by
  unfold F31u at h
  split at h
  · split at h
    · rename_i hc; cases h; exact x31u _ _ hc.1 hc.2
    · cases h
  · cases h
noncomputable def T31 : FuncId → Option Pm.Spec := tab [(22, .pure false F22), (51, .pure false F51), (47, .pure false F47), (31, .pure false F31u)]
theorem T31_eq (g : Nat) : T31 g = tab [(22, .pure false F22), (51, .pure false F51), (47, .pure false F47), (31, .pure false F31u)] g := rfl
theorem down_opp {s m : Int} (h : downZ s m = true) : downZ (-s) (-m) = false := by
  unfold downZ at *
  by_cases h1 : s < 0
  · simp; omega
  · simp [h1] at h
    simp; omega
theorem x31 (s m : Int) : XFn Y T31 Tryd.f31 [I2 s m] [] (Is (if isI s m then simV (simZ s m) else .tuple [I2 0 0, .i 0, .i 2])) := by
  unfold XFn Tryd.f31
  rw [enter_1 _ (by decide)]
  by_cases h : isI s m
  · obtain ⟨u1, u2⟩ := up_range h
    unfold simZ
    by_cases hd : downZ s m = true
    · have hx : isI (-s) (-m) := by
        obtain ⟨⟨h1, h2⟩, h3, h4⟩ := h
        exact ⟨⟨by omega, by omega⟩, by omega, by omega⟩
      have w1 : IntKind.i64.wrap (-s) = -s := wrap64 (by have := h.1; omega) (by have := h.1; omega)
      have w2 : IntKind.i64.wrap (-m) = -m := wrap64 (by have := h.2; omega) (by have := h.2; omega)
      have hF : F31u [I2 (-s) (-m)] = some (simV (simU (-s) (-m))) := by simp only [F31u]; rw [if_pos ⟨hx, down_opp hd⟩]
      have r1 : 0 ≤ (simU (-s) (-m)).1.1 ∧ (simU (-s) (-m)).1.1 ≤ 100 ∧ -1000 ≤ (simU (-s) (-m)).1.2 ∧ (simU (-s) (-m)).1.2 ≤ 1000 ∧ 0 ≤ (simU (-s) (-m)).2 ∧ (simU (-s) (-m)).2 ≤ 100 := by
        have := u1 hd
        have h1 := h.1
        have h2 := h.2
        unfold simU
        simp only []
        omega
      generalize simU (-s) (-m) = x at *
      obtain ⟨⟨x1, x2⟩, x3⟩ := x
      simp only [] at r1 hF
      have w3 : IntKind.i64.wrap (-x1) = -x1 := wrap64 (by omega) (by omega)
      have w4 : IntKind.i64.wrap (-x2) = -x2 := wrap64 (by omega) (by omega)
      have w5 : IntKind.i64.wrap (-x3) = -x3 := wrap64 (by omega) (by omega)
      simp [-Int.not_lt, -Int.not_le, T31_eq, F22, F51, F47, h, hd, w1, w2, hF, w3, w4, w5]
    · have hd' : downZ s m = false := by simpa using hd
      obtain ⟨t1, w1, w2, w3, w4, w5⟩ := sim_wraps (s := s) (m := m) ⟨u2 hd', h.1.2⟩ h.2
      simp [-Int.not_lt, -Int.not_le, T31_eq, F22, F51, h, hd', t1, w1, w2, w3, w4, w5, simU]
  · simp [T31_eq, F22, h]
def F31 : List SV → Option SV
  | [.agg [.pv (.int .i64 s), .pv (.int .i64 m)]] => some (if isI s m then simV (simZ s m) else .tuple [I2 0 0, .i 0, .i 2])
  | _ => none
theorem meets31 (W0 : World) : OkAt W0 31 F31 := meets_fn env (tok_cons (meets22 W0) (tok_cons (meets51 W0) (tok_cons (meets47 W0) (tok_cons (meets31u W0) tok_nil)))) mixed Tryd.func31 (by kernel_rfl) (by kernel_rfl) fun args r h => by
  unfold F31 at h
  split at h
  · cases h; exact x31 _ _
  · cases h
noncomputable def T34 : FuncId → Option Pm.Spec := tab [(52, .pure false F52), (53, .pure false F51)]
theorem T34_eq (g : Nat) : T34 g = tab [(52, .pure false F52), (53, .pure false F51)] g := rfl
theorem x34 (s m : Int) (h : isI s m) : XFn Y T34 Tryd.f34 [I2 s m] [] (Is (.tuple [I2 (simZ s m).1.1 (simZ s m).1.2, .i (simZ s m).2])) := by
  unfold XFn Tryd.f34
  rw [enter_1 _ (by decide)]
  obtain ⟨⟨u1, u2⟩, u3, u4⟩ := up_z h
  have hF : F52 [I2 s m] = some (I2 (upZ s m).1 (upZ s m).2) := by simp only [F52]; rw [if_pos h]
  have e : simZ s m = if downZ s m = true then ((-(simU (upZ s m).1 (upZ s m).2).1.1, -(simU (upZ s m).1 (upZ s m).2).1.2), -(simU (upZ s m).1 (upZ s m).2).2) else simU (upZ s m).1 (upZ s m).2 := by
    unfold simZ upZ
    by_cases hd : downZ s m = true
    · simp only [if_pos hd]
    · simp only [if_neg hd]
  rw [e]
  generalize (upZ s m).1 = u at *
  generalize (upZ s m).2 = v at *
  obtain ⟨t1, w1, w2, w3, w4, w5⟩ := sim_wraps (s := u) (m := v) ⟨u1, u2⟩ ⟨u3, u4⟩
  have w6 : IntKind.i64.wrap (-(u - 7 * (u / 7))) = -(u - 7 * (u / 7)) := wrap64 (by omega) (by omega)
  have w7 : IntKind.i64.wrap (-(v - 12 * (u / 7))) = -(v - 12 * (u / 7)) := wrap64 (by omega) (by omega)
  have w8 : IntKind.i64.wrap (-(u / 7)) = -(u / 7) := wrap64 (by omega) (by omega)
  unfold simU
  by_cases hd : downZ s m = true
  · simp only [if_pos hd]
    generalize ha : u - 7 * (u / 7) = a at *
    generalize hb : v - 12 * (u / 7) = b at *
    simp [-Int.not_lt, -Int.not_le, T34_eq, hF, F51, hd, t1, w1, w2, w3, w4, w5, w6, w7, w8, ha, hb]
  · simp only [if_neg hd]
    simp [-Int.not_lt, -Int.not_le, T34_eq, hF, F51, hd, t1, w1, w2, w3, w4, w5]
def F34 : List SV → Option SV
  | [.agg [.pv (.int .i64 s), .pv (.int .i64 m)]] => if isI s m then some (.tuple [I2 (simZ s m).1.1 (simZ s m).1.2, .i (simZ s m).2]) else none
  | _ => none
theorem meets34 (W0 : World) : OkAt W0 34 F34 := meets_fn env (tok_cons (meets52 W0) (tok_cons (meets53 W0) tok_nil)) mixed Tryd.func34 (by kernel_rfl) (by kernel_rfl) fun args r h => by
  unfold F34 at h
  split at h
  · split at h
    · rename_i hc; cases h; exact x34 _ _ hc
    · cases h
  · cases h
/-- Inverted intervals. -/
theorem x46none (s m : Int) (H : List Blk) : XFn Y T46 Tryd.f46 [I2 s m, .pv .nilSlice] H (fun x => x.1 = chkI (decide (isI s m)) s m ∧ ∃ bs, x.2 = H ++ bs) := by
  unfold XFn Tryd.f46
  rw [enter_2 _ (by decide)]
  have w1 : IntKind.i64.wrap 1 = 1 := rfl
  by_cases h3 : isI s m
  · simp [-Int.not_lt, -Int.not_le, X_loop, T46_eq, F22, h3, chkI, w1]
  · simp [-Int.not_lt, -Int.not_le, X_loop, T46_eq, F22, h3, chkI, w1]
theorem all46none (s m : Int) (H : List Blk) : ∃ bs, arunAll Y T46 Tryd.f46 [I2 s m, .pv .nilSlice] H = some (chkI (decide (isI s m)) s m, H ++ bs) := by
  obtain ⟨r, H', h1, h2, bs, h3⟩ := all_of_XFn (by rfl) (x46none s m H)
  simp only [] at h2 h3
  exact ⟨bs, by rw [h1, h2, h3]⟩
noncomputable def T32 : FuncId → Option Pm.Spec := tab [(22, .pure false F22), (46, .heap (arunAll Y T46 Tryd.f46))]
theorem T32_eq (g : Nat) : T32 g = tab [(22, .pure false F22), (46, .heap (arunAll Y T46 Tryd.f46))] g := rfl
def invZ (s m : Int) : (Int × Int) × Int := if isI s m ∧ (0 ≤ s ∧ s ≤ 7) ∧ isI (7 - s) (12 - m) then ((7 - s, 12 - m), 0) else ((0, 0), 2)
abbrev invV (x : (Int × Int) × Int) : SV := .tuple [I2 x.1.1 x.1.2, .i x.2]
theorem x32 (s m : Int) : XFn Y T32 Tryd.f32 [I2 s m] [] (Is (invV (invZ s m))) := by
  unfold XFn Tryd.f32
  rw [enter_1 _ (by decide)]
  unfold invZ
  by_cases h : isI s m
  · by_cases h1 : s < 0
    · have : ¬ 0 ≤ s := by omega
      simp [-Int.not_lt, -Int.not_le, T32_eq, F22, h, h1, this]
    · by_cases h2 : 7 < s
      · have : ¬ s ≤ 7 := by omega
        simp [-Int.not_lt, -Int.not_le, T32_eq, F22, h, h1, h2, this]
      · have h3 : 0 ≤ s := by omega
        have h4 : s ≤ 7 := by omega
        have hm := h.2
        have w1 : IntKind.i64.wrap (7 - s) = 7 - s := wrap64 (by omega) (by omega)
        have w2 : IntKind.i64.wrap (12 - m) = 12 - m := wrap64 (by omega) (by omega)
        obtain ⟨bs, hA⟩ := all46none (7 - s) (12 - m) [.box [.i s, .i m], .box [.i 0, .i 0]]
        by_cases h5 : isI (7 - s) (12 - m)
        · simp [-Int.not_lt, -Int.not_le, T32_eq, F22, h, h1, h2, h3, h4, h5, w1, w2, hA, chkI]
        · simp [-Int.not_lt, -Int.not_le, T32_eq, F22, h, h1, h2, h3, h4, h5, w1, w2, hA, chkI]
  · simp [-Int.not_lt, -Int.not_le, T32_eq, F22, h]
def F32 : List SV → Option SV
  | [.agg [.pv (.int .i64 s), .pv (.int .i64 m)]] => some (invV (invZ s m))
  | _ => none
theorem meets32 (W0 : World) : OkAt W0 32 F32 := meets_fn env (tok_cons (meets22 W0) (tok_cons (meets46 W0) tok_nil)) mixed Tryd.func32 (by kernel_rfl) (by kernel_rfl) fun args r h => by
  unfold F32 at h
  split at h
  · cases h; exact x32 _ _
  · cases h
/-- Enharmonics of a pitch. -/
noncomputable def T15 : FuncId → Option Pm.Spec := tab [(45, .pure false F45), (36, .pure false F36)]
theorem T15_eq (g : Nat) : T15 g = tab [(45, .pure false F45), (36, .pure false F36)] g := rfl
def eofR (s a o : Int) : SV := if valid s a o then .tuple [.pv (.slice 3 (rowP (enhP (numZ s a o)))), .i 0] else .tuple [.pv .nilSlice, .i 18]
theorem x15 (s a o : Int) : XFn Y T15 Tryd.f15 [P3 s a o] [] (Is (eofR s a o)) := by
  unfold XFn Tryd.f15
  rw [enter_1 _ (by decide)]
  unfold eofR
  by_cases h : valid s a o
  · have hF : F36 [.i (numZ s a o)] = some (.tuple [.pv (.slice 3 (rowP (enhP (numZ s a o)))), .i 0]) := by
      show some (splR _) = _
      rw [splR, if_pos h.2]
    simp [T15_eq, F45, h, hF]
  · simp [T15_eq, F45, h]
def F15 : List SV → Option SV
  | [.agg [.pv (.int .i64 s), .pv (.int .i64 a), .pv (.int .i64 o)]] => some (eofR s a o)
  | _ => none
theorem meets15 (W0 : World) : OkAt W0 15 F15 := meets_fn env (tok_cons (meets45 W0) (tok_cons (meets36 W0) tok_nil)) mixed Tryd.func15 (by kernel_rfl) (by kernel_rfl) fun args r h => by
  unfold F15 at h
  split at h
  · cases h; exact x15 _ _ _
  · cases h
/-- Fifths; small intervals. -/
theorem T25_eq (g : Nat) : T46 g = tab [(22, .pure false F22)] g := rfl
theorem x25 (s m : Int) : XFn Y T46 Tryd.f25 [I2 s m] [] (Is (if isI s m then .tuple [.i (7 * m - 12 * s), .i 0] else .tuple [.i 0, .i 2])) := by
  unfold XFn Tryd.f25
  rw [enter_1 _ (by decide)]
  by_cases h : isI s m
  · obtain ⟨⟨h1, h2⟩, h3, h4⟩ := id h
    have w1 : IntKind.i64.wrap (7 * m) = 7 * m := wrap64 (by omega) (by omega)
    have w2 : IntKind.i64.wrap (12 * s) = 12 * s := wrap64 (by omega) (by omega)
    have w3 : IntKind.i64.wrap (7 * m - 12 * s) = 7 * m - 12 * s := wrap64 (by omega) (by omega)
    simp [-Int.not_lt, -Int.not_le, T46_eq, F22, h, w1, w2, w3]
  · simp [-Int.not_lt, -Int.not_le, T46_eq, F22, h]
def F25 : List SV → Option SV
  | [.agg [.pv (.int .i64 s), .pv (.int .i64 m)]] => some (if isI s m then .tuple [.i (7 * m - 12 * s), .i 0] else .tuple [.i 0, .i 2])
  | _ => none
theorem meets25 (W0 : World) : OkAt W0 25 F25 := meets_fn env (tok_cons (meets22 W0) tok_nil) mixed Tryd.func25 (by kernel_rfl) (by kernel_rfl) fun args r h => by
  unfold F25 at h
  split at h
  · cases h; exact x25 _ _
  · cases h
theorem x24 (a b : Int) (ha : -128 ≤ a ∧ a ≤ 127) (hb : -128 ≤ b ∧ b ≤ 127) : XFn Y T0 Tryd.f24 [.agg [.int .i8 a, .int .i8 b]] [] (Is (I2 (a.tmod 21) (b.tmod 31))) := by
  unfold XFn Tryd.f24
  rw [enter_1 _ (by decide)]
  have w1 : IntKind.i64.wrap a = a := wrap64 (by omega) (by omega)
  have w2 : IntKind.i64.wrap b = b := wrap64 (by omega) (by omega)
  simp [-Int.not_lt, -Int.not_le, w1, w2]
def F24 : List SV → Option SV
  | [.agg [.pv (.int .i8 a), .pv (.int .i8 b)]] => if (-128 ≤ a ∧ a ≤ 127) ∧ -128 ≤ b ∧ b ≤ 127 then some (I2 (a.tmod 21) (b.tmod 31)) else none
  | _ => none
theorem meets24 (W0 : World) : OkAt W0 24 F24 := meets_fn env tok_nil mixed Tryd.func24 (by kernel_rfl) (by kernel_rfl) fun args r h => by
  unfold F24 at h
  split at h
  · split at h
    · rename_i hc; cases h; exact x24 _ _ hc.1 hc.2
    · cases h
  · cases h
end Go.Proofs.YtmmpjnjdddaldaaDoor
