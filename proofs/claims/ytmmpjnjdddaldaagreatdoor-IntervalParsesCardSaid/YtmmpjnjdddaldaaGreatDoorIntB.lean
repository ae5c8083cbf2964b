/- Pitches and intervals: Diatonic, Number, places, Check, Between, sums, by the machine. -/
import Derived.Test.YtmmpjnjdddaldaaGreatDoorIntA
set_option linter.unusedSimpArgs false
set_option linter.unusedVariables false
set_option maxRecDepth 1000000
set_option maxHeartbeats 400000
namespace Go.Proofs.YtmmpjnjdddaldaaGreatDoor
open Go Go.Pm Go.RowKit
def F16 : List SV → Option SV
  | [.agg [.pv (.int .i64 s), .pv (.int .i64 a), .pv (.int .i64 o)]] => some (.bool (decide (valid s a o)))
  | _ => none
/-- Diatonic and Number with their errors. -/
noncomputable def T58 : FuncId → Option Pm.Spec := tab [(83, .pure false F66)]
theorem T58_eq (g : Nat) : T58 g = tab [(83, .pure false F66)] g := rfl
noncomputable def T59 : FuncId → Option Pm.Spec := tab [(83, .pure false F66), (84, .pure false F71)]
theorem T59_eq (g : Nat) : T59 g = tab [(83, .pure false F66), (84, .pure false F71)] g := rfl
theorem x58 (s a o : Int) : XFn Y T58 Tryz.f68 [P3 s a o] [] (Is (if valid s a o then .tuple [.i (posZ s o), .i 0] else .tuple [.i 0, .i 18])) := by
  unfold XFn Tryz.f68
  rw [enter_1 _ (by decide)]
  by_cases h : valid s a o
  · obtain ⟨w1, w2⟩ := pos_wraps h.1
    simp [T58_eq, F66, h, w1, w2]
  · simp [T58_eq, F66, h]
theorem x59 (s a o : Int) : XFn Y T59 Tryz.f69 [P3 s a o] [] (Is (if valid s a o then .tuple [.i (numZ s a o), .i 0] else .tuple [.i 0, .i 18])) := by
  unfold XFn Tryz.f69
  rw [enter_1 _ (by decide)]
  by_cases h : valid s a o
  · simp [T59_eq, F66, F71, h, h.1]
  · simp [T59_eq, F66, h]
def F58 : List SV → Option SV
  | [.agg [.pv (.int .i64 s), .pv (.int .i64 a), .pv (.int .i64 o)]] => some (if valid s a o then .tuple [.i (posZ s o), .i 0] else .tuple [.i 0, .i 18])
  | _ => none
def F59 : List SV → Option SV
  | [.agg [.pv (.int .i64 s), .pv (.int .i64 a), .pv (.int .i64 o)]] => some (if valid s a o then .tuple [.i (numZ s a o), .i 0] else .tuple [.i 0, .i 18])
  | _ => none
theorem meets58 (W0 : World) : OkAt W0 68 F58 := meets_fn env (tok_cons (meets66 W0) tok_nil) mixed Tryz.func68 (by kernel_rfl) (by kernel_rfl) fun args r h => by
  unfold F58 at h
  split at h
  · cases h; exact x58 _ _ _
  · cases h
theorem meets59 (W0 : World) : OkAt W0 69 F59 := meets_fn env (tok_cons (meets66 W0) (tok_cons (meets71 W0) tok_nil)) mixed Tryz.func69 (by kernel_rfl) (by kernel_rfl) fun args r h => by
  unfold F59 at h
  split at h
  · cases h; exact x59 _ _ _
  · cases h
noncomputable def T45 : FuncId → Option Pm.Spec := tab [(68, .pure false F58), (69, .pure false F59)]
theorem T45_eq (g : Nat) : T45 g = tab [(68, .pure false F58), (69, .pure false F59)] g := rfl
theorem x45 (s a o : Int) : XFn Y T45 Tryz.f41 [P3 s a o] [] (Is (if valid s a o then .tuple [.i (posZ s o), .i (numZ s a o), .i 0] else .tuple [.i 0, .i 0, .i 18])) := by
  unfold XFn Tryz.f41
  rw [enter_1 _ (by decide)]
  by_cases h : valid s a o
  · simp [T45_eq, F58, F59, h]
  · simp [T45_eq, F58, F59, h]
def F45 : List SV → Option SV
  | [.agg [.pv (.int .i64 s), .pv (.int .i64 a), .pv (.int .i64 o)]] => some (if valid s a o then .tuple [.i (posZ s o), .i (numZ s a o), .i 0] else .tuple [.i 0, .i 0, .i 18])
  | _ => none
theorem meets45 (W0 : World) : OkAt W0 41 F45 := meets_fn env (tok_cons (meets58 W0) (tok_cons (meets59 W0) tok_nil)) mixed Tryz.func41 (by kernel_rfl) (by kernel_rfl) fun args r h => by
  unfold F45 at h
  split at h
  · cases h; exact x45 _ _ _
  · cases h
/-- Intervals: Check and Is. -/
theorem x22 (s m : Int) : XFn Y T0 Tryz.f19 [I2 s m] [] (Is (.i (if isI s m then 0 else 2))) := by
  unfold XFn Tryz.f19
  rw [enter_1 _ (by decide)]
  by_cases n1 : s < -77
  · have : ¬ isI s m := fun h => by have := h.1.1; omega
    simp [-Int.not_lt, -Int.not_le, n1, this]
  by_cases n2 : 77 < s
  · have : ¬ isI s m := fun h => by have := h.1.2; omega
    simp [-Int.not_lt, -Int.not_le, n1, n2, this]
  by_cases n3 : m < -140
  · have : ¬ isI s m := fun h => by have := h.2.1; omega
    simp [-Int.not_lt, -Int.not_le, n1, n2, n3, this]
  by_cases n4 : 140 < m
  · have : ¬ isI s m := fun h => by have := h.2.2; omega
    simp [-Int.not_lt, -Int.not_le, n1, n2, n3, n4, this]
  have : isI s m := ⟨⟨by omega, by omega⟩, by omega, by omega⟩
  simp [-Int.not_lt, -Int.not_le, n1, n2, n3, n4, this]
theorem x23 (s m : Int) : XFn Y T0 Tryz.f10 [I2 s m] [] (Is (.bool (decide (isI s m)))) := by
  unfold XFn Tryz.f10
  rw [enter_1 _ (by decide)]
  by_cases n1 : -77 ≤ s
  · by_cases n2 : s ≤ 77
    · by_cases n3 : -140 ≤ m
      · by_cases n4 : m ≤ 140
        · have : isI s m := ⟨⟨n1, n2⟩, n3, n4⟩
          simp [-Int.not_lt, -Int.not_le, n1, n2, n3, n4, this]
        · have : ¬ isI s m := fun h => n4 h.2.2
          simp [-Int.not_lt, -Int.not_le, n1, n2, n3, n4, this]
      · have : ¬ isI s m := fun h => n3 h.2.1
        simp [-Int.not_lt, -Int.not_le, n1, n2, n3, this]
    · have : ¬ isI s m := fun h => n2 h.1.2
      simp [-Int.not_lt, -Int.not_le, n1, n2, this]
  · have : ¬ isI s m := fun h => n1 h.1.1
    simp [-Int.not_lt, -Int.not_le, n1, this]
def F22 : List SV → Option SV
  | [.agg [.pv (.int .i64 s), .pv (.int .i64 m)]] => some (.i (if isI s m then 0 else 2))
  | _ => none
def F23 : List SV → Option SV
  | [.agg [.pv (.int .i64 s), .pv (.int .i64 m)]] => some (.bool (decide (isI s m)))
  | _ => none
theorem meets22 (W0 : World) : OkAt W0 19 F22 := meets_fn env tok_nil mixed Tryz.func19 (by kernel_rfl) (by kernel_rfl) fun args r h => by
  unfold F22 at h
  split at h
  · cases h; exact x22 _ _
  · cases h
theorem meets23 (W0 : World) : OkAt W0 10 F23 := meets_fn env tok_nil mixed Tryz.func10 (by kernel_rfl) (by kernel_rfl) fun args r h => by
  unfold F23 at h
  split at h
  · cases h; exact x23 _ _
  · cases h
/-- Between. -/
noncomputable def T26 : FuncId → Option Pm.Spec := tab [(41, .pure false F45)]
theorem T26_eq (g : Nat) : T26 g = tab [(41, .pure false F45)] g := rfl
theorem btw_wraps {s a o s' a' o' : Int} (h : valid s a o) (h' : valid s' a' o') : IntKind.i64.wrap (posZ s' o' - posZ s o) = posZ s' o' - posZ s o ∧ IntKind.i64.wrap (numZ s' a' o' - numZ s a o) = numZ s' a' o' - numZ s a o := by
  obtain ⟨⟨h1, h2, h3⟩, h4⟩ := h
  obtain ⟨⟨k1, k2, k3⟩, k4⟩ := h'
  unfold posZ
  exact ⟨wrap64 (by omega) (by omega), wrap64 (by omega) (by omega)⟩
theorem x26 (s a o s' a' o' : Int) : XFn Y T26 Tryz.f21 [P3 s a o, P3 s' a' o'] [] (Is (if valid s a o ∧ valid s' a' o' then .tuple [I2 (posZ s' o' - posZ s o) (numZ s' a' o' - numZ s a o), .i 0] else .tuple [I2 0 0, .i 18])) := by
  unfold XFn Tryz.f21
  rw [enter_2 _ (by decide)]
  by_cases h : valid s a o
  · by_cases h' : valid s' a' o'
    · obtain ⟨w1, w2⟩ := btw_wraps h h'
      simp [T26_eq, F45, h, h', w1, w2]
    · simp [T26_eq, F45, h, h']
  · by_cases h' : valid s' a' o'
    · simp [T26_eq, F45, h, h']
    · simp [T26_eq, F45, h, h']
def F26 : List SV → Option SV
  | [.agg [.pv (.int .i64 s), .pv (.int .i64 a), .pv (.int .i64 o)], .agg [.pv (.int .i64 s'), .pv (.int .i64 a'), .pv (.int .i64 o')]] =>
    some (if valid s a o ∧ valid s' a' o' then .tuple [I2 (posZ s' o' - posZ s o) (numZ s' a' o' - numZ s a o), .i 0] else .tuple [I2 0 0, .i 18])
  | _ => none
theorem meets26 (W0 : World) : OkAt W0 21 F26 := meets_fn env (tok_cons (meets45 W0) tok_nil) mixed Tryz.func21 (by kernel_rfl) (by kernel_rfl) fun args r h => by
  unfold F26 at h
  split at h
  · cases h; exact x26 _ _ _ _ _ _
  · cases h
def F28 : List SV → Option SV
  | [.agg [.pv (.int .i64 s), .pv (.int .i64 a), .pv (.int .i64 o)], .agg [.pv (.int .i64 s'), .pv (.int .i64 a'), .pv (.int .i64 o')]] =>
    if valid s a o ∧ valid s' a' o' then some (I2 (posZ s' o' - posZ s o) (numZ s' a' o' - numZ s a o)) else none
  | _ => none
end Go.Proofs.YtmmpjnjdddaldaaGreatDoor
