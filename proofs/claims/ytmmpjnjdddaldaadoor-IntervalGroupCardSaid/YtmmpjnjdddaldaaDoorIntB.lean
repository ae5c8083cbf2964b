/- Pitches and intervals: Diatonic, Number, places, Check, Between, sums, by the machine. -/
import Derived.Test.YtmmpjnjdddaldaaDoorIntA
set_option linter.unusedSimpArgs false
set_option linter.unusedVariables false
set_option maxRecDepth 1000000
set_option maxHeartbeats 400000
namespace Go.Proofs.YtmmpjnjdddaldaaDoor
open Go Go.Pm Go.RowKit
theorem x16 (s a o : Int) : XFn Y T16 Tryd.f16 [P3 s a o] [] (Is (.bool (decide (valid s a o)))) := by
  unfold XFn Tryd.f16
  rw [enter_1 _ (by decide)]
  by_cases h : inR s a o
  · obtain ⟨⟨h1, h2⟩, ⟨h3, h4⟩, h5, h6⟩ := h
    have hin : inR s a o := ⟨⟨h1, h2⟩, ⟨h3, h4⟩, h5, h6⟩
    have hF : F71 [P3 s a o] = some (.i (numZ s a o)) := by simp only [F71]; rw [if_pos hin]
    have hv : valid s a o ↔ (0 ≤ numZ s a o ∧ numZ s a o ≤ 127) := ⟨fun h => h.2, fun h => ⟨hin, h⟩⟩
    generalize numZ s a o = n at *
    by_cases k1 : 0 ≤ n
    · by_cases k2 : n ≤ 127
      · have : valid s a o := hv.2 ⟨k1, k2⟩
        simp [-Int.not_lt, -Int.not_le, h1, h2, h3, h4, h5, h6, T16_eq, hF, k1, k2, this]
      · have : ¬ valid s a o := fun h => k2 (hv.1 h).2
        simp [-Int.not_lt, -Int.not_le, h1, h2, h3, h4, h5, h6, T16_eq, hF, k1, k2, this]
    · have : ¬ valid s a o := fun h => k1 (hv.1 h).1
      simp [-Int.not_lt, -Int.not_le, h1, h2, h3, h4, h5, h6, T16_eq, hF, k1, this]
  · have hn : ¬ valid s a o := fun hv => h hv.1
    simp only [decide_eq_false hn]
    by_cases n1 : 0 ≤ s
    · by_cases n2 : s ≤ 6
      · by_cases n3 : -2 ≤ a
        · by_cases n4 : a ≤ 2
          · by_cases n5 : -1 ≤ o
            · by_cases n6 : o ≤ 9
              · exact absurd ⟨⟨n1, n2⟩, ⟨n3, n4⟩, n5, n6⟩ h
              · simp [-Int.not_lt, -Int.not_le, n1, n2, n3, n4, n5, n6]
            · simp [-Int.not_lt, -Int.not_le, n1, n2, n3, n4, n5]
          · simp [-Int.not_lt, -Int.not_le, n1, n2, n3, n4]
        · simp [-Int.not_lt, -Int.not_le, n1, n2, n3]
      · simp [-Int.not_lt, -Int.not_le, n1, n2]
    · simp [-Int.not_lt, -Int.not_le, n1]
def F16 : List SV → Option SV
  | [.agg [.pv (.int .i64 s), .pv (.int .i64 a), .pv (.int .i64 o)]] => some (.bool (decide (valid s a o)))
  | _ => none
theorem meets16 (W0 : World) : OkAt W0 16 F16 := meets_fn env (tok_cons (meets14 W0) tok_nil) mixed Tryd.func16 (by kernel_rfl) (by kernel_rfl) fun args r h => by
  unfold F16 at h
  split at h
  · cases h; exact x16 _ _ _
  · cases h
/-- Diatonic and Number with their errors. -/
noncomputable def T58 : FuncId → Option Pm.Spec := tab [(66, .pure false F66)]
theorem T58_eq (g : Nat) : T58 g = tab [(66, .pure false F66)] g := rfl
noncomputable def T59 : FuncId → Option Pm.Spec := tab [(66, .pure false F66), (71, .pure false F71)]
theorem T59_eq (g : Nat) : T59 g = tab [(66, .pure false F66), (71, .pure false F71)] g := rfl
theorem x58 (s a o : Int) : XFn Y T58 Tryd.f58 [P3 s a o] [] (Is (if valid s a o then .tuple [.i (posZ s o), .i 0] else .tuple [.i 0, .i 18])) := by
  unfold XFn Tryd.f58
  rw [enter_1 _ (by decide)]
  by_cases h : valid s a o
  · obtain ⟨w1, w2⟩ := pos_wraps h.1
    simp [T58_eq, F66, h, w1, w2]
  · simp [T58_eq, F66, h]
theorem x59 (s a o : Int) : XFn Y T59 Tryd.f59 [P3 s a o] [] (Is (if valid s a o then .tuple [.i (numZ s a o), .i 0] else .tuple [.i 0, .i 18])) := by
  unfold XFn Tryd.f59
  rw [enter_1 _ (by decide)]
  by_cases h : valid s a o
  · simp [T59_eq, F66, F71, h, h.1]
  · simp [T59_eq, F66, h]
def F58 : List SV → Option SV
  | [.agg [.pv (.int .i64 s), .pv (.int .i64 a), .pv (.int .i64 o)]] => some (if valid s a o then .tuple [.i (posZ s o), .i 0] else .tuple [.i 0, .i 18])
  | _ => none
def F59 : List SV → Option SV
  | [.agg [.pv (.int .i64 s), .pv (.int .i64 a), .pv (.int .i64 o)]] => some (if valid s a o then .tuple [.i (numZ s a o), .i 0] else .tuple [.i 0, .i 18])
  | _ => none
theorem meets58 (W0 : World) : OkAt W0 58 F58 := meets_fn env (tok_cons (meets66 W0) tok_nil) mixed Tryd.func58 (by kernel_rfl) (by kernel_rfl) fun args r h => by
  unfold F58 at h
  split at h
  · cases h; exact x58 _ _ _
  · cases h
theorem meets59 (W0 : World) : OkAt W0 59 F59 := meets_fn env (tok_cons (meets66 W0) (tok_cons (meets71 W0) tok_nil)) mixed Tryd.func59 (by kernel_rfl) (by kernel_rfl) fun args r h => by
  unfold F59 at h
  split at h
  · cases h; exact x59 _ _ _
  · cases h
noncomputable def T45 : FuncId → Option Pm.Spec := tab [(58, .pure false F58), (59, .pure false F59)]
theorem T45_eq (g : Nat) : T45 g = tab [(58, .pure false F58), (59, .pure false F59)] g := rfl
theorem x45 (s a o : Int) : XFn Y T45 Tryd.f45 [P3 s a o] [] (Is (if valid s a o then .tuple [.i (posZ s o), .i (numZ s a o), .i 0] else .tuple [.i 0, .i 0, .i 18])) := by
  unfold XFn Tryd.f45
  rw [enter_1 _ (by decide)]
  by_cases h : valid s a o
  · simp [T45_eq, F58, F59, h]
  · simp [T45_eq, F58, F59, h]
def F45 : List SV → Option SV
  | [.agg [.pv (.int .i64 s), .pv (.int .i64 a), .pv (.int .i64 o)]] => some (if valid s a o then .tuple [.i (posZ s o), .i (numZ s a o), .i 0] else .tuple [.i 0, .i 0, .i 18])
  | _ => none
theorem meets45 (W0 : World) : OkAt W0 45 F45 := meets_fn env (tok_cons (meets58 W0) (tok_cons (meets59 W0) tok_nil)) mixed Tryd.func45 (by kernel_rfl) (by kernel_rfl) fun args r h => by
  unfold F45 at h
  split at h
  · cases h; exact x45 _ _ _
  · cases h
/-- Intervals: Check and Is. -/
theorem x22 (s m : Int) : XFn Y T0 Tryd.f22 [I2 s m] [] (Is (.i (if isI s m then 0 else 2))) := by
  unfold XFn Tryd.f22
  rw [enter_1 _ (by decide)]
  by_cases n1 : s < -77
  · have : ¬ isI s m := fun h => by have := h.1.1; omega
    simp [-Int.not_lt, -Int.not_le, n1, this]
  by_cases n2 : 77 < s
  · have : ¬ isI s m := fun h => by have := h.1.2; omega
    simp [-Int.not_lt, -Int.not_le, n1, n2, this]
  by_cases n3 : m < -140
  · have : ¬ isI s m := fun h => by have := h.2.1; omega
    simp [-Int.not_lt, -Int.not_le, n1, n2, n3, this]
  by_cases n4 : 140 < m
  · have : ¬ isI s m := fun h => by have := h.2.2; omega
    simp [-Int.not_lt, -Int.not_le, n1, n2, n3, n4, this]
  have : isI s m := ⟨⟨by omega, by omega⟩, by omega, by omega⟩
  simp [-Int.not_lt, -Int.not_le, n1, n2, n3, n4, this]
theorem x23 (s m : Int) : XFn Y T0 Tryd.f23 [I2 s m] [] (Is (.bool (decide (isI s m)))) := by
  unfold XFn Tryd.f23
  rw [enter_1 _ (by decide)]
  by_cases n1 : -77 ≤ s
  · by_cases n2 : s ≤ 77
    · by_cases n3 : -140 ≤ m
      · by_cases n4 : m ≤ 140
        · have : isI s m := ⟨⟨n1, n2⟩, n3, n4⟩
          simp [-Int.not_lt, -Int.not_le, n1, n2, n3, n4, this]
        · have : ¬ isI s m := fun h => n4 h.2.2
          simp [-Int.not_lt, -Int.not_le, n1, n2, n3, n4, this]
      · have : ¬ isI s m := fun h => n3 h.2.1
        simp [-Int.not_lt, -Int.not_le, n1, n2, n3, this]
    · have : ¬ isI s m := fun h => n2 h.1.2
      simp [-Int.not_lt, -Int.not_le, n1, n2, this]
  · have : ¬ isI s m := fun h => n1 h.1.1
    simp [-Int.not_lt, -Int.not_le, n1, this]
def F22 : List SV → Option SV
  | [.agg [.pv (.int .i64 s), .pv (.int .i64 m)]] => some (.i (if isI s m then 0 else 2))
  | _ => none
def F23 : List SV → Option SV
  | [.agg [.pv (.int .i64 s), .pv (.int .i64 m)]] => some (.bool (decide (isI s m)))
  | _ => none
theorem meets22 (W0 : World) : OkAt W0 22 F22 := meets_fn env tok_nil mixed Tryd.func22 (by kernel_rfl) (by kernel_rfl) fun args r h => by
  unfold F22 at h
  split at h
  · cases h; exact x22 _ _
  · cases h
theorem meets23 (W0 : World) : OkAt W0 23 F23 := meets_fn env tok_nil mixed Tryd.func23 (by kernel_rfl) (by kernel_rfl) fun args r h => by
  unfold F23 at h
  split at h
  · cases h; exact x23 _ _
  · cases h
/-- Between. -/
noncomputable def T26 : FuncId → Option Pm.Spec := tab [(45, .pure false F45)]
theorem T26_eq (g : Nat) : T26 g = tab [(45, .pure false F45)] g := rfl
noncomputable def T28 : FuncId → Option Pm.Spec := tab [(42, .pure false F38), (14, .pure false F71)]
theorem T28_eq (g : Nat) : T28 g = tab [(42, .pure false F38), (14, .pure false F71)] g := rfl
theorem btw_wraps {s a o s' a' o' : Int} (h : valid s a o) (h' : valid s' a' o') : IntKind.i64.wrap (posZ s' o' - posZ s o) = posZ s' o' - posZ s o ∧ IntKind.i64.wrap (numZ s' a' o' - numZ s a o) = numZ s' a' o' - numZ s a o := by
  obtain ⟨⟨h1, h2, h3⟩, h4⟩ := h
  obtain ⟨⟨k1, k2, k3⟩, k4⟩ := h'
  unfold posZ
  exact ⟨wrap64 (by omega) (by omega), wrap64 (by omega) (by omega)⟩
theorem x26 (s a o s' a' o' : Int) : XFn Y T26 Tryd.f26 [P3 s a o, P3 s' a' o'] [] (Is (if valid s a o ∧ valid s' a' o' then .tuple [I2 (posZ s' o' - posZ s o) (numZ s' a' o' - numZ s a o), .i 0] else .tuple [I2 0 0, .i 18])) := by
  unfold XFn Tryd.f26
  rw [enter_2 _ (by decide)]
  by_cases h : valid s a o
  · by_cases h' : valid s' a' o'
    · obtain ⟨w1, w2⟩ := btw_wraps h h'
      simp [T26_eq, F45, h, h', w1, w2]
    · simp [T26_eq, F45, h, h']
  · by_cases h' : valid s' a' o'
    · simp [T26_eq, F45, h, h']
    · simp [T26_eq, F45, h, h']
def F26 : List SV → Option SV
  | [.agg [.pv (.int .i64 s), .pv (.int .i64 a), .pv (.int .i64 o)], .agg [.pv (.int .i64 s'), .pv (.int .i64 a'), .pv (.int .i64 o')]] =>
    some (if valid s a o ∧ valid s' a' o' then .tuple [I2 (posZ s' o' - posZ s o) (numZ s' a' o' - numZ s a o), .i 0] else .tuple [I2 0 0, .i 18])
  | _ => none
theorem meets26 (W0 : World) : OkAt W0 26 F26 := meets_fn env (tok_cons (meets45 W0) tok_nil) mixed Tryd.func26 (by kernel_rfl) (by kernel_rfl) fun args r h => by
  unfold F26 at h
  split at h
  · cases h; exact x26 _ _ _ _ _ _
  · cases h
theorem x28 (s a o s' a' o' : Int) (h : valid s a o) (h' : valid s' a' o') : XFn Y T28 Tryd.f28 [P3 s a o, P3 s' a' o'] [] (Is (I2 (posZ s' o' - posZ s o) (numZ s' a' o' - numZ s a o))) := by
  unfold XFn Tryd.f28
  rw [enter_2 _ (by decide)]
  obtain ⟨w1, w2⟩ := btw_wraps h h'
  simp [T28_eq, F38, F71, h.1, h'.1, w1, w2]
def F28 : List SV → Option SV
  | [.agg [.pv (.int .i64 s), .pv (.int .i64 a), .pv (.int .i64 o)], .agg [.pv (.int .i64 s'), .pv (.int .i64 a'), .pv (.int .i64 o')]] =>
    if valid s a o ∧ valid s' a' o' then some (I2 (posZ s' o' - posZ s o) (numZ s' a' o' - numZ s a o)) else none
  | _ => none
theorem meets28 (W0 : World) : OkAt W0 28 F28 := meets_fn env (tok_cons (meets42 W0) (tok_cons (meets14 W0) tok_nil)) mixed Tryd.func28 (by kernel_rfl) (by kernel_rfl) fun args r h => by
  unfold F28 at h
  split at h
  · split at h
    · cases h; rename_i hc; exact x28 _ _ _ _ _ _ hc.1 hc.2
    · cases h
  · cases h
end Go.Proofs.YtmmpjnjdddaldaaDoor
