/- The small functions of the pitches, by the interpreter. -/
import Derived.Test.YthoampbpeiehhaaDoorPmTys
import Derived.Test.YthoampbpeiehhaaDoorPmX
set_option linter.unusedSimpArgs false
set_option linter.unusedVariables false
set_option maxRecDepth 100000
set_option maxHeartbeats 4000000
namespace Go.Proofs.YthoampbpeiehhaaDoor
open Go.Pm
attribute [local simp] acode_skip acode_ret acode_exit acode_label acode_scope acode_region acode_seq acode_block acode_cond aops_nil aops_plain aops_guard finish_norm finish_ret thenC_ite inB_ite finish_ite Go.Pm.prun outO_ite arun aval put aWanted enter aresult List.getD Tree.get Nat.beq Nat.ble specFn

attribute [local simp] Y tys

def semi : Int → Int
  | 0 => 0 | 1 => 2 | 2 => 4 | 3 => 5 | 4 => 7 | 5 => 9 | 6 => 11 | _ => 0

abbrev w64 (n : Int) : Int := IntKind.i64.wrap n
abbrev P3 (s a o : Int) : SV := .agg [.i s, .i a, .i o]
def numW (s a o : Int) : Int := w64 (w64 (w64 (12 * w64 (o + 1)) + semi s) + a)


theorem run44 (s : Int) (h : 0 ≤ s ∧ s ≤ 6) : prun Y (fun _ => none) Tryd.f44 100 [.i s] = some (.i (semi s)) := by
  have : s = 0 ∨ s = 1 ∨ s = 2 ∨ s = 3 ∨ s = 4 ∨ s = 5 ∨ s = 6 := by omega
  unfold Tryd.f44
  rcases this with rfl | rfl | rfl | rfl | rfl | rfl | rfl <;> simp [semi]
def F44 : List SV → Option SV
  | [.pv (.int .i64 s)] => if 0 ≤ s ∧ s ≤ 6 then some (.i (semi s)) else none
  | _ => none
theorem ok44 (args : List SV) (r : SV) (h : F44 args = some r) : ∃ fuel, prun Y (fun _ => none) Tryd.f44 fuel args = some r := by
  unfold F44 at h
  split at h
  · split at h
    · cases h; rename_i hs; exact ⟨100, run44 _ hs⟩
    · cases h
  · cases h


def F35 : List SV → Option SV
  | [] => some (.agg [.i 0, .i 2, .i 4, .i 5, .i 7, .i 9, .i 11])
  | _ => none
theorem ok35 (args : List SV) (r : SV) (h : F35 args = some r) : ∃ fuel, prun Y (fun _ => none) Tryd.f35 fuel args = some r := by
  unfold F35 at h
  split at h
  · cases h; refine ⟨100, ?_⟩; unfold Tryd.f35; simp
  · cases h

def F43 : List SV → Option SV
  | [] => some (.agg [.i 0, .i 2, .i 4, .i (-1), .i 1, .i 3, .i 5])
  | _ => none
theorem ok43 (args : List SV) (r : SV) (h : F43 args = some r) : ∃ fuel, prun Y (fun _ => none) Tryd.f43 fuel args = some r := by
  unfold F43 at h
  split at h
  · cases h; refine ⟨100, ?_⟩; unfold Tryd.f43; simp
  · cases h

def F38 : List SV → Option SV
  | [] => some (.agg [.str [98, 98], .str [98], .str [], .str [35], .str [35, 35]])
  | _ => none
theorem ok38 (args : List SV) (r : SV) (h : F38 args = some r) : ∃ fuel, prun Y (fun _ => none) Tryd.f38 fuel args = some r := by
  unfold F38 at h
  split at h
  · cases h; refine ⟨100, ?_⟩; unfold Tryd.f38; simp
  · cases h

def fif : Int → Int
  | 0 => 0 | 1 => 2 | 2 => 4 | 3 => -1 | 4 => 1 | 5 => 3 | 6 => 5 | _ => 0

noncomputable def TA : FuncId → Option Pm.Spec := Tree.get (.node 43 (.pure false F43) (.node 35 (.pure false F35) .nil (.node 38 (.pure false F38) .nil .nil)) (.node 44 (.pure false F44) .nil .nil))

/-- On a pitch whose step is a step. -/
def onP (f : Int → Int → Int → SV) : List SV → Option SV
  | [.agg [.pv (.int .i64 s), .pv (.int .i64 a), .pv (.int .i64 o)]] => if 0 ≤ s ∧ s ≤ 6 then some (f s a o) else none
  | _ => none
/-- On any pitch. -/
def onQ (f : Int → Int → Int → SV) : List SV → Option SV
  | [.agg [.pv (.int .i64 s), .pv (.int .i64 a), .pv (.int .i64 o)]] => some (f s a o)
  | _ => none
theorem onP_ok {f : Int → Int → Int → SV} {G : List SV → Option SV} (h : ∀ s a o, 0 ≤ s ∧ s ≤ 6 → G [P3 s a o] = some (f s a o)) (args : List SV) (r : SV) (hr : onP f args = some r) : G args = some r := by
  unfold onP at hr
  split at hr
  · split at hr
    · cases hr; rename_i hs; exact h _ _ _ hs
    · cases hr
  · cases hr
theorem onQ_ok {f : Int → Int → Int → SV} {G : List SV → Option SV} (h : ∀ s a o, G [P3 s a o] = some (f s a o)) (args : List SV) (r : SV) (hr : onQ f args = some r) : G args = some r := by
  unfold onQ at hr
  split at hr
  · cases hr; exact h _ _ _
  · cases hr

theorem run28 (s a o : Int) (h0 : 0 ≤ s ∧ s ≤ 6) : prun Y TA Tryd.f28 100 [P3 s a o] = some (.i (numW s a o)) := by
  unfold Tryd.f28
  simp [TA, F44, h0, numW]
theorem run37 (s a o : Int) (h0 : 0 ≤ s ∧ s ≤ 6) : prun Y TA Tryd.f37 100 [P3 s a o] = some (.i (numW s a o)) := by
  have : s = 0 ∨ s = 1 ∨ s = 2 ∨ s = 3 ∨ s = 4 ∨ s = 5 ∨ s = 6 := by omega
  unfold Tryd.f37
  rcases this with rfl | rfl | rfl | rfl | rfl | rfl | rfl <;> simp [TA, F35, numW, semi]
def diaW (s o : Int) : Int := w64 (w64 (7 * o) + s)
theorem run25 (s a o : Int) : prun Y TA Tryd.f25 100 [P3 s a o] = some (.i (diaW s o)) := by
  unfold Tryd.f25
  simp [diaW]
def fifW (s a : Int) : Int := w64 (fif s + w64 (7 * a))
theorem run29 (s a o : Int) (h0 : 0 ≤ s ∧ s ≤ 6) : prun Y TA Tryd.f29 100 [P3 s a o] = some (.i (fifW s a)) := by
  have : s = 0 ∨ s = 1 ∨ s = 2 ∨ s = 3 ∨ s = 4 ∨ s = 5 ∨ s = 6 := by omega
  unfold Tryd.f29
  rcases this with rfl | rfl | rfl | rfl | rfl | rfl | rfl <;> simp [fifW, fif]

abbrev F28 := onP fun s a o => .i (numW s a o)
abbrev F37 := onP fun s a o => .i (numW s a o)
abbrev F25 := onQ fun s _ o => .i (diaW s o)
abbrev F29 := onP fun s a _ => .i (fifW s a)
noncomputable def TB : FuncId → Option Pm.Spec := Tree.get (.node 37 (.pure false F37) (.node 28 (.pure false F28) .nil .nil) (.node 43 (.pure false F43) .nil .nil))

/-- A pitch whose fields are in range. -/
abbrev inR (s a o : Int) : Prop := 0 ≤ s ∧ s ≤ 6 ∧ -2 ≤ a ∧ a ≤ 2 ∧ -1 ≤ o ∧ o ≤ 9
def valid (s a o : Int) : Prop := inR s a o ∧ 0 ≤ numW s a o ∧ numW s a o ≤ 127
instance (s a o : Int) : Decidable (valid s a o) := inferInstanceAs (Decidable (inR s a o ∧ 0 ≤ numW s a o ∧ numW s a o ≤ 127))
def chk (s a o : Int) : Int := if valid s a o then 0 else 18
theorem run27 (s a o : Int) : prun Y TB Tryd.f27 100 [P3 s a o] = some (.i (chk s a o)) := by
  unfold Tryd.f27
  by_cases h1 : s < 0
  · rw [show chk s a o = 18 from if_neg (by intro h; unfold valid at h; omega)]
    simp [h1]
  have h1' : 0 ≤ s := by omega
  by_cases h2 : s > 6
  · rw [show chk s a o = 18 from if_neg (by intro h; unfold valid at h; omega)]
    simp [h1, h1', h2, show 6 < s from h2]
  have h2' : s ≤ 6 := by omega
  have h2'' : ¬ 6 < s := by omega
  by_cases h3 : a < -2
  · rw [show chk s a o = 18 from if_neg (by intro h; unfold valid at h; omega)]
    simp [h1, h1', h2, h2', h2'', h3]
  have h3' : -2 ≤ a := by omega
  by_cases h4 : a > 2
  · rw [show chk s a o = 18 from if_neg (by intro h; unfold valid at h; omega)]
    simp [h1, h1', h2, h2', h2'', h3, h3', h4, show 2 < a from h4]
  have h4' : a ≤ 2 := by omega
  have h4'' : ¬ 2 < a := by omega
  by_cases h5 : o < -1
  · rw [show chk s a o = 18 from if_neg (by intro h; unfold valid at h; omega)]
    simp [h1, h1', h2, h2', h2'', h3, h3', h4, h4', h4'', h5]
  have h5' : -1 ≤ o := by omega
  by_cases h6 : o > 9
  · rw [show chk s a o = 18 from if_neg (by intro h; unfold valid at h; omega)]
    simp [h1, h1', h2, h2', h2'', h3, h3', h4, h4', h4'', h5, h5', h6, show 9 < o from h6]
  have h6' : o ≤ 9 := by omega
  have h6'' : ¬ 9 < o := by omega
  by_cases h7 : numW s a o < 0
  · rw [show chk s a o = 18 from if_neg (by intro h; unfold valid at h; omega)]
    simp [TB, onP, h1, h1', h2, h2', h2'', h3, h3', h4, h4', h4'', h5, h5', h6, h6', h6'', h7, show ¬ 0 ≤ numW s a o from by omega]
  have h7' : 0 ≤ numW s a o := by omega
  by_cases h8 : numW s a o > 127
  · rw [show chk s a o = 18 from if_neg (by intro h; unfold valid at h; omega)]
    simp [TB, onP, h1, h1', h2, h2', h2'', h3, h3', h4, h4', h4'', h5, h5', h6, h6', h6'', h7, h7', h8, show 127 < numW s a o from h8, show ¬ numW s a o ≤ 127 from by omega]
  have h8' : numW s a o ≤ 127 := by omega
  have h8'' : ¬ 127 < numW s a o := by omega
  rw [show chk s a o = 0 from if_pos ⟨⟨h1', h2', h3', h4', h5', h6'⟩, h7', h8'⟩]
  simp [TB, onP, h1, h1', h2, h2', h2'', h3, h3', h4, h4', h4'', h5, h5', h6, h6', h6'', h7, h7', h8, h8', h8'']

def ex (s a o : Int) : Bool := if valid s a o then true else false
theorem run16 (s a o : Int) : prun Y TB Tryd.f16 100 [P3 s a o] = some (.bool (ex s a o)) := by
  unfold Tryd.f16
  by_cases h1 : s < 0
  · rw [show ex s a o = false from if_neg (by intro h; unfold valid at h; omega)]
    simp [h1]
  have h1' : 0 ≤ s := by omega
  by_cases h2 : s > 6
  · rw [show ex s a o = false from if_neg (by intro h; unfold valid at h; omega)]
    simp [h1, h1', h2, show 6 < s from h2]
  have h2' : s ≤ 6 := by omega
  have h2'' : ¬ 6 < s := by omega
  by_cases h3 : a < -2
  · rw [show ex s a o = false from if_neg (by intro h; unfold valid at h; omega)]
    simp [h1, h1', h2, h2', h2'', h3]
  have h3' : -2 ≤ a := by omega
  by_cases h4 : a > 2
  · rw [show ex s a o = false from if_neg (by intro h; unfold valid at h; omega)]
    simp [h1, h1', h2, h2', h2'', h3, h3', h4, show 2 < a from h4]
  have h4' : a ≤ 2 := by omega
  have h4'' : ¬ 2 < a := by omega
  by_cases h5 : o < -1
  · rw [show ex s a o = false from if_neg (by intro h; unfold valid at h; omega)]
    simp [h1, h1', h2, h2', h2'', h3, h3', h4, h4', h4'', h5]
  have h5' : -1 ≤ o := by omega
  by_cases h6 : o > 9
  · rw [show ex s a o = false from if_neg (by intro h; unfold valid at h; omega)]
    simp [h1, h1', h2, h2', h2'', h3, h3', h4, h4', h4'', h5, h5', h6, show 9 < o from h6]
  have h6' : o ≤ 9 := by omega
  have h6'' : ¬ 9 < o := by omega
  by_cases h7 : numW s a o < 0
  · rw [show ex s a o = false from if_neg (by intro h; unfold valid at h; omega)]
    simp [TB, onP, h1, h1', h2, h2', h2'', h3, h3', h4, h4', h4'', h5, h5', h6, h6', h6'', h7, show ¬ 0 ≤ numW s a o from by omega]
  have h7' : 0 ≤ numW s a o := by omega
  by_cases h8 : numW s a o > 127
  · rw [show ex s a o = false from if_neg (by intro h; unfold valid at h; omega)]
    simp [TB, onP, h1, h1', h2, h2', h2'', h3, h3', h4, h4', h4'', h5, h5', h6, h6', h6'', h7, h7', h8, show 127 < numW s a o from h8, show ¬ numW s a o ≤ 127 from by omega]
  have h8' : numW s a o ≤ 127 := by omega
  have h8'' : ¬ 127 < numW s a o := by omega
  rw [show ex s a o = true from if_pos ⟨⟨h1', h2', h3', h4', h5', h6'⟩, h7', h8'⟩]
  simp [TB, onP, h1, h1', h2, h2', h2'', h3, h3', h4, h4', h4'', h5, h5', h6, h6', h6'', h7, h7', h8, h8', h8'']


abbrev F27 := onQ fun s a o => .i (chk s a o)
abbrev F16 := onQ fun s a o => .bool (ex s a o)
noncomputable def TC : FuncId → Option Pm.Spec := Tree.get (.node 37 (.pure false F37) (.node 27 (.pure false F27) .nil .nil) (.node 43 (.pure false F43) .nil .nil))

theorem run22 (s a o : Int) : prun Y TC Tryd.f22 100 [P3 s a o] = some (if valid s a o then .tuple [.i (numW s a o), .i 0] else .tuple [.i 0, .i 18]) := by
  unfold Tryd.f22
  by_cases h : valid s a o
  · have e : chk s a o = 0 := if_pos h
    have h1 : 0 ≤ s ∧ s ≤ 6 := ⟨h.1.1, h.1.2.1⟩
    rw [if_pos h]
    simp [TC, onQ, onP, e, h1, outL]
  · have e : chk s a o = 18 := if_neg h
    rw [if_neg h]
    simp [TC, onQ, onP, e, outL]
theorem run26 (s a o : Int) : prun Y TC Tryd.f26 100 [P3 s a o] = some (if valid s a o then .tuple [.i (diaW s o), .i 0] else .tuple [.i 0, .i 18]) := by
  unfold Tryd.f26
  by_cases h : valid s a o
  · have e : chk s a o = 0 := if_pos h
    rw [if_pos h]
    simp [TC, onQ, onP, e, outL, diaW]
  · have e : chk s a o = 18 := if_neg h
    rw [if_neg h]
    simp [TC, onQ, onP, e, outL]
theorem run23 (s a o : Int) : prun Y TC Tryd.f23 100 [P3 s a o] = some (if valid s a o then .tuple [.i (fifW s a), .i 0] else .tuple [.i 0, .i 18]) := by
  unfold Tryd.f23
  by_cases h : valid s a o
  · have e : chk s a o = 0 := if_pos h
    have h1 : 0 ≤ s ∧ s ≤ 6 := ⟨h.1.1, h.1.2.1⟩
    have : s = 0 ∨ s = 1 ∨ s = 2 ∨ s = 3 ∨ s = 4 ∨ s = 5 ∨ s = 6 := by omega
    rw [if_pos h]
    rcases this with rfl | rfl | rfl | rfl | rfl | rfl | rfl <;> simp [TC, F43, onQ, onP, e, outL, fifW, fif]
  · have e : chk s a o = 18 := if_neg h
    rw [if_neg h]
    simp [TC, onQ, onP, e, outL]
abbrev F22 := onQ fun s a o => if valid s a o then .tuple [.i (numW s a o), .i 0] else .tuple [.i 0, .i 18]
abbrev F26 := onQ fun s a o => if valid s a o then .tuple [.i (diaW s o), .i 0] else .tuple [.i 0, .i 18]
abbrev F23 := onQ fun s a o => if valid s a o then .tuple [.i (fifW s a), .i 0] else .tuple [.i 0, .i 18]

/-- A law's two conjuncts on a program's functions. -/
abbrev OkAt (W0 : World) (g : Nat) (F : List SV → Option SV) : Prop := Enterable Tryd.prog g ∧ Meets Tryd.prog W0 g (specFn (.pure false F))
theorem meets44 (W0 : World) : OkAt W0 44 F44 := ⟨enterable_of Tryd.func44 (by kernel_rfl), meets_prun env tok_none mixed Tryd.func44 rfl (by kernel_rfl) ok44⟩
theorem meets35 (W0 : World) : OkAt W0 35 F35 := ⟨enterable_of Tryd.func35 (by kernel_rfl), meets_prun env tok_none mixed Tryd.func35 rfl (by kernel_rfl) ok35⟩
theorem meets43 (W0 : World) : OkAt W0 43 F43 := ⟨enterable_of Tryd.func43 (by kernel_rfl), meets_prun env tok_none mixed Tryd.func43 rfl (by kernel_rfl) ok43⟩
theorem meets38 (W0 : World) : OkAt W0 38 F38 := ⟨enterable_of Tryd.func38 (by kernel_rfl), meets_prun env tok_none mixed Tryd.func38 rfl (by kernel_rfl) ok38⟩
theorem tokA (W0 : World) : TOk Tryd.prog W0 TA := tok_tree ⟨meets43 W0, ⟨meets35 W0, trivial, meets38 W0, trivial, trivial⟩, meets44 W0, trivial, trivial⟩
theorem meets28 (W0 : World) : OkAt W0 28 F28 := ⟨enterable_of Tryd.func28 (by kernel_rfl), meets_prun env (tokA W0) mixed Tryd.func28 rfl (by kernel_rfl) fun args r h => ⟨100, onP_ok run28 args r h⟩⟩
theorem meets37 (W0 : World) : OkAt W0 37 F37 := ⟨enterable_of Tryd.func37 (by kernel_rfl), meets_prun env (tokA W0) mixed Tryd.func37 rfl (by kernel_rfl) fun args r h => ⟨100, onP_ok run37 args r h⟩⟩
theorem meets25 (W0 : World) : OkAt W0 25 F25 := ⟨enterable_of Tryd.func25 (by kernel_rfl), meets_prun env (tokA W0) mixed Tryd.func25 rfl (by kernel_rfl) fun args r h => ⟨100, onQ_ok run25 args r h⟩⟩
theorem meets29 (W0 : World) : OkAt W0 29 F29 := ⟨enterable_of Tryd.func29 (by kernel_rfl), meets_prun env (tokA W0) mixed Tryd.func29 rfl (by kernel_rfl) fun args r h => ⟨100, onP_ok run29 args r h⟩⟩
theorem tokB (W0 : World) : TOk Tryd.prog W0 TB := tok_tree ⟨meets37 W0, ⟨meets28 W0, trivial, trivial⟩, meets43 W0, trivial, trivial⟩
theorem meets27 (W0 : World) : OkAt W0 27 F27 := ⟨enterable_of Tryd.func27 (by kernel_rfl), meets_prun env (tokB W0) mixed Tryd.func27 rfl (by kernel_rfl) fun args r h => ⟨100, onQ_ok run27 args r h⟩⟩
theorem meets16 (W0 : World) : OkAt W0 16 F16 := ⟨enterable_of Tryd.func16 (by kernel_rfl), meets_prun env (tokB W0) mixed Tryd.func16 rfl (by kernel_rfl) fun args r h => ⟨100, onQ_ok run16 args r h⟩⟩
theorem tokC (W0 : World) : TOk Tryd.prog W0 TC := tok_tree ⟨meets37 W0, ⟨meets27 W0, trivial, trivial⟩, meets43 W0, trivial, trivial⟩
theorem meets22 (W0 : World) : OkAt W0 22 F22 := ⟨enterable_of Tryd.func22 (by kernel_rfl), meets_prun env (tokC W0) mixed Tryd.func22 rfl (by kernel_rfl) fun args r h => ⟨100, onQ_ok run22 args r h⟩⟩
theorem meets26 (W0 : World) : OkAt W0 26 F26 := ⟨enterable_of Tryd.func26 (by kernel_rfl), meets_prun env (tokC W0) mixed Tryd.func26 rfl (by kernel_rfl) fun args r h => ⟨100, onQ_ok run26 args r h⟩⟩
theorem meets23 (W0 : World) : OkAt W0 23 F23 := ⟨enterable_of Tryd.func23 (by kernel_rfl), meets_prun env (tokC W0) mixed Tryd.func23 rfl (by kernel_rfl) fun args r h => ⟨100, onQ_ok run23 args r h⟩⟩
end Go.Proofs.YthoampbpeiehhaaDoor
