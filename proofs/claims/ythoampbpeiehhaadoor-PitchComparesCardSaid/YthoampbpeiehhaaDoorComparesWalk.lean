/- The law of the order, by the interpreter. -/
import Derived.Test.YthoampbpeiehhaaDoorPitchK
set_option linter.unusedSimpArgs false
set_option linter.unusedVariables false
set_option maxRecDepth 100000
set_option maxHeartbeats 1000000
namespace Go.Proofs.YthoampbpeiehhaaDoor
open Go.Pm Go.RowKit
attribute [local simp] acode_skip acode_ret acode_exit acode_label acode_scope acode_region acode_seq acode_block acode_cond aops_nil aops_plain aops_guard finish_norm finish_ret thenC_ite inB_ite finish_ite Go.Pm.prun outO_ite arun aval put aWanted enter aresult List.getD Tree.get Nat.beq Nat.ble specFn
attribute [local simp] Y tys

theorem run53 (x : Int) : prun Y (fun _ => none) Tryd.f53 100 [.i x] = some (.bool false) := by
  unfold Tryd.f53
  simp
def F53 : List SV → Option SV
  | [.pv (.int .i64 _)] => some (.bool false)
  | _ => none
theorem meets53 (W0 : World) : OkAt W0 53 F53 := ⟨enterable_of Tryd.func53 (by kernel_rfl), meets_prun env tok_none mixed Tryd.func53 rfl (by kernel_rfl) fun args r h => by
  unfold F53 at h
  split at h
  · cases h; exact ⟨100, run53 _⟩
  · cases h⟩
def sgn (x y : Int) : Int := if x < y then -1 else if x > y then 1 else 0
noncomputable def Tc1 : FuncId → Option Pm.Spec := Tree.get (.node 53 (.pure false F53) .nil .nil)
theorem run46 (x y : Int) : prun Y Tc1 Tryd.f46 100 [.i x, .i y] = some (.i (sgn x y)) := by
  unfold Tryd.f46
  by_cases h : x < y
  · simp [Tc1, F53, sgn, h]
  · by_cases h2 : x > y
    · simp [Tc1, F53, sgn, h, h2, show y < x from h2, show ¬ x < y from h]
    · simp [Tc1, F53, sgn, h, h2, show ¬ y < x from h2, show ¬ x < y from h]
def F46 : List SV → Option SV
  | [.pv (.int .i64 x), .pv (.int .i64 y)] => some (.i (sgn x y))
  | _ => none
theorem meets46 (W0 : World) : OkAt W0 46 F46 := ⟨enterable_of Tryd.func46 (by kernel_rfl), meets_prun env (tok_tree (t := .node 53 (.pure false F53) .nil .nil) ⟨meets53 W0, trivial, trivial⟩) mixed Tryd.func46 rfl (by kernel_rfl) fun args r h => by
  unfold F46 at h
  split at h
  · cases h; exact ⟨100, run46 _ _⟩
  · cases h⟩
theorem run45 (x y : Int) : prun Y (fun _ => none) Tryd.f45 100 [.pv (.slice 1 [[.int .i64 x], [.int .i64 y]])] = some (.i (if x = 0 then y else x)) := by
  unfold Tryd.f45
  by_cases h : x = 0
  · by_cases h2 : y = 0
    · subst h; subst h2
      simp [w64_id, acode_loop, againC_ite]
    · subst h
      simp [w64_id, acode_loop, againC_ite, h2]
  · simp [w64_id, acode_loop, againC_ite, h]
def F45 : List SV → Option SV
  | [.pv (.slice 1 [[.int .i64 x], [.int .i64 y]])] => some (.i (if x = 0 then y else x))
  | _ => none
theorem meets45 (W0 : World) : OkAt W0 45 F45 := ⟨enterable_of Tryd.func45 (by kernel_rfl), meets_prun env tok_none mixed Tryd.func45 rfl (by kernel_rfl) fun args r h => by
  unfold F45 at h
  split at h
  · cases h; exact ⟨100, run45 _ _⟩
  · cases h⟩

/-- How two pitches compare. -/
def cmpP (s a o s' a' o' : Int) : Int :=
  if valid s a o then (if valid s' a' o' then (if sgn (numW s a o) (numW s' a' o') = 0 then sgn (diaW s o) (diaW s' o') else sgn (numW s a o) (numW s' a' o')) else 1)
  else (if valid s' a' o' then -1 else 0)

noncomputable def T32 : FuncId → Option Pm.Spec := Tree.get (.node 37 (.pure false F37) (.node 27 (.pure false F27) .nil .nil) (.node 45 (.pure false F45) .nil (.node 46 (.pure false F46) .nil .nil)))
theorem tok32 (W0 : World) : TOk Tryd.prog W0 T32 := tok_tree ⟨meets37 W0, ⟨meets27 W0, trivial, trivial⟩, meets45 W0, trivial, meets46 W0, trivial, trivial⟩
theorem run32 (s a o s' a' o' : Int) : prun Y T32 Tryd.f32 200 [P3 s a o, P3 s' a' o'] = some (.i (cmpP s a o s' a' o')) := by
  by_cases h : valid s a o
  · have e : chk s a o = 0 := if_pos h
    have h1 : 0 ≤ s ∧ s ≤ 6 := ⟨h.1.1, h.1.2.1⟩
    by_cases h' : valid s' a' o'
    · have e' : chk s' a' o' = 0 := if_pos h'
      have h1' : 0 ≤ s' ∧ s' ≤ 6 := ⟨h'.1.1, h'.1.2.1⟩
      unfold Tryd.f32
      simp [T32, onQ, onP, F45, F46, e, e', h1, h1', cmpP, h, h', diaW]
    · have e' : chk s' a' o' = 18 := if_neg h'
      unfold Tryd.f32
      simp [T32, onQ, onP, F45, F46, e, e', h1, cmpP, h, h']
  · have e : chk s a o = 18 := if_neg h
    by_cases h' : valid s' a' o'
    · have e' : chk s' a' o' = 0 := if_pos h'
      unfold Tryd.f32
      simp [T32, onQ, onP, F45, F46, e, e', cmpP, h, h']
    · have e' : chk s' a' o' = 18 := if_neg h'
      unfold Tryd.f32
      simp [T32, onQ, onP, F45, F46, e, e', cmpP, h, h']

noncomputable def T47 : FuncId → Option Pm.Spec := Tree.get (.node 25 (.pure false F25) (.node 16 (.pure false F16) .nil .nil) (.node 28 (.pure false F28) .nil .nil))
theorem tok47 (W0 : World) : TOk Tryd.prog W0 T47 := tok_tree ⟨meets25 W0, ⟨meets16 W0, trivial, trivial⟩, meets28 W0, trivial, trivial⟩
def key1 (s a o : Int) : Int := if valid s a o then numW s a o else -1
def key2 (s a o : Int) : Int := if valid s a o then diaW s o else 0
theorem run47 (s a o : Int) : prun Y T47 Tryd.f47 100 [P3 s a o] = some (.agg [.i (key1 s a o), .i (key2 s a o)]) := by
  by_cases h : valid s a o
  · have e : ex s a o = true := if_pos h
    have h1 : 0 ≤ s ∧ s ≤ 6 := ⟨h.1.1, h.1.2.1⟩
    unfold Tryd.f47
    simp [T47, onQ, onP, e, h1, key1, key2, h]
  · have e : ex s a o = false := if_neg h
    unfold Tryd.f47
    simp [T47, onQ, onP, e, key1, key2, h]
abbrev F47 := onQ fun s a o => .agg [.i (key1 s a o), .i (key2 s a o)]
theorem meets47 (W0 : World) : OkAt W0 47 F47 := ⟨enterable_of Tryd.func47 (by kernel_rfl), meets_prun env (tok47 W0) mixed Tryd.func47 rfl (by kernel_rfl) fun args r h => ⟨100, onQ_ok run47 args r h⟩⟩
noncomputable def T33 : FuncId → Option Pm.Spec := Tree.get (.node 47 (.pure false F47) .nil .nil)
theorem tok33 (W0 : World) : TOk Tryd.prog W0 T33 := tok_tree ⟨meets47 W0, trivial, trivial⟩
theorem cmp_keys (s a o s' a' o' : Int) : cmpP s a o s' a' o' = if key1 s a o < key1 s' a' o' then -1 else if key1 s' a' o' < key1 s a o then 1 else if key2 s a o < key2 s' a' o' then -1 else if key2 s' a' o' < key2 s a o then 1 else 0 := by
  unfold cmpP key1 key2
  by_cases h : valid s a o
  · have n1 : 0 ≤ numW s a o := h.2.1
    by_cases h' : valid s' a' o'
    · simp only [h, h', if_true, sgn, gt_iff_lt]
      generalize numW s a o = A
      generalize numW s' a' o' = B
      rcases Int.lt_trichotomy A B with x | x | x
      · simp [x]
      · subst x; simp
      · simp [x, show ¬ A < B by omega]
    · simp only [h, h', if_true, if_false]
      rw [if_neg (by omega), if_pos (by omega)]
  · by_cases h' : valid s' a' o'
    · have n1 : 0 ≤ numW s' a' o' := h'.2.1
      simp only [h, h', if_true, if_false]
      rw [if_pos (by omega)]
    · simp [h, h']
section
variable (Y : TypeId → Option Ty) (T : FuncId → Option Pm.Spec) (pl : Option Tmp → Option Nat) (d : Option Tmp) (H : List Blk) (ρ : Operand → Option SV)
theorem aopP_load (t : TypeId) (a : Operand) : aopP Y T pl d H ρ (.load t a) = aop Y T H ρ (.load t a) := rfl
theorem aopP_store (t : TypeId) (a x : Operand) : aopP Y T pl d H ρ (.store t a x) = aop Y T H ρ (.store t a x) := rfl
theorem aopP_call (c : Call) : aopP Y T pl d H ρ (.call c) = aop Y T H ρ (.call c) := rfl
theorem aopP_alloc {d : Tmp} {k : Nat} {t : TypeId} {y : Ty} (h : pl (some d) = some k) (hy : Y t = some y) (hk : H[k]? = some .hole) : aopP Y T pl (some d) H ρ (.alloc t) = some (.ptr k 0, H.set k (.box (y.zero.map .pv))) := by
  simp [aopP, newCells, fill, h, hy, hk]
end
theorem T33_eq (g : Nat) : T33 g = Tree.get (.node 47 (.pure false F47) .nil .nil) g := rfl
theorem x33 (s a o s' a' o' : Int) : XFn Y T33 Tryd.f33 [P3 s a o, P3 s' a' o'] [] (Is (.i (cmpP s a o s' a' o'))) := by
  rw [cmp_keys]
  generalize hA : key1 s a o = A
  generalize hB : key1 s' a' o' = B
  generalize hC : key2 s a o = Cc
  generalize hD : key2 s' a' o' = Dd
  unfold XFn Tryd.f33
  rw [enter_2 _ (by decide)]
  simp [T33_eq, Tree.get, onQ, hA, hB, hC, hD, w64_id, aopP_load, aopP_store, aopP_call, aopP_alloc, -aopP_old, -aopP_new, X_loop, -Int.not_lt]
  by_cases c1 : A < B <;> by_cases c2 : B < A <;> by_cases c3 : Cc < Dd <;> by_cases c4 : Dd < Cc <;> simp [c1, c2, c3, c4]
def onPP (f : Int → Int → Int → Int → Int → Int → SV) : List SV → Option SV
  | [.agg [.pv (.int .i64 s), .pv (.int .i64 a), .pv (.int .i64 o)], .agg [.pv (.int .i64 s'), .pv (.int .i64 a'), .pv (.int .i64 o')]] => some (f s a o s' a' o')
  | _ => none
theorem onPP_ok {f : Int → Int → Int → Int → Int → Int → SV} {G : List SV → Option SV} (h : ∀ s a o s' a' o', G [P3 s a o, P3 s' a' o'] = some (f s a o s' a' o')) (args : List SV) (r : SV) (hr : onPP f args = some r) : G args = some r := by
  unfold onPP at hr
  split at hr
  · cases hr; exact h _ _ _ _ _ _
  · cases hr
abbrev F32 := onPP fun s a o s' a' o' => .i (cmpP s a o s' a' o')
theorem meets32 (W0 : World) : OkAt W0 32 F32 := ⟨enterable_of Tryd.func32 (by kernel_rfl), meets_prun env (tok32 W0) mixed Tryd.func32 rfl (by kernel_rfl) fun args r h => ⟨200, onPP_ok run32 args r h⟩⟩
theorem meets33 (W0 : World) : OkAt W0 33 F32 := meets_fn env (tok33 W0) mixed Tryd.func33 (by kernel_rfl) (by kernel_rfl) fun args r h => by
  unfold F32 onPP at h
  split at h
  · cases h; exact x33 _ _ _ _ _ _
  · cases h
end Go.Proofs.YthoampbpeiehhaaDoor
