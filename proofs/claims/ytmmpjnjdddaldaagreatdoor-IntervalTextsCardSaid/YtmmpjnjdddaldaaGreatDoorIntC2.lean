/- strings.CutPrefix at "-" and strings.TrimLeft at the letters of qualities, by the machine. -/
import Derived.Test.YtmmpjnjdddaldaaGreatDoorIntN2
set_option linter.unusedSimpArgs false
set_option linter.unusedVariables false
set_option maxRecDepth 1000000
set_option maxHeartbeats 400000
namespace Go.Proofs.YtmmpjnjdddaldaaGreatDoor
open Go Go.Pm Go.RowKit
def hasM : Bs → Bool
  | [] => false
  | c :: _ => decide (c = 45)
theorem zx51 (s : Bs) (hs : s.length ≤ 1000) : XFn Y T0 Tryz.f51 [.str s, .str [45]] [] (Is (.bool (hasM s))) := by
  unfold XFn Tryz.f51
  rw [enter_2 _ (by decide)]
  cases s with
  | nil => simp [hasM]
  | cons c r =>
    have h1 : (1 : Int) ≤ (r.length : Int) + 1 := by omega
    by_cases h : c = 45
    · simp [hasM, h, h1]
    · simp [hasM, h, h1]
def zF51 : List SV → Option SV
  | [.pv (.str s), .pv (.str p)] => if s.length ≤ 1000 ∧ p = [45] then some (.bool (hasM s)) else none
  | _ => none
theorem zmeets51 (W0 : World) : OkAt W0 51 zF51 := meets_fn env tok_nil mixed Tryz.func51 (by kernel_rfl) (by kernel_rfl) fun args r h => by
  unfold zF51 at h
  split at h
  · split at h
    · rename_i hc; cases h; obtain ⟨hc, rfl⟩ := hc; exact zx51 _ hc
    · cases h
  · cases h
noncomputable def zT31 : FuncId → Option Pm.Spec := tab [(51, .pure false zF51)]
theorem zT31_eq (g : Nat) : zT31 g = tab [(51, .pure false zF51)] g := rfl
theorem zx31 (s : Bs) (hs : s.length ≤ 1000) : XFn Y zT31 Tryz.f31 [.str s, .str [45]] [] (Is (.tuple [.str (cutM s).1, .bool (cutM s).2])) := by
  unfold XFn Tryz.f31
  rw [enter_2 _ (by decide)]
  have hF : zF51 [.str s, .str [45]] = some (.bool (hasM s)) := by simp [zF51, hs]
  cases s with
  | nil => simp [zT31_eq, hF, hasM, cutM]
  | cons c r =>
    by_cases h : c = 45
    · subst h
      simp [zT31_eq, hF, hasM, cutM]
    · simp [zT31_eq, hF, hasM, cutM, h]
def zF31 : List SV → Option SV
  | [.pv (.str s), .pv (.str p)] => if s.length ≤ 1000 ∧ p = [45] then some (.tuple [.str (cutM s).1, .bool (cutM s).2]) else none
  | _ => none
theorem zmeets31 (W0 : World) : OkAt W0 31 zF31 := meets_fn env (tok_cons (zmeets51 W0) tok_nil) mixed Tryz.func31 (by kernel_rfl) (by kernel_rfl) fun args r h => by
  unfold zF31 at h
  split at h
  · split at h
    · rename_i hc; cases h; obtain ⟨hc, rfl⟩ := hc; exact zx31 _ hc
    · cases h
  · cases h
noncomputable def zT13 : FuncId → Option Pm.Spec := tab [(31, .pure false zF31)]
theorem zT13_eq (g : Nat) : zT13 g = tab [(31, .pure false zF31)] g := rfl
theorem zx13 (s : Bs) (hs : s.length ≤ 1000) : XFn Y zT13 Tryz.f13 [.str s, .str [45]] [] (Is (.tuple [.str (cutM s).1, .bool (cutM s).2])) := by
  unfold XFn Tryz.f13
  rw [enter_2 _ (by decide)]
  have hF : zF31 [.str s, .str [45]] = some (.tuple [.str (cutM s).1, .bool (cutM s).2]) := by simp [zF31, hs]
  simp [zT13_eq, hF]
theorem zmeets13 (W0 : World) : OkAt W0 13 zF31 := meets_fn env (tok_cons (zmeets31 W0) tok_nil) mixed Tryz.func13 (by kernel_rfl) (by kernel_rfl) fun args r h => by
  unfold zF31 at h
  split at h
  · split at h
    · rename_i hc; cases h; obtain ⟨hc, rfl⟩ := hc; exact zx13 _ hc
    · cases h
  · cases h
/-- The set of the letters. -/
abbrev letS : Bs := [80, 77, 109, 65, 100]
def asciiC : List SV := (List.range 256).map fun i => .bool (setQ (UInt8.ofNat i))
theorem asc_len : asciiC.length = 256 := by unfold asciiC; rw [List.length_map, List.length_range]
theorem asc_at (c : UInt8) : asciiC[c.toNat]? = some (.bool (setQ c)) := by
  have h : c.toNat < 256 := c.toNat_lt
  unfold asciiC
  rw [List.getElem?_map, List.getElem?_range h]
  simp
theorem place_asc (fr : Bool) (H : List Blk) : place fr H (.agg asciiC) = some (.agg asciiC, H) := by
  have h1 : pcells asciiC = some (asciiC.map fun | .pv p => p | _ => .opq) := by kernel_rfl
  have h2 : (asciiC.map fun | SV.pv p => p | _ => PV.opq).map SV.pv = asciiC := by kernel_rfl
  simp only [place, h1, h2]
theorem run33 : prun Y T0 Tryz.f33 400 [.str letS] = some (.tuple [.agg asciiC, .bool true]) := by kernel_rfl
def zF33 : List SV → Option SV
  | [.pv (.str s)] => if s = letS then some (.tuple [.agg asciiC, .bool true]) else none
  | _ => none
theorem zmeets33 (W0 : World) : OkAt W0 33 zF33 := ⟨enterable_of Tryz.func33 (by kernel_rfl), meets_prun env tok_nil mixed Tryz.func33 rfl (by kernel_rfl) fun args r h => by
  unfold zF33 at h
  split at h
  · split at h
    · rename_i hc; cases h; subst hc; exact ⟨400, run33⟩
    · cases h
  · cases h⟩
/-- What is in the set. -/
theorem zmeets52 (W0 : World) : Enterable Tryz.prog 52 ∧ Meets Tryz.prog W0 52 (specFn (.heap (arunAll Y T0 Tryz.f52))) := meets_heap env tok_nil mixed Tryz.func52 (by kernel_rfl) (by kernel_rfl)
theorem zx52 (H : List Blk) (k : Nat) (hk : H[k]? = some (.box asciiC)) (c : UInt8) : XFn Y T0 Tryz.f52 [.ptr k 0, .int .u8 c.toNat] H (fun x => x = (.bool (setQ c), H)) := by
  unfold XFn Tryz.f52
  rw [enter_2 _ (by decide)]
  have h : (c.toNat : Int) < 256 := by have := c.toNat_lt; omega
  have h' : c.toNat < 256 := c.toNat_lt
  have ha := asc_at c
  simp [-getElem?_pos, hk, h, h', ha]
theorem all52 (H : List Blk) (k : Nat) (hk : H[k]? = some (.box asciiC)) (c : UInt8) : arunAll Y T0 Tryz.f52 [.ptr k 0, .int .u8 c.toNat] H = some (.bool (setQ c), H) := by
  obtain ⟨r, H', h1, h2⟩ := all_of_XFn (by rfl) (zx52 H k hk c)
  rw [h1, h2]
noncomputable def zT34 : FuncId → Option Pm.Spec := tab [(52, .heap (arunAll Y T0 Tryz.f52))]
theorem zT34_eq (g : Nat) : zT34 g = tab [(52, .heap (arunAll Y T0 Tryz.f52))] g := rfl
theorem loop34 {F : List Fr} {P : SV × List Blk → Prop} {rs : List ResultVar} {H : List Blk} (k : Nat) (hk : H[k]? = some (.box asciiC)) : ∀ (s : Bs), s.length ≤ 1000 →
    X Y zT34 rs F (.exit 0) ⟨mk 16 .J [(0, .str (s.dropWhile setQ))], H⟩ P →
    X Y zT34 rs F (.loop (loopN Tryz.f34 0)) ⟨mk 16 .J [(0, .str s), (1, .ptr k 0)], H⟩ P
  | [], hl, hx => by
    apply X_loop_of
    · simp only [loopN, Tryz.f34, loopsOf, List.nil_append, List.append_nil, List.cons_append, List.getD_cons_succ, List.getD_cons_zero]; rfl
    simp
    refine X_keep hx ?_
    simp
  | c :: r, hl, hx => by
    have hA := all52 H k hk c
    have h1 : (0 : Int) < (r.length : Int) + 1 := by omega
    apply X_loop_of
    · simp only [loopN, Tryz.f34, loopsOf, List.nil_append, List.append_nil, List.cons_append, List.getD_cons_succ, List.getD_cons_zero]; rfl
    by_cases hc : setQ c = true
    · rw [List.dropWhile_cons, if_pos hc] at hx
      simp [h1, zT34_eq, hA, hc]
      refine X_keep (loop34 k hk r (by simp at hl; omega) hx) ?_
      simp
    · rw [List.dropWhile_cons, if_neg hc] at hx
      simp [h1, zT34_eq, hA, hc]
      refine X_keep hx ?_
      simp
theorem zmeets34 (W0 : World) : Enterable Tryz.prog 34 ∧ Meets Tryz.prog W0 34 (specFn (.heap (arunAll Y zT34 Tryz.f34))) := meets_heap env (tok_cons (zmeets52 W0) tok_nil) mixed Tryz.func34 (by kernel_rfl) (by kernel_rfl)
theorem all34 (H : List Blk) (k : Nat) (hk : H[k]? = some (.box asciiC)) (s : Bs) (hs : s.length ≤ 1000) : arunAll Y zT34 Tryz.f34 [.str s, .ptr k 0] H = some (.str (s.dropWhile setQ), H) := by
  have hx : XFn Y zT34 Tryz.f34 [.str s, .ptr k 0] H (fun x => x = (.str (s.dropWhile setQ), H)) := by
    unfold XFn Tryz.f34
    rw [enter_2 _ (by decide)]
    simp
    refine X_keep (loop34 k hk s hs ?_) ?_
    · simp
    · simp
  obtain ⟨r, H', h1, h2⟩ := all_of_XFn (by rfl) hx
  rw [h1, h2]
theorem set_full : ∀ (vs cs : List SV) (pre : List SV), cs.length = vs.length → setCells (pre ++ cs) pre.length vs = pre ++ vs
  | [], cs, pre, h => by
    have : cs = [] := List.length_eq_zero_iff.1 h
    subst this; rfl
  | v :: vs, [], pre, h => by simp at h
  | v :: vs, c :: cs, pre, h => by
    simp at h
    rw [setCells]
    have e : (pre ++ c :: cs).set pre.length v = (pre ++ [v]) ++ cs := by simp
    rw [e]
    have := set_full vs cs (pre ++ [v]) h
    rw [List.length_append, List.length_singleton] at this
    rw [this, List.append_assoc]; rfl
theorem set_asc (cs : List SV) (h : cs.length = 256) : setCells cs 0 asciiC = asciiC := by
  have := set_full asciiC cs [] (by rw [asc_len]; exact h)
  simpa using this
noncomputable def zT14 : FuncId → Option Pm.Spec := tab [(33, .pure false zF33), (34, .heap (arunAll Y zT34 Tryz.f34))]
theorem zT14_eq (g : Nat) : zT14 g = tab [(33, .pure false zF33), (34, .heap (arunAll Y zT34 Tryz.f34))] g := rfl
theorem zx14 (s : Bs) (hs : s.length ≤ 1000) : XFn Y zT14 Tryz.f14 [.str s, .str letS] [] (Is (.str (dgsM s))) := by
  unfold XFn Tryz.f14
  rw [enter_2 _ (by decide)]
  have hF : zF33 [.str letS] = some (.tuple [.agg asciiC, .bool true]) := by simp [zF33]
  have hA := all34 [.box asciiC] 0 rfl s hs
  have k1 : ∀ fr H p, place fr H (.pv p) = some (.pv p, H) := fun _ _ _ => rfl
  unfold dgsM
  by_cases h0 : s = []
  · simp [h0]
  · simp [-place, h0, zT14_eq, hF, hA, place_asc, k1, asc_len, set_asc]
def zF14 : List SV → Option SV
  | [.pv (.str s), .pv (.str p)] => if s.length ≤ 1000 ∧ p = letS then some (.str (dgsM s)) else none
  | _ => none
theorem zmeets14 (W0 : World) : OkAt W0 14 zF14 := meets_fn env (tok_cons (zmeets33 W0) (tok_cons (zmeets34 W0) tok_nil)) mixed Tryz.func14 (by kernel_rfl) (by kernel_rfl) fun args r h => by
  unfold zF14 at h
  split at h
  · split at h
    · rename_i hc; cases h; obtain ⟨hc, rfl⟩ := hc; exact zx14 _ hc
    · cases h
  · cases h
end Go.Proofs.YtmmpjnjdddaldaaGreatDoor
