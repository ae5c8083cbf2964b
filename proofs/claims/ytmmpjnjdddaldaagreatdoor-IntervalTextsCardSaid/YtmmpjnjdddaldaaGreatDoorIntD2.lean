/- interval.Parse, by the machine. -/
import Derived.Test.YtmmpjnjdddaldaaGreatDoorIntC2
set_option linter.unusedSimpArgs false
set_option linter.unusedVariables false
set_option maxRecDepth 1000000
set_option maxHeartbeats 1000000
namespace Go.Proofs.YtmmpjnjdddaldaaGreatDoor
open Go Go.Pm Go.RowKit
noncomputable def zT5 : FuncId → Option Pm.Spec := tab [(13, .pure false zF31), (14, .pure false zF14), (15, .pure false zF15), (16, .pure false F63), (17, .pure false F62), (18, .pure false F47), (19, .pure false F22), (20, .pure false zF20)]
theorem zT5_eq (g : Nat) : zT5 g = tab [(13, .pure false zF31), (14, .pure false zF14), (15, .pure false zF15), (16, .pure false F63), (17, .pure false F62), (18, .pure false F47), (19, .pure false F22), (20, .pure false zF20)] g := rfl
theorem ztok5 {W0 : World} (L : Laid W0) : TOk Tryz.prog W0 zT5 := tok_cons (zmeets13 W0) (tok_cons (zmeets14 W0) (tok_cons (zmeets15 L) (tok_cons (meets63 W0) (tok_cons (meets62 W0) (tok_cons (meets47 W0) (tok_cons (meets22 W0) (tok_cons (zF20_meet L) tok_nil)))))))
/-- The last look at what has been read. -/
def finZ (s : Bs) (a b : Int) : (Int × Int) × Int := if isI a b ∧ textZ a b = s then ((a, b), 0) else bad13
noncomputable abbrev c5 : Code := restN 9 (Tryz.f5.body.getD .skip)
abbrev piV (x : (Int × Int) × Int) : SV := .tuple [I2 x.1.1 x.1.2, .i x.2]
theorem st5 (s : Bs) (down : Bool) (u v : Int) (hu : -1000 ≤ u ∧ u ≤ 1000) (hv : -1000 ≤ v ∧ v ≤ 1000) :
    X Y zT5 [.cell 2 23, .tmp 3] [] (Hold c5) ⟨mk 106 .J [(0, .str s), (2, .ptr 0 0), (5, .bool down), (10, .ptr 1 0)], [.box [.i 0, .i 0], .box [.i u, .i v]]⟩ (Is (piV (finZ s (if down = true then -u else u) (if down = true then -v else v)))) := by
  unfold Hold c5 Tryz.f5
  simp only [restN, Option.getD_some]
  have w1 : IntKind.i64.wrap (-u) = -u := wrap64 (by omega) (by omega)
  have w2 : IntKind.i64.wrap (-v) = -v := wrap64 (by omega) (by omega)
  unfold finZ
  cases down
  · by_cases h : isI u v
    · by_cases ht : textZ u v = s
      · simp [-Int.not_lt, -Int.not_le, zT5_eq, F22, zF20, h, ht]
      · simp [-Int.not_lt, -Int.not_le, zT5_eq, F22, zF20, h, ht]
    · simp [-Int.not_lt, -Int.not_le, zT5_eq, F22, zF20, h]
  · by_cases h : isI (-u) (-v)
    · by_cases ht : textZ (-u) (-v) = s
      · simp [-Int.not_lt, -Int.not_le, zT5_eq, F22, F47, zF20, w1, w2, h, ht]
      · simp [-Int.not_lt, -Int.not_le, zT5_eq, F22, F47, zF20, w1, w2, h, ht]
    · simp [-Int.not_lt, -Int.not_le, zT5_eq, F22, F47, zF20, w1, w2, h]
theorem pzI_fin {s : Bs} {down : Bool} {lets : Bs} {n : Int} (h : ¬ (lets = [] ∨ n < 1 ∨ 78 < n)) :
    pzI s down lets n = finZ s (if down = true then -(n - 1) else n - 1) (if down = true then -(semB (lets.getD 0 0) lets.length (n - 1)) else semB (lets.getD 0 0) lets.length (n - 1)) := by
  unfold pzI finZ
  rw [if_neg h]
  cases down <;> simp
theorem dgs_le (t : Bs) : (dgsM t).length ≤ t.length := by
  unfold dgsM
  induction t with
  | nil => simp
  | cons c r ih =>
    rw [List.dropWhile_cons]
    split
    · simp; omega
    · simp
theorem cut_le (s : Bs) : (cutM s).1.length ≤ s.length := by
  unfold cutM
  split
  · simp
  · split <;> simp
theorem zx5 (s : Bs) (hs : s.length ≤ 400) : XFn Y zT5 Tryz.f5 [.str s] [] (Is (piV (pz s))) := by
  unfold XFn
  rw [enter_1 _ (by decide)]
  unfold pz
  by_cases h0 : s = []
  · unfold Tryz.f5
    simp [h0]
  by_cases h1 : 300 < s.length
  · unfold Tryz.f5
    have h1' : (300 : Int) < (s.length : Int) := by omega
    simp [-Int.not_lt, -Int.not_le, h0, h1, h1']
  rw [if_neg h0, if_neg h1]
  have h1' : ¬ (300 : Int) < (s.length : Int) := by omega
  have hC : zF31 [.str s, .str [45]] = some (.tuple [.str (cutM s).1, .bool (cutM s).2]) := by
    have : s.length ≤ 1000 := by omega
    simp [zF31, this]
  have hcl := cut_le s
  generalize (cutM s).1 = t at *
  generalize (cutM s).2 = down at *
  have hD : zF14 [.str t, .str letS] = some (.str (dgsM t)) := by
    have : t.length ≤ 1000 := by omega
    simp [zF14, this]
  have hdl := dgs_le t
  have w1 : IntKind.i64.wrap ((t.length : Int) - ((dgsM t).length : Int)) = ((t.length - (dgsM t).length : Nat) : Int) := by
    rw [wrap64 (by omega) (by omega)]; omega
  have hL : t.take (t.length - (dgsM t).length) = ltsM t := rfl
  have hll : (ltsM t).length ≤ 300 := by rw [← hL, List.length_take]; omega
  have hA : zF15 [.str (dgsM t)] = some (atoiR (dgsM t)) := by
    have : (dgsM t).length ≤ 281474976710656 := by omega
    simp [zF15, this]
  generalize dgsM t = D at *
  generalize ltsM t = L at *
  have hb : t.length - D.length ≤ t.length := Nat.sub_le _ _
  unfold atoiR at hA
  cases h : Lib.atoiAll D
  · rename_i n
    rw [h] at hA
    simp only [] at hA ⊢
    by_cases hL0 : L = []
    · have hp : pzI s down L n = bad13 := by unfold pzI; rw [if_pos (.inl hL0)]
      rw [hp]
      unfold Tryz.f5
      simp [-Int.not_lt, -Int.not_le, zT5_eq, h0, h1', hC, hD, w1, hL, hA, hL0]
    by_cases hn1 : n < 1
    · have hp : pzI s down L n = bad13 := by unfold pzI; rw [if_pos (.inr (.inl hn1))]
      rw [hp]
      unfold Tryz.f5
      simp [-Int.not_lt, -Int.not_le, zT5_eq, h0, h1', hC, hD, w1, hL, hA, hL0, hn1]
    by_cases hn2 : 78 < n
    · have hp : pzI s down L n = bad13 := by unfold pzI; rw [if_pos (.inr (.inr hn2))]
      rw [hp]
      unfold Tryz.f5
      simp [-Int.not_lt, -Int.not_le, zT5_eq, h0, h1', hC, hD, w1, hL, hA, hL0, hn1, hn2]
    rw [pzI_fin (by rintro (a | a | a) <;> contradiction)]
    have w2 : IntKind.i64.wrap (n - 1) = n - 1 := wrap64 (by omega) (by omega)
    have hu : 0 ≤ n - 1 ∧ n - 1 ≤ 77 := by omega
    have hN : F63 [.i (n - 1)] = some (.i (natZ (n - 1))) := by simp only [F63]; rw [if_pos hu]
    have hP : F62 [.i (n - 1)] = some (.bool (decide (0 ≤ pureIx ((n - 1) % 7)))) := by simp only [F62]; rw [if_pos hu]
    have nr := nat_range hu
    obtain ⟨c, r, rfl⟩ : ∃ c r, L = c :: r := by
      cases L with
      | nil => exact absurd rfl hL0
      | cons c r => exact ⟨c, r, rfl⟩
    simp only [List.getD_cons_zero]
    have hst := fun v (hv : -1000 ≤ v ∧ v ≤ 1000) => st5 s down (n - 1) v (by omega) hv
    have hrl : (r.length : Int) + 1 ≤ 300 := by simp at hll; omega
    unfold semB
    generalize hun : n - 1 = u at *
    have w2 : IntKind.i64.wrap (n - 1) = u := by rw [hun]; exact w2
    generalize hz : natZ u = z at *
    generalize pureIx (u % 7) = pp at *
    generalize hk : (r.length : Int) + 1 = k at *
    have hk0 : 1 ≤ k := by omega
    have hk' : ((c :: r).length : Int) = k := by rw [← hk]; simp
    rw [hk']
    have x1 : IntKind.i64.wrap (z + k) = z + k := wrap64 (by omega) (by omega)
    have x2 : IntKind.i64.wrap (z - k) = z - k := wrap64 (by omega) (by omega)
    have x3 : IntKind.i64.wrap (z - k - 1) = z - k - 1 := wrap64 (by omega) (by omega)
    have x4 : IntKind.i64.wrap (z - 1) = z - 1 := wrap64 (by omega) (by omega)
    refine X_cut 9 ?_
    generalize htl : Hold (restN 9 (Tryz.f5.body.getD .skip)) = tl
    have hst : ∀ v, -1000 ≤ v ∧ v ≤ 1000 → X Y zT5 [.cell 2 23, .tmp 3] [] tl ⟨mk 106 .J [(0, .str s), (2, .ptr 0 0), (5, .bool down), (10, .ptr 1 0)], [.box [.i 0, .i 0], .box [.i u, .i v]]⟩ (Is (piV (finZ s (if down = true then -u else u) (if down = true then -v else v)))) := fun v hv => by
      rw [← htl]; exact hst v hv
    clear htl
    unfold Tryz.f5
    simp only [glue, Option.getD_some]
    by_cases e1 : c = 65
    · subst e1
      simp [-Int.not_lt, -Int.not_le, zT5_eq, h0, h1', hC, hD, w1, w2, hL, hA, hn1, hn2, hN, hk, x1]
      refine X_keep (hst (z + k) (by omega)) ?_
      simp
    by_cases e2 : c = 100
    · subst e2
      by_cases hp : 0 ≤ pp
      · simp [-Int.not_lt, -Int.not_le, zT5_eq, h0, h1', hC, hD, w1, w2, hL, hA, hn1, hn2, hN, hP, hp, hk, x2]
        rw [show z + -k = z - k by omega]
        refine X_keep (hst (z - k) (by omega)) ?_
        simp
      · simp [-Int.not_lt, -Int.not_le, zT5_eq, h0, h1', hC, hD, w1, w2, hL, hA, hn1, hn2, hN, hP, hp, hk, x2, x3]
        rw [show z + (-k - 1) = z - k - 1 by omega]
        refine X_keep (hst (z - k - 1) (by omega)) ?_
        simp
    by_cases e3 : c = 109
    · subst e3
      simp [-Int.not_lt, -Int.not_le, zT5_eq, h0, h1', hC, hD, w1, w2, hL, hA, hn1, hn2, hN, hk, x4]
      rw [show z + -1 = z - 1 by omega]
      refine X_keep (hst (z - 1) (by omega)) ?_
      simp
    have f1 : ¬ c.toNat = 65 := fun e => e1 (UInt8.toNat_inj.1 (by simpa using e))
    have f2 : ¬ c.toNat = 100 := fun e => e2 (UInt8.toNat_inj.1 (by simpa using e))
    have f3 : ¬ c.toNat = 109 := fun e => e3 (UInt8.toNat_inj.1 (by simpa using e))
    have g1 : ¬ (c.toNat : Int) = 65 := by omega
    have g2 : ¬ (c.toNat : Int) = 100 := by omega
    have g3 : ¬ (c.toNat : Int) = 109 := by omega
    simp [-Int.not_lt, -Int.not_le, zT5_eq, h0, h1', hC, hD, w1, w2, hL, hA, hn1, hn2, hN, hk, e1, e2, e3, f1, f2, f3, g1, g2, g3]
    refine X_keep (hst z (by omega)) ?_
    simp
  · rw [h] at hA
    simp only [] at hA ⊢
    unfold Tryz.f5
    simp [-Int.not_lt, -Int.not_le, zT5_eq, h0, h1', hC, hD, w1, hL, hA]
  · rw [h] at hA
    simp only [] at hA ⊢
    unfold Tryz.f5
    simp [-Int.not_lt, -Int.not_le, zT5_eq, h0, h1', hC, hD, w1, hL, hA]
def zF5 : List SV → Option SV
  | [.pv (.str s)] => if s.length ≤ 400 then some (piV (pz s)) else none
  | _ => none
theorem zmeets5 {W0 : World} (L : Laid W0) : OkAt W0 5 zF5 := meets_fn env (ztok5 L) mixed Tryz.func5 (by kernel_rfl) (by kernel_rfl) fun args r h => by
  unfold zF5 at h
  split at h
  · split at h
    · rename_i hc; cases h; exact zx5 _ hc
    · cases h
  · cases h
end Go.Proofs.YtmmpjnjdddaldaaGreatDoor
