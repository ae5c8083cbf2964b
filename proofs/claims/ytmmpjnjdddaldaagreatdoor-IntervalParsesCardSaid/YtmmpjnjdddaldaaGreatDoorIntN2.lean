/- Long names, with the reference's, by the machine. -/
import Derived.Test.YtmmpjnjdddaldaaGreatDoorIntY
import Derived.Test.YtmmpjnjdddaldaaGreatDoorPmCut
set_option linter.unusedSimpArgs false
set_option linter.unusedVariables false
set_option maxRecDepth 1000000
set_option maxHeartbeats 1000000
namespace Go.Proofs.YtmmpjnjdddaldaaGreatDoor
open Go Go.Pm Go.RowKit
abbrev descB : Bs := [100, 101, 115, 99, 101, 110, 100, 105, 110, 103, 32]
def wordQ (q : Int) : Bs := if q = -2 then [100, 105, 109, 105, 110, 105, 115, 104, 101, 100] else if q = -1 then [109, 105, 110, 111, 114] else if q = 0 then [112, 101, 114, 102, 101, 99, 116] else if q = 1 then [109, 97, 106, 111, 114] else [97, 117, 103, 109, 101, 110, 116, 101, 100]
def nameU (q t u : Int) : Bs := oftZ t ++ (wordQ q ++ (32 :: ordO u))
/-- The long name of an interval. -/
def nameZ (s m : Int) : Bs := (if downZ s m = true then descB else []) ++ nameU (quaZ s m).1 (quaZ s m).2 (upZ s m).1
theorem oft_len {t : Int} (h : 0 ≤ t ∧ t ≤ 300) : (oftZ t).length ≤ 10 := by
  have := itoa_short (n := t) (by omega)
  unfold oftZ
  split
  · simp
  · split
    · simp
    · split
      · simp
      · simp; omega
theorem ord_len {n : Int} (h : 0 ≤ n ∧ n ≤ 77) : (ordO n).length ≤ 10 := by
  have := itoa_short (n := n + 1) (by omega)
  unfold ordO
  split
  · rcases (by omega : n = 0 ∨ n = 1 ∨ n = 2 ∨ n = 3 ∨ n = 4 ∨ n = 5 ∨ n = 6 ∨ n = 7) with rfl | rfl | rfl | rfl | rfl | rfl | rfl | rfl <;> simp [wordsO]
  · have : (endO (n + 1)).length ≤ 2 := by unfold endO; split <;> (try split) <;> (try split) <;> (try split) <;> simp
    simp; omega
noncomputable def zT9 : FuncId → Option Pm.Spec := tab [(19, .pure false F22), (23, .pure false F51), (18, .pure false F47), (24, .pure false F50), (25, .pure false zF25), (26, .pure false zF26)]
theorem zT9_eq (g : Nat) : zT9 g = tab [(19, .pure false F22), (23, .pure false F51), (18, .pure false F47), (24, .pure false F50), (25, .pure false zF25), (26, .pure false zF26)] g := rfl
theorem big {n : Nat} (h : n ≤ 1000) : n ≤ 4611686018427387904 := by omega
theorem zx9 (s m : Int) : XFn Y zT9 Tryz.f9 [I2 s m] [] (Is (if isI s m then .tuple [.str (nameZ s m), .i 0] else .tuple [.str [], .i 2])) := by
  unfold XFn Tryz.f9
  rw [enter_1 _ (by decide)]
  by_cases h : isI s m
  · obtain ⟨⟨u1, u2⟩, u3, u4⟩ := up_z h
    obtain ⟨q, t, e, ht, hq⟩ := qua_cases ⟨u1, u2⟩ ⟨u3, u4⟩
    have hz : quaZ s m = (q, t) := by rw [qua_up, e]
    rw [if_pos h]
    unfold nameZ
    rw [hz]
    have ht0 : 0 ≤ t := by omega
    have hO : zF25 [.i t] = some (.str (oftZ t)) := by simp only [zF25]; rw [if_pos (by omega)]
    have hR : zF26 [.i (upZ s m).1] = some (.str (ordO (upZ s m).1)) := by simp only [zF26]; rw [if_pos ⟨u1, u2⟩]
    have lO := oft_len (t := t) (by omega)
    have lR := ord_len (n := (upZ s m).1) ⟨u1, u2⟩
    have h22 : F22 [I2 s m] = some (.i 0) := by simp only [F22]; rw [if_pos h]
    have h51 : F51 [I2 s m] = some (.bool (downZ s m)) := rfl
    obtain ⟨⟨k1, k2⟩, k3, k4⟩ := id h
    have x1 : IntKind.i64.wrap (-s) = -s := wrap64 (by omega) (by omega)
    have x2 : IntKind.i64.wrap (-m) = -m := wrap64 (by omega) (by omega)
    have w : ∀ k : Int, 0 ≤ k ∧ k ≤ 4 → IntKind.i64.wrap k = k := fun k hk => wrap64 (by omega) (by omega)
    have w0 := w 0 (by omega)
    have w2 := w 2 (by omega)
    have w3 := w 3 (by omega)
    have w4 := w 4 (by omega)
    have w5 := w 1 (by omega)
    unfold nameU
    generalize oftZ t = O at *
    by_cases hd : downZ s m = true
    · have hu : upZ s m = (-s, -m) := by unfold upZ; rw [if_pos hd]
      have h50 : F50 [I2 (-s) (-m)] = some (.tuple [.i q, .i t]) := by
        simp only [F50]
        rw [if_pos ⟨⟨by omega, by omega⟩, by omega, by omega⟩]
        unfold quaZ
        rw [if_neg (by rw [down_opp hd]; simp)]
        rw [hu] at e
        rw [e]
      rw [hu] at hR lR ⊢
      simp only [] at hR lR ⊢
      generalize ordO (-s) = R at *
      rcases hq with ⟨rfl, h1⟩ | ⟨rfl, h1⟩ | ⟨rfl, rfl⟩ | ⟨rfl, rfl⟩ | ⟨rfl, rfl⟩ <;>
        simp [-Int.not_lt, -Int.not_le, zT9_eq, h22, h51, hd, F47, x1, x2, h50, hO, hR, w0, w2, w3, w4, w5, wordQ] <;> omega
    · have hu : upZ s m = (s, m) := by unfold upZ; rw [if_neg hd]
      have h50 : F50 [I2 s m] = some (.tuple [.i q, .i t]) := by simp only [F50]; rw [if_pos h, hz]
      rw [hu] at hR lR ⊢
      simp only [] at hR lR ⊢
      generalize ordO s = R at *
      rcases hq with ⟨rfl, h1⟩ | ⟨rfl, h1⟩ | ⟨rfl, rfl⟩ | ⟨rfl, rfl⟩ | ⟨rfl, rfl⟩ <;>
        simp [-Int.not_lt, -Int.not_le, zT9_eq, h22, h51, hd, h50, hO, hR, w0, w2, w3, w4, w5, wordQ] <;> omega
  · simp [zT9_eq, F22, h]
def zF9 : List SV → Option SV
  | [.agg [.pv (.int .i64 s), .pv (.int .i64 m)]] => some (if isI s m then .tuple [.str (nameZ s m), .i 0] else .tuple [.str [], .i 2])
  | _ => none
theorem zmeets9 {W0 : World} (L : Laid W0) : OkAt W0 9 zF9 := meets_fn env (tok_cons (meets22 W0) (tok_cons (meets51 W0) (tok_cons (meets47 W0) (tok_cons (meets50 W0) (tok_cons (zmeets25 L) (tok_cons (zmeets26 L) tok_nil)))))) mixed Tryz.func9 (by kernel_rfl) (by kernel_rfl) fun args r h => by
  unfold zF9 at h
  split at h
  · cases h; exact zx9 _ _
  · cases h
/-- The reference's. -/
theorem itoa_dec {n : Int} (h : 0 ≤ n) : Lib.itoa n = decL n := by
  unfold Lib.itoa decL
  rw [if_neg (by omega)]
  try (congr 1; omega)
noncomputable abbrev c12 : Code := restN 5 (Tryz.f12.body.getD .skip)
noncomputable abbrev d12 : Code := restN 1 c12
theorem stC (s m u v : Int) (h : isI s m) (h52 : F52 [I2 s m] = some (I2 u v)) (hu : 0 ≤ u ∧ u ≤ 77) (pre : Bs) (hp : pre.length ≤ 100) :
    X Y zT11 [.tmp 2] [] (Hold d12) ⟨mk 90 .J [(1, .ptr 0 0), (3, .str pre)], [.box [.i s, .i m]]⟩ (Is (.str (pre ++ ordO u))) := by
  unfold Hold d12 c12 Tryz.f12
  simp only [restN, Option.getD_some]
  have w8 : IntKind.i64.wrap 8 = 8 := rfl
  have b : ∀ k : Nat, k ≤ 1000 → pre.length + k ≤ 4611686018427387904 := fun k hk => by omega
  have b6 := b 6 (by omega)
  have b5 := b 5 (by omega)
  have b7 := b 7 (by omega)
  by_cases h8 : u < 8
  · have ho : ordO u = wordsO.getD u.toNat [] := by unfold ordO; rw [if_pos h8]
    rw [ho]
    rcases (by omega : u = 0 ∨ u = 1 ∨ u = 2 ∨ u = 3 ∨ u = 4 ∨ u = 5 ∨ u = 6 ∨ u = 7) with rfl | rfl | rfl | rfl | rfl | rfl | rfl | rfl <;>
      simp [-Int.not_lt, -Int.not_le, zT11_eq, h52, w8, wordsO, b5, b6, b7]
  · have ho : ordO u = decL (u + 1) ++ endO (u + 1) := by unfold ordO; rw [if_neg h8, itoa_dec (by omega)]
    rw [ho]
    unfold endO
    have h29 : zF29 1000 [.i (u + 1)] = some (.str (decL (u + 1))) := by simp only [zF29]; rw [if_pos (by omega)]
    have w1 : IntKind.i64.wrap (u + 1) = u + 1 := wrap64 (by omega) (by omega)
    have l1 : (decL (u + 1)).length ≤ 3 := dec_short (by omega)
    have t1 : (u + 1).tmod 100 = (u + 1) % 100 := Int.tmod_eq_emod_of_nonneg (by omega)
    have t2 : (u + 1).tmod 10 = (u + 1) % 10 := Int.tmod_eq_emod_of_nonneg (by omega)
    generalize decL (u + 1) = B at *
    generalize (u + 1) % 100 = a at *
    generalize (u + 1) % 10 = d at *
    have c1 : pre.length + B.length ≤ 4611686018427387904 := by omega
    have c2 : pre.length + B.length + 2 ≤ 4611686018427387904 := by omega
    by_cases k1 : a < 11 <;> by_cases k2 : 13 < a <;> by_cases e1 : d = 1 <;> (try by_cases e2 : d = 2) <;> (try by_cases e3 : d = 3) <;>
      simp [-Int.not_lt, -Int.not_le, zT11_eq, h52, w8, h8, w1, h29, t1, t2, c1, c2, *]
theorem stB (s m u v q : Int) (h : isI s m) (h52 : F52 [I2 s m] = some (I2 u v)) (hu : 0 ≤ u ∧ u ≤ 77) (hq : q = 2 ∨ q = -2 ∨ q = 0 ∨ q = 1 ∨ q = -1) (pre : Bs) (hp : pre.length ≤ 50) :
    X Y zT11 [.tmp 2] [] (Hold c12) ⟨mk 90 .J [(1, .ptr 0 0), (3, .str pre), (4, .i q)], [.box [.i s, .i m]]⟩ (Is (.str (pre ++ (wordQ q ++ (32 :: ordO u))))) := by
  have C := fun (w : Bs) (hw : w.length ≤ 40) => stC s m u v h h52 hu (pre ++ w) (by simp; omega)
  unfold Hold
  refine X_cut 1 ?_
  generalize ht : Hold (restN 1 c12) = tl
  have C : ∀ (w : Bs), w.length ≤ 40 → X Y zT11 [.tmp 2] [] tl ⟨mk 90 .J [(1, .ptr 0 0), (3, .str (pre ++ w))], [.box [.i s, .i m]]⟩ (Is (.str ((pre ++ w) ++ ordO u))) := fun w hw => by
    rw [← ht]; exact C w hw
  unfold c12 Tryz.f12
  simp only [restN, glue, Option.getD_some]
  have b : ∀ k : Nat, k ≤ 1000 → pre.length + k ≤ 4611686018427387904 := fun k hk => by omega
  have b6 := b 6 (by omega)
  have b8 := b 8 (by omega)
  have b10 := b 10 (by omega)
  have b11 := b 11 (by omega)
  rcases hq with rfl | rfl | rfl | rfl | rfl
  · simp [-Int.not_lt, -Int.not_le, b6, b8, b10, b11, wordQ]
    refine X_mono (fun x hx => ?_) (X_keep (C [97, 117, 103, 109, 101, 110, 116, 101, 100, 32] (by simp)) ?_)
    · simpa using hx
    · simp
  · simp [-Int.not_lt, -Int.not_le, b6, b8, b10, b11, wordQ]
    refine X_mono (fun x hx => ?_) (X_keep (C [100, 105, 109, 105, 110, 105, 115, 104, 101, 100, 32] (by simp)) ?_)
    · simpa using hx
    · simp
  · simp [-Int.not_lt, -Int.not_le, b6, b8, b10, b11, wordQ]
    refine X_mono (fun x hx => ?_) (X_keep (C [112, 101, 114, 102, 101, 99, 116, 32] (by simp)) ?_)
    · simpa using hx
    · simp
  · simp [-Int.not_lt, -Int.not_le, b6, b8, b10, b11, wordQ]
    refine X_mono (fun x hx => ?_) (X_keep (C [109, 97, 106, 111, 114, 32] (by simp)) ?_)
    · simpa using hx
    · simp
  · simp [-Int.not_lt, -Int.not_le, b6, b8, b10, b11, wordQ]
    refine X_mono (fun x hx => ?_) (X_keep (C [109, 105, 110, 111, 114, 32] (by simp)) ?_)
    · simpa using hx
    · simp
theorem zx12 (s m : Int) (h : isI s m) : XFn Y zT11 Tryz.f12 [I2 s m] [] (Is (.str (nameZ s m))) := by
  unfold XFn
  rw [enter_1 _ (by decide)]
  obtain ⟨⟨u1, u2⟩, u3, u4⟩ := up_z h
  obtain ⟨q, t, e, ht, hq⟩ := qua_cases ⟨u1, u2⟩ ⟨u3, u4⟩
  have hz : quaZ s m = (q, t) := by rw [qua_up, e]
  have h50 : F50 [I2 s m] = some (.tuple [.i q, .i t]) := by simp only [F50]; rw [if_pos h, hz]
  have h52 : F52 [I2 s m] = some (I2 (upZ s m).1 (upZ s m).2) := by simp only [F52]; rw [if_pos h]
  have h51 : F51 [I2 s m] = some (.bool (downZ s m)) := rfl
  have hB := fun (pre : Bs) (hp : pre.length ≤ 50) => stB s m _ _ q h h52 ⟨u1, u2⟩ (by omega) pre hp
  unfold nameZ
  rw [hz]
  generalize (upZ s m).1 = u at *
  generalize (upZ s m).2 = v at *
  have ht0 : 0 ≤ t := by omega
  have h29' : zF29 1000 [.i t] = some (.str (decL t)) := by simp only [zF29]; rw [if_pos (by omega)]
  have l2 : (decL t).length ≤ 3 := dec_short (by omega)
  refine X_cut 5 ?_
  generalize htl : Hold (restN 5 (Tryz.f12.body.getD .skip)) = tl
  have hB : ∀ (pre : Bs), pre.length ≤ 50 → X Y zT11 [.tmp 2] [] tl ⟨mk 90 .J [(1, .ptr 0 0), (3, .str pre), (4, .i q)], [.box [.i s, .i m]]⟩ (Is (.str (pre ++ (wordQ q ++ (32 :: ordO u))))) := fun pre hp => by
    rw [← htl]; exact hB pre hp
  clear htl
  generalize downZ s m = dn at *
  unfold nameU oftZ
  rw [itoa_dec ht0]
  generalize decL t = D at *
  generalize wordQ q ++ (32 :: ordO u) = W at *
  unfold Tryz.f12
  simp only [glue, Option.getD_some]
  have c1 : D.length + 7 ≤ 4611686018427387904 := by omega
  have c2 : 11 + D.length ≤ 4611686018427387904 := by omega
  have c3 : 11 + D.length + 7 ≤ 4611686018427387904 := by omega
  have c4 : D.length ≤ 4611686018427387904 := by omega
  have c5 : D.length ≤ 4611686018427387886 := by omega
  have c6 : D.length ≤ 4611686018427387893 := by omega
  have c7 : D.length ≤ 4611686018427387897 := by omega
  by_cases k2 : t = 2
  · subst k2
    cases dn
    · simp [-Int.not_lt, -Int.not_le, zT11_eq, h51, h50]
      refine X_keep (hB [100, 111, 117, 98, 108, 121, 32] (by simp)) ?_
      simp
    · simp [-Int.not_lt, -Int.not_le, zT11_eq, h51, h50]
      refine X_keep (hB (descB ++ [100, 111, 117, 98, 108, 121, 32]) (by simp)) ?_
      simp
  · by_cases k3 : t = 3
    · subst k3
      cases dn
      · simp [-Int.not_lt, -Int.not_le, zT11_eq, h51, h50]
        refine X_keep (hB [116, 114, 105, 112, 108, 121, 32] (by simp)) ?_
        simp
      · simp [-Int.not_lt, -Int.not_le, zT11_eq, h51, h50]
        refine X_keep (hB (descB ++ [116, 114, 105, 112, 108, 121, 32]) (by simp)) ?_
        simp
    · by_cases k4 : 3 < t
      · have k5 : ¬ (t = 0 ∨ t = 1) := by omega
        have k6 : ¬ t = 0 := by omega
        have k7 : ¬ t = 1 := by omega
        cases dn
        · simp [-Int.not_lt, -Int.not_le, zT11_eq, h51, h50, h29', k2, k3, k4, k5, k6, k7, c1, c2, c3, c4, c5, c6, c7]
          refine X_mono ?_ (X_keep (hB (D ++ [32, 116, 105, 109, 101, 115, 32]) (by simp; omega)) ?_)
          · intro x hx; simpa using hx
          · simp
        · simp [-Int.not_lt, -Int.not_le, zT11_eq, h51, h50, h29', k2, k3, k4, k5, k6, k7, c1, c2, c3, c4, c5, c6, c7]
          refine X_mono ?_ (X_keep (hB (descB ++ (D ++ [32, 116, 105, 109, 101, 115, 32])) (by simp; omega)) ?_)
          · intro x hx; simpa using hx
          · simp
      · have k5 : t = 0 ∨ t = 1 := by omega
        cases dn
        · simp [-Int.not_lt, -Int.not_le, zT11_eq, h51, h50, k2, k3, k4, k5]
          refine X_keep (hB [] (by simp)) ?_
          simp
        · simp [-Int.not_lt, -Int.not_le, zT11_eq, h51, h50, k2, k3, k4, k5]
          refine X_keep (hB descB (by simp)) ?_
          simp
def zF12 : List SV → Option SV
  | [.agg [.pv (.int .i64 s), .pv (.int .i64 m)]] => if isI s m then some (.str (nameZ s m)) else none
  | _ => none
theorem zmeets12 (W0 : World) : OkAt W0 12 zF12 := meets_fn env (ztok11 W0) mixed Tryz.func12 (by kernel_rfl) (by kernel_rfl) fun args r h => by
  unfold zF12 at h
  split at h
  · split at h
    · rename_i hc; cases h; exact zx12 _ _ hc
    · cases h
  · cases h
end Go.Proofs.YtmmpjnjdddaldaaGreatDoor
