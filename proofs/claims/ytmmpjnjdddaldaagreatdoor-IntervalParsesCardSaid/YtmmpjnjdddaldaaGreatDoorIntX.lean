/- Short names and the parts of long ones, with the reference's, by the machine. -/
import Derived.Test.YtmmpjnjdddaldaaGreatDoorLibZ
set_option linter.unusedSimpArgs false
set_option linter.unusedVariables false
set_option maxRecDepth 1000000
set_option maxHeartbeats 400000
namespace Go.Proofs.YtmmpjnjdddaldaaGreatDoor
open Go Go.Pm Go.RowKit
theorem qua_cases {u v : Int} (hu : 0 ≤ u ∧ u ≤ 77) (hv : -140 ≤ v ∧ v ≤ 140) : ∃ q t, quaU u v = (q, t) ∧ t ≤ 283 ∧ ((q = 2 ∧ 1 ≤ t) ∨ (q = -2 ∧ 1 ≤ t) ∨ (q = 0 ∧ t = 0) ∨ (q = 1 ∧ t = 0) ∨ (q = -1 ∧ t = 0)) := by
  have hn := nat_range hu
  refine ⟨(quaU u v).1, (quaU u v).2, rfl, ?_⟩
  unfold quaU
  by_cases hp : 0 ≤ pureIx (u % 7)
  · simp only [if_pos hp]
    unfold perZ
    by_cases h1 : 0 < v - natZ u
    · simp only [if_pos h1]; refine ⟨by omega, ?_⟩; simp <;> omega
    · by_cases h2 : v - natZ u < 0
      · simp only [if_neg h1, if_pos h2]; refine ⟨by omega, ?_⟩; simp <;> omega
      · simp only [if_neg h1, if_neg h2]; refine ⟨by omega, ?_⟩; simp <;> omega
  · simp only [if_neg hp]
    unfold larZ
    by_cases h1 : 0 < v - natZ u
    · simp only [if_pos h1]; refine ⟨by omega, ?_⟩; simp <;> omega
    · by_cases h2 : v - natZ u = 0
      · simp only [if_neg h1, if_pos h2]; refine ⟨by omega, ?_⟩; simp <;> omega
      · by_cases h3 : v - natZ u = -1
        · simp only [if_neg h1, if_neg h2, if_pos h3]; refine ⟨by omega, ?_⟩; simp <;> omega
        · simp only [if_neg h1, if_neg h2, if_neg h3]; refine ⟨by omega, ?_⟩; simp <;> omega
theorem itoa_short {n : Int} (h : 0 ≤ n ∧ n < 1000) : (Lib.itoa n).length ≤ 3 := by
  unfold Lib.itoa
  rw [if_neg (by omega)]
  generalize hk : n.natAbs = k
  have hk2 : k < 1000 := by omega
  unfold Lib.decDigits
  split
  · simp
  · unfold Lib.decDigits
    split
    · simp
    · unfold Lib.decDigits
      split
      · simp
      · omega
/-- The short name of an interval that does not descend. -/
noncomputable def zT20u : FuncId → Option Pm.Spec := tab [(23, .pure false F51), (24, .pure false F50), (39, .pure false zF39), (40, .pure false zF40)]
theorem zT20u_eq (g : Nat) : zT20u g = tab [(23, .pure false F51), (24, .pure false F50), (39, .pure false zF39), (40, .pure false zF40)] g := rfl
theorem ztok20u {W0 : World} (L : Laid W0) : TOk Tryz.prog W0 zT20u := tok_cons (meets51 W0) (tok_cons (meets50 W0) (tok_cons (zmeets39 W0) (tok_cons (zmeets40 L) tok_nil)))
theorem rep_fact (c : UInt8) {k : Int} (h : 1 ≤ k ∧ k ≤ 1000) : zF39 [.str [c], .i k] = some (.str (List.replicate k.toNat c)) := by
  simp only [zF39]; rw [if_pos ⟨by omega, by simp⟩, rep_rep]
theorem zx20u (s m : Int) (h : isI s m) (hd : downZ s m = false) : XFn Y zT20u Tryz.f20 [I2 s m] [] (Is (.str (txtU s m))) := by
  unfold XFn Tryz.f20
  rw [enter_1 _ (by decide)]
  have u2 := (up_range h).2 hd
  obtain ⟨q, t, e, ht, hq⟩ := qua_cases (u := s) (v := m) ⟨u2, h.1.2⟩ h.2
  have hz : quaZ s m = (q, t) := by unfold quaZ; rw [if_neg (by rw [hd]; simp), e]
  have h50 : F50 [I2 s m] = some (.tuple [.i q, .i t]) := by simp only [F50]; rw [if_pos h, hz]
  have h40 : zF40 [.i (s + 1)] = some (.str (d100 (s + 1).toNat)) := by
    have := h.1
    simp only [zF40]; rw [if_pos (by omega), itoa_d100 (by omega)]
  have w1 : IntKind.i64.wrap (s + 1) = s + 1 := wrap64 (by have := h.1; omega) (by have := h.1; omega)
  have hl := d100_len (s + 1).toNat
  unfold txtU tmsU
  rw [e]
  generalize d100 (s + 1).toNat = B at *
  have w : ∀ k : Int, 0 ≤ k ∧ k ≤ 4 → IntKind.i64.wrap k = k := fun k hk => wrap64 (by omega) (by omega)
  have w0 := w 0 (by omega)
  have w2 := w 2 (by omega)
  have w3 := w 3 (by omega)
  have w4 := w 4 (by omega)
  have w5 := w 1 (by omega)
  rcases hq with ⟨rfl, h1⟩ | ⟨rfl, h1⟩ | ⟨rfl, rfl⟩ | ⟨rfl, rfl⟩ | ⟨rfl, rfl⟩
  · by_cases h2 : 1 < t
    · have hr := rep_fact 65 (k := t) (by omega)
      have e1 : max 1 t.toNat = t.toNat := by omega
      have hc : t.toNat + B.length ≤ 4611686018427387904 := by omega
      simp [-Int.not_lt, -Int.not_le, zT20u_eq, F51, hd, h50, h40, w0, w1, w2, w3, w4, w5, h2, hr, e1, hc, letQ]
    · obtain rfl : t = 1 := by omega
      have hr := rep_fact 65 (k := 1) (by omega)
      have hc : 1 + B.length ≤ 4611686018427387904 := by omega
      simp at hr
      simp [-Int.not_lt, -Int.not_le, zT20u_eq, F51, hd, h50, h40, w0, w1, w2, w3, w4, w5, hr, hc, letQ]
  · by_cases h2 : 1 < t
    · have hr := rep_fact 100 (k := t) (by omega)
      have e1 : max 1 t.toNat = t.toNat := by omega
      have hc : t.toNat + B.length ≤ 4611686018427387904 := by omega
      simp [-Int.not_lt, -Int.not_le, zT20u_eq, F51, hd, h50, h40, w0, w1, w2, w3, w4, w5, h2, hr, e1, hc, letQ]
    · obtain rfl : t = 1 := by omega
      have hr := rep_fact 100 (k := 1) (by omega)
      have hc : 1 + B.length ≤ 4611686018427387904 := by omega
      simp at hr
      simp [-Int.not_lt, -Int.not_le, zT20u_eq, F51, hd, h50, h40, w0, w1, w2, w3, w4, w5, hr, hc, letQ]
  · have hr := rep_fact 80 (k := 1) (by omega)
    have hc : 1 + B.length ≤ 4611686018427387904 := by omega
    simp at hr
    simp [-Int.not_lt, -Int.not_le, zT20u_eq, F51, hd, h50, h40, w0, w1, w2, w3, w4, w5, hr, hc, letQ]
  · have hr := rep_fact 77 (k := 1) (by omega)
    have hc : 1 + B.length ≤ 4611686018427387904 := by omega
    simp at hr
    simp [-Int.not_lt, -Int.not_le, zT20u_eq, F51, hd, h50, h40, w0, w1, w2, w3, w4, w5, hr, hc, letQ]
  · have hr := rep_fact 109 (k := 1) (by omega)
    have hc : 1 + B.length ≤ 4611686018427387904 := by omega
    simp at hr
    simp [-Int.not_lt, -Int.not_le, zT20u_eq, F51, hd, h50, h40, w0, w1, w2, w3, w4, w5, hr, hc, letQ]
def zF20u : List SV → Option SV
  | [.agg [.pv (.int .i64 s), .pv (.int .i64 m)]] => if isI s m ∧ downZ s m = false then some (.str (txtU s m)) else none
  | _ => none
theorem zmeets20u {W0 : World} (L : Laid W0) : OkAt W0 20 zF20u := meets_fn env (ztok20u L) mixed Tryz.func20 (by kernel_rfl) (by kernel_rfl) fun args r h => by
  unfold zF20u at h
  split at h
  · split at h
    · rename_i hc; cases h; exact zx20u _ _ hc.1 hc.2
    · cases h
  · cases h
noncomputable def zT20 : FuncId → Option Pm.Spec := tab [(23, .pure false F51), (24, .pure false F50), (39, .pure false zF39), (40, .pure false zF40), (18, .pure false F47), (20, .pure false zF20u)]
theorem zT20_eq (g : Nat) : zT20 g = tab [(23, .pure false F51), (24, .pure false F50), (39, .pure false zF39), (40, .pure false zF40), (18, .pure false F47), (20, .pure false zF20u)] g := rfl
theorem zx20d (s m : Int) (h : isI s m) (hd : downZ s m = true) : XFn Y zT20 Tryz.f20 [I2 s m] [] (Is (.str (textZ s m))) := by
  unfold XFn Tryz.f20
  rw [enter_1 _ (by decide)]
  have u1 := (up_range h).1 hd
  obtain ⟨⟨h1, h2⟩, h3, h4⟩ := h
  have hx : isI (-s) (-m) := ⟨⟨by omega, by omega⟩, by omega, by omega⟩
  have w1 : IntKind.i64.wrap (-s) = -s := wrap64 (by omega) (by omega)
  have w2 : IntKind.i64.wrap (-m) = -m := wrap64 (by omega) (by omega)
  have hF : zF20u [I2 (-s) (-m)] = some (.str (txtU (-s) (-m))) := by simp only [zF20u]; rw [if_pos ⟨hx, down_opp hd⟩]
  obtain ⟨-, -, -, -, hl⟩ := txt_parts (u := -s) (v := -m) (by omega) (by omega)
  unfold textZ
  rw [if_pos hd]
  generalize txtU (-s) (-m) = B at *
  have c1 : 1 + B.length ≤ 4611686018427387904 := by omega
  have c2 : B.length + 1 ≤ 4611686018427387904 := by omega
  simp [-Int.not_lt, -Int.not_le, zT20_eq, F51, F47, hd, w1, w2, hF, c1, c2]
def zF20 : List SV → Option SV
  | [.agg [.pv (.int .i64 s), .pv (.int .i64 m)]] => if isI s m then some (.str (textZ s m)) else none
  | _ => none
theorem zF20_meet {W0 : World} (L : Laid W0) : OkAt W0 20 zF20 := by
  have a := zmeets20u L
  have b : OkAt W0 20 (fun args => match args with
    | [.agg [.pv (.int .i64 s), .pv (.int .i64 m)]] => if isI s m ∧ downZ s m = true then some (.str (textZ s m)) else none
    | _ => none) := meets_fn env (tok_cons (meets51 W0) (tok_cons (meets50 W0) (tok_cons (zmeets39 W0) (tok_cons (zmeets40 L) (tok_cons (meets47 W0) (tok_cons (zmeets20u L) tok_nil)))))) mixed Tryz.func20 (by kernel_rfl) (by kernel_rfl) fun args r h => by
    split at h
    · split at h
      · rename_i hc; cases h; exact zx20d _ _ hc.1 hc.2
      · cases h
    · cases h
  refine ⟨a.1, fun C args vs r H' h I J hr => ?_⟩
  simp only [specFn] at h
  split at h
  · rename_i as1 hps
    split at h
    · rename_i r1 hr1
      unfold zF20 at hr1
      split at hr1
      · rename_i s m
        split at hr1
        · rename_i hi
          cases hr1
          by_cases hd : downZ s m = true
          · refine b.2 C args vs r H' ?_ I J hr
            simp only [specFn, hps]
            rw [if_pos ⟨hi, hd⟩]
            exact h
          · have hd' : downZ s m = false := by simpa using hd
            refine a.2 C args vs r H' ?_ I J hr
            simp only [specFn, hps, zF20u]
            rw [if_pos ⟨hi, hd'⟩]
            have e : textZ s m = txtU s m := by unfold textZ; rw [if_neg hd]
            rw [e] at h
            exact h
        · cases hr1
      · cases hr1
    · cases h
  · cases h
/-- Text, with its error. -/
noncomputable def zT8 : FuncId → Option Pm.Spec := tab [(19, .pure false F22), (20, .pure false zF20)]
theorem zT8_eq (g : Nat) : zT8 g = tab [(19, .pure false F22), (20, .pure false zF20)] g := rfl
theorem zx8 (s m : Int) : XFn Y zT8 Tryz.f8 [I2 s m] [] (Is (if isI s m then .tuple [.str (textZ s m), .i 0] else .tuple [.str [], .i 2])) := by
  unfold XFn Tryz.f8
  rw [enter_1 _ (by decide)]
  by_cases h : isI s m
  · simp [zT8_eq, F22, zF20, h]
  · simp [zT8_eq, F22, zF20, h]
def zF8 : List SV → Option SV
  | [.agg [.pv (.int .i64 s), .pv (.int .i64 m)]] => some (if isI s m then .tuple [.str (textZ s m), .i 0] else .tuple [.str [], .i 2])
  | _ => none
theorem zmeets8 {W0 : World} (L : Laid W0) : OkAt W0 8 zF8 := meets_fn env (tok_cons (meets22 W0) (tok_cons (zF20_meet L) tok_nil)) mixed Tryz.func8 (by kernel_rfl) (by kernel_rfl) fun args r h => by
  unfold zF8 at h
  split at h
  · cases h; exact zx8 _ _
  · cases h
/-- How often. -/
def oftZ (n : Int) : Bs := if n = 0 ∨ n = 1 then [] else if n = 2 then [100, 111, 117, 98, 108, 121, 32] else if n = 3 then [116, 114, 105, 112, 108, 121, 32] else Lib.itoa n ++ [32, 116, 105, 109, 101, 115, 32]
noncomputable def zT25 : FuncId → Option Pm.Spec := tab [(40, .pure false zF40)]
theorem zT25_eq (g : Nat) : zT25 g = tab [(40, .pure false zF40)] g := rfl
theorem zx25 (n : Int) (h : 0 ≤ n ∧ n ≤ 300) : XFn Y zT25 Tryz.f25 [.i n] [] (Is (.str (oftZ n))) := by
  unfold XFn Tryz.f25 oftZ
  rw [enter_1 _ (by decide)]
  by_cases h0 : n = 0
  · simp [h0]
  · by_cases h1 : n = 1
    · simp [h1]
    · by_cases h2 : n = 2
      · simp [h2]
      · by_cases h3 : n = 3
        · simp [h3]
        · have hF : zF40 [.i n] = some (.str (Lib.itoa n)) := by simp only [zF40]; rw [if_pos (by omega)]
          have hl := itoa_short (n := n) (by omega)
          generalize Lib.itoa n = B at *
          have hc : B.length + 7 ≤ 4611686018427387904 := by omega
          simp [zT25_eq, h0, h1, h2, h3, hF, hc]
def zF25 : List SV → Option SV
  | [.pv (.int .i64 n)] => if 0 ≤ n ∧ n ≤ 300 then some (.str (oftZ n)) else none
  | _ => none
theorem zmeets25 {W0 : World} (L : Laid W0) : OkAt W0 25 zF25 := meets_fn env (tok_cons (zmeets40 L) tok_nil) mixed Tryz.func25 (by kernel_rfl) (by kernel_rfl) fun args r h => by
  unfold zF25 at h
  split at h
  · split at h
    · rename_i hc; cases h; exact zx25 _ hc
    · cases h
  · cases h
/-- Ordinals. -/
def wordsO : List Bs := [[117, 110, 105, 115, 111, 110], [115, 101, 99, 111, 110, 100], [116, 104, 105, 114, 100], [102, 111, 117, 114, 116, 104], [102, 105, 102, 116, 104], [115, 105, 120, 116, 104], [115, 101, 118, 101, 110, 116, 104], [111, 99, 116, 97, 118, 101]]
def endO (k : Int) : Bs := if k % 100 < 11 ∨ 13 < k % 100 then (if k % 10 = 1 then [115, 116] else if k % 10 = 2 then [110, 100] else if k % 10 = 3 then [114, 100] else [116, 104]) else [116, 104]
def ordO (n : Int) : Bs := if n < 8 then wordsO.getD n.toNat [] else Lib.itoa (n + 1) ++ endO (n + 1)
theorem zx26 (n : Int) (h : 0 ≤ n ∧ n ≤ 77) : XFn Y zT25 Tryz.f26 [.i n] [] (Is (.str (ordO n))) := by
  unfold XFn Tryz.f26 ordO
  rw [enter_1 _ (by decide)]
  by_cases h0 : n < 8
  · rcases (by omega : n = 0 ∨ n = 1 ∨ n = 2 ∨ n = 3 ∨ n = 4 ∨ n = 5 ∨ n = 6 ∨ n = 7) with rfl | rfl | rfl | rfl | rfl | rfl | rfl | rfl <;> simp [wordsO]
  · have w1 : IntKind.i64.wrap (n + 1) = n + 1 := wrap64 (by omega) (by omega)
    have hF : zF40 [.i (n + 1)] = some (.str (Lib.itoa (n + 1))) := by simp only [zF40]; rw [if_pos (by omega)]
    have hl := itoa_short (n := n + 1) (by omega)
    have t1 : (n + 1).tmod 100 = (n + 1) % 100 := Int.tmod_eq_emod_of_nonneg (by omega)
    have t2 : (n + 1).tmod 10 = (n + 1) % 10 := Int.tmod_eq_emod_of_nonneg (by omega)
    have hr : 0 ≤ (n + 1) % 10 ∧ (n + 1) % 10 ≤ 9 := by omega
    unfold endO
    generalize Lib.itoa (n + 1) = B at *
    have hc : B.length + 2 ≤ 4611686018427387904 := by omega
    generalize (n + 1) % 100 = a at *
    generalize (n + 1) % 10 = b at *
    by_cases h1 : a < 11
    · rcases (by omega : b = 0 ∨ b = 1 ∨ b = 2 ∨ b = 3 ∨ b = 4 ∨ b = 5 ∨ b = 6 ∨ b = 7 ∨ b = 8 ∨ b = 9) with rfl | rfl | rfl | rfl | rfl | rfl | rfl | rfl | rfl | rfl <;> simp [-Int.not_lt, -Int.not_le, zT25_eq, h0, w1, hF, t1, t2, h1, hc]
    · by_cases h2 : 13 < a
      · rcases (by omega : b = 0 ∨ b = 1 ∨ b = 2 ∨ b = 3 ∨ b = 4 ∨ b = 5 ∨ b = 6 ∨ b = 7 ∨ b = 8 ∨ b = 9) with rfl | rfl | rfl | rfl | rfl | rfl | rfl | rfl | rfl | rfl <;> simp [-Int.not_lt, -Int.not_le, zT25_eq, h0, w1, hF, t1, t2, h1, h2, hc]
      · simp [-Int.not_lt, -Int.not_le, zT25_eq, h0, w1, hF, t1, t2, h1, h2, hc]
def zF26 : List SV → Option SV
  | [.pv (.int .i64 n)] => if 0 ≤ n ∧ n ≤ 77 then some (.str (ordO n)) else none
  | _ => none
theorem zmeets26 {W0 : World} (L : Laid W0) : OkAt W0 26 zF26 := meets_fn env (tok_cons (zmeets40 L) tok_nil) mixed Tryz.func26 (by kernel_rfl) (by kernel_rfl) fun args r h => by
  unfold zF26 at h
  split at h
  · split at h
    · rename_i hc; cases h; exact zx26 _ hc
    · cases h
  · cases h
/-- The reference's decimals. -/
def decL (n : Int) : Bs := Lib.decDigits n.toNat
def zF29 (B : Int) : List SV → Option SV
  | [.pv (.int .i64 n)] => if 0 ≤ n ∧ n < B then some (.str (decL n)) else none
  | _ => none
noncomputable def zT29 (B : Int) : FuncId → Option Pm.Spec := tab [(29, .pure false (zF29 B))]
theorem zT29_eq (B : Int) (g : Nat) : zT29 B g = tab [(29, .pure false (zF29 B))] g := rfl
theorem u8w {n : Int} (h : 0 ≤ n ∧ n ≤ 255) : IntKind.u8.wrap n = n := by
  simp [IntKind.wrap, IntKind.bits, IntKind.signed]; omega
theorem dec_short {n : Nat} (h : n < 1000) : (Lib.decDigits n).length ≤ 3 := by
  have := itoa_short (n := (n : Int)) (by omega)
  unfold Lib.itoa at this
  rw [if_neg (by omega)] at this
  simpa using this
theorem zx29 (B : Int) (hB : B ≤ 100) (n : Int) (h : 0 ≤ n ∧ (n < 10 ∨ n / 10 < B)) (hn : n < 1000) : XFn Y (zT29 B) Tryz.f29 [.i n] [] (Is (.str (decL n))) := by
  unfold XFn Tryz.f29
  rw [enter_1 _ (by decide)]
  by_cases h0 : n < 10
  · have e : decL n = [UInt8.ofNat (48 + n).toNat] := by
      unfold decL Lib.decDigits
      rw [dif_pos (by omega)]
      congr 2; omega
    have w1 := u8w (n := n) (by omega)
    have w2 := u8w (n := 48 + n) (by omega)
    rw [e]
    simp [-Int.not_lt, -Int.not_le, h0, w1, w2, bytesOf]
  · have e : decL n = decL (n / 10) ++ [UInt8.ofNat (48 + n % 10).toNat] := by
      have e0 : decL n = Lib.decDigits (n.toNat / 10) ++ [UInt8.ofNat (48 + n.toNat % 10)] := by
        unfold decL; rw [Lib.decDigits, dif_neg (by omega)]
      rw [e0]
      unfold decL
      have a1 : (n / 10).toNat = n.toNat / 10 := by omega
      have a2 : (48 + n % 10).toNat = 48 + n.toNat % 10 := by omega
      rw [a1, a2]
    have hF : zF29 B [.i (n / 10)] = some (.str (decL (n / 10))) := by simp only [zF29]; rw [if_pos (by omega)]
    have t1 : n.tdiv 10 = n / 10 := Int.tdiv_eq_ediv_of_nonneg h.1
    have t2 : n.tmod 10 = n % 10 := Int.tmod_eq_emod_of_nonneg h.1
    have w0 : IntKind.i64.wrap (n / 10) = n / 10 := wrap64 (by omega) (by omega)
    have w1 := u8w (n := n % 10) (by omega)
    have w2 := u8w (n := 48 + n % 10) (by omega)
    have hl : (decL (n / 10)).length ≤ 3 := dec_short (by omega)
    rw [e]
    generalize decL (n / 10) = A at *
    have hc : A.length + 1 ≤ 4611686018427387904 := by omega
    simp [-Int.not_lt, -Int.not_le, zT29_eq, h0, t1, t2, w0, w1, w2, hF, hc, bytesOf]
theorem zstep29 (B B' : Int) (hB : B ≤ 100) (hs : ∀ n, 0 ≤ n → n < B' → n < 10 ∨ n / 10 < B) (hB' : B' ≤ 1000) {W0 : World} (h : OkAt W0 29 (zF29 B)) (hc : codeOk (zT29 B) (Tryz.f29.body.getD .skip) = true) : OkAt W0 29 (zF29 B') := meets_fn env (tok_cons h tok_nil) mixed Tryz.func29 (by kernel_rfl) hc fun args r h => by
  unfold zF29 at h
  split at h
  · split at h
    · rename_i hc; cases h; exact zx29 B hB _ ⟨hc.1, hs _ hc.1 hc.2⟩ (by omega)
    · cases h
  · cases h
theorem zmeets29 (W0 : World) : OkAt W0 29 (zF29 1000) := by
  have h0 : OkAt W0 29 (zF29 0) := meets_fn env tok_nil mixed Tryz.func29 (by kernel_rfl) (by kernel_rfl) fun args r h => by
    unfold zF29 at h
    split at h
    · split at h
      · omega
      · cases h
    · cases h
  have h1 := zstep29 0 10 (by omega) (fun n a b => .inl (by omega)) (by omega) h0 (by kernel_rfl)
  have h2 := zstep29 10 100 (by omega) (fun n a b => .inr (by omega)) (by omega) h1 (by kernel_rfl)
  exact zstep29 100 1000 (by omega) (fun n a b => .inr (by omega)) (by omega) h2 (by kernel_rfl)
end Go.Proofs.YtmmpjnjdddaldaaGreatDoor
