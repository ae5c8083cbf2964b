/- The reference's scanner, by the machine. -/
import Derived.Test.YtkbfgmneibabgaaDoorLexT
set_option linter.unusedSimpArgs false
set_option linter.unusedVariables false
set_option maxRecDepth 1000000
set_option maxHeartbeats 2000000
namespace Go.Proofs.YtkbfgmneibabgaaDoor
open Go Go.Pm Go.RowKit
open LexP hiding place Sep Run
def rfC (t : Tk) : List PV := [.int .i64 t.kind, .str t.text, .int .i64 t.val, .str t.bytes, .int .i64 t.pos, .bool t.joined]
def rfRow (l : List Tk) : List (List PV) := l.map rfC
noncomputable def T15 : FuncId → Option Pm.Spec := tab [(41, .pure false F41), (42, .pure false (bF letZ)), (43, .pure false (bF digZ)), (44, .pure false F44), (45, .pure false (bF sgnZ))]
theorem T15_eq (g : Nat) : T15 g = tab [(41, .pure false F41), (42, .pure false (bF letZ)), (43, .pure false (bF digZ)), (44, .pure false F44), (45, .pure false (bF sgnZ))] g := rfl
theorem tok15 (W0 : World) : TOk Tryd.prog W0 T15 := tok_cons (meets41 W0) (tok_cons (meets42 W0) (tok_cons (meets43 W0) (tok_cons (meets44 W0) (tok_cons (meets45 W0) tok_nil))))
abbrev rs15 : List ResultVar := [.tmp 2, .tmp 3, .tmp 4]
theorem loop15w {F : List Fr} {P : SV × List Blk → Prop} {H : List Blk} {s : Bs} (hs : s.length ≤ 10000000) (buf a p : SV) : ∀ (r pre : Bs), pre ++ r = s →
    X Y T15 rs15 F (.exit 2) ⟨mk 157 .J [(0, .str s), (5, buf), (7, a), (8, p), (9, .i (pre.length + (r.takeWhile fun c => inwZ (z c)).length : Nat))], H⟩ P →
    X Y T15 rs15 F (.loop (loopN Tryd.f15 1)) ⟨mk 157 .J [(0, .str s), (5, buf), (7, a), (8, p), (9, .i pre.length)], H⟩ P
  | [], pre, hr, hx => by
    have hr' : pre = s := by simpa using hr
    apply X_loop_of
    · simp only [loopN, Tryd.f15, loopsOf, List.nil_append, List.append_nil, List.cons_append, List.getD_cons_succ, List.getD_cons_zero]; rfl
    subst hr'
    simp at hx
    simp
    refine X_keep hx ?_
    simp
  | c :: r, pre, hr, hx => by
    have hsl : s.length = pre.length + (r.length + 1) := by rw [← hr, List.length_append, List.length_cons]
    have hi : s[pre.length]? = some c := by rw [← hr]; simp
    have h1 : (pre.length : Int) < (s.length : Int) := by omega
    have w1 : IntKind.i64.wrap ((pre.length : Int) + 1) = ((pre ++ [c]).length : Int) := by rw [wrap64 (by omega) (by omega)]; simp
    have hb1 := bF_at letZ c
    have hb2 := bF_at digZ c
    have hz : inwZ (z c) = (letZ (z c) || (digZ (z c) || decide (z c = 95))) := rfl
    apply X_loop_of
    · simp only [loopN, Tryd.f15, loopsOf, List.nil_append, List.append_nil, List.cons_append, List.getD_cons_succ, List.getD_cons_zero]; rfl
    by_cases hc : inwZ (z c) = true
    · have e1 : pre.length + ((c :: r).takeWhile fun c => inwZ (z c)).length = (pre ++ [c]).length + (r.takeWhile fun c => inwZ (z c)).length := by simp [hc]; omega
      rw [e1] at hx
      have ih := loop15w (F := F) (P := P) (H := H) hs buf a p r (pre ++ [c]) (by rw [← hr]; simp) hx
      generalize ((pre ++ [c]).length : Int) = E at *
      cases q1 : letZ (z c) with
      | true =>
        simp [h1, hi, hb1, q1, T15_eq, w1]
        refine X_keep ih ?_
        simp
      | false =>
        cases q2 : digZ (z c) with
        | true =>
          simp [h1, hi, hb1, hb2, q1, q2, T15_eq, w1]
          refine X_keep ih ?_
          simp
        | false =>
          rw [q1, q2, hc] at hz
          have hz' : (c.toNat : Int) = 95 := by simpa [z] using hz
          have hzn : c.toNat = 95 := by omega
          rw [hz'] at hb1 hb2
          simp [h1, hi, hb1, hb2, q1, q2, T15_eq, w1, hz', hzn, show letZ 95 = false from rfl, show digZ 95 = false from rfl]
          refine X_keep ih ?_
          simp
    · have hc' : inwZ (z c) = false := by simpa using hc
      have hz2 := hz
      rw [hc'] at hz2
      have h3 : letZ (z c) = false ∧ digZ (z c) = false ∧ ¬ (c.toNat : Int) = 95 := by simpa [z] using hz2.symm
      have h4 : ¬ c.toNat = 95 := by omega
      simp [hc'] at hx
      simp [h1, hi, hb1, hb2, h3, h4, T15_eq, w1]
      refine X_keep hx ?_
      simp
theorem loop15d {F : List Fr} {P : SV × List Blk → Prop} {H : List Blk} {s : Bs} (hs : s.length ≤ 10000000) (buf a p : SV) : ∀ (r pre : Bs), pre ++ r = s →
    X Y T15 rs15 F (.exit 4) ⟨mk 157 .J [(0, .str s), (5, buf), (7, a), (8, p), (9, .i (pre.length + (r.takeWhile fun c => digZ (z c)).length : Nat))], H⟩ P →
    X Y T15 rs15 F (.loop (loopN Tryd.f15 2)) ⟨mk 157 .J [(0, .str s), (5, buf), (7, a), (8, p), (9, .i pre.length)], H⟩ P
  | [], pre, hr, hx => by
    have hr' : pre = s := by simpa using hr
    apply X_loop_of
    · simp only [loopN, Tryd.f15, loopsOf, List.nil_append, List.append_nil, List.cons_append, List.getD_cons_succ, List.getD_cons_zero]; rfl
    subst hr'
    simp at hx
    simp
    refine X_keep hx ?_
    simp
  | c :: r, pre, hr, hx => by
    have hsl : s.length = pre.length + (r.length + 1) := by rw [← hr, List.length_append, List.length_cons]
    have hi : s[pre.length]? = some c := by rw [← hr]; simp
    have h1 : (pre.length : Int) < (s.length : Int) := by omega
    have w1 : IntKind.i64.wrap ((pre.length : Int) + 1) = ((pre ++ [c]).length : Int) := by rw [wrap64 (by omega) (by omega)]; simp
    have hb2 := bF_at digZ c
    apply X_loop_of
    · simp only [loopN, Tryd.f15, loopsOf, List.nil_append, List.append_nil, List.cons_append, List.getD_cons_succ, List.getD_cons_zero]; rfl
    by_cases hc : digZ (z c) = true
    · have e1 : pre.length + ((c :: r).takeWhile fun c => digZ (z c)).length = (pre ++ [c]).length + (r.takeWhile fun c => digZ (z c)).length := by simp [hc]; omega
      rw [e1] at hx
      have ih := loop15d (F := F) (P := P) (H := H) hs buf a p r (pre ++ [c]) (by rw [← hr]; simp) hx
      generalize ((pre ++ [c]).length : Int) = E at *
      simp [h1, hi, hb2, hc, T15_eq, w1]
      refine X_keep ih ?_
      simp
    · have hc' : digZ (z c) = false := by simpa using hc
      simp [hc'] at hx
      simp [h1, hi, hb2, hc', T15_eq, w1]
      refine X_keep hx ?_
      simp
/-- A token of the reference as it grows. -/
abbrev tB (kd : Int) (v : Int) (a j : SV) : Blk := .box (some 38) [.i kd, .str [], .i v, .str [], a, j]
theorem loop15v {F : List Fr} {P : SV × List Blk → Prop} {H : List Blk} {s : Bs} {n : Nat} (hs : s.length ≤ 10000000) (buf at_ a j : SV) : ∀ (r pre : Bs) (v : Int) (b : Nat), (∃ t, pre ++ r ++ t = s) → pre.length + r.length = n → (r.all fun c => digZ (z c)) = true → 0 ≤ v → v < (b : Int) → b * 10 ^ r.length ≤ 1000000000000000 →
    X Y T15 rs15 F (.exit 6) ⟨mk 157 .J [(0, .str s), (5, buf), (7, at_), (8, .ptr H.length 0), (9, .i n)], H ++ [tB 2 (r.foldl (fun a c => 10 * a + (z c - 48)) v) a j]⟩ P →
    X Y T15 rs15 F (.loop (loopN Tryd.f15 3)) ⟨mk 157 .J [(0, .str s), (5, buf), (7, at_), (8, .ptr H.length 0), (9, .i n), (10, .i pre.length)], H ++ [tB 2 v a j]⟩ P
  | [], pre, v, b, hr, hn, hd, v0, v1, hb, hx => by
    have hn : (pre.length : Int) = (n : Int) := by simp at hn; omega
    apply X_loop_of
    · simp only [loopN, Tryd.f15, loopsOf, List.nil_append, List.append_nil, List.cons_append, List.getD_cons_succ, List.getD_cons_zero]; rfl
    simp at hx
    simp [hn]
    refine X_keep hx ?_
    simp
  | c :: r, pre, v, b, ⟨t, hr⟩, hn, hd, v0, v1, hb, hx => by
    have hn1 : pre.length + (r.length + 1) = n := by simpa using hn
    have hsl : s.length = pre.length + (r.length + 1) + t.length := by rw [← hr]; simp; omega
    have hi : s[pre.length]? = some c := by rw [← hr]; simp
    have h1 : (pre.length : Int) < (n : Int) := by omega
    have w1 : IntKind.i64.wrap ((pre.length : Int) + 1) = ((pre ++ [c]).length : Int) := by rw [wrap64 (by omega) (by omega)]; simp
    have hdc : 48 ≤ z c ∧ z c ≤ 57 := by simp [digZ] at hd; exact hd.1
    have hdc' : 48 ≤ (c.toNat : Int) ∧ (c.toNat : Int) ≤ 57 := hdc
    have hpow : b * 10 ^ (c :: r).length = (10 * b) * 10 ^ r.length := by rw [List.length_cons, Nat.pow_succ]; rw [Nat.mul_comm (10 ^ r.length) 10, ← Nat.mul_assoc, Nat.mul_comm b 10]
    have hb10 : 10 * b ≤ 1000000000000000 := by
      rw [hpow] at hb
      exact Nat.le_trans (Nat.le_mul_of_pos_right _ (Nat.pow_pos (by decide))) hb
    have w2 : IntKind.u8.wrap ((c.toNat : Int) - 48) = (c.toNat : Int) - 48 := wrap_u8 (by omega) (by omega)
    have w3 : IntKind.i64.wrap ((c.toNat : Int) - 48) = (c.toNat : Int) - 48 := wrap64 (by omega) (by omega)
    have w4 : IntKind.i64.wrap (10 * v) = 10 * v := wrap64 (by omega) (by omega)
    have w5 : IntKind.i64.wrap (10 * v + ((c.toNat : Int) - 48)) = 10 * v + ((c.toNat : Int) - 48) := wrap64 (by omega) (by omega)
    have ih := loop15v (F := F) (P := P) (H := H) (n := n) hs buf at_ a j r (pre ++ [c]) (10 * v + ((c.toNat : Int) - 48)) (10 * b) ⟨t, by rw [← hr]; simp⟩ (by simp; omega) (by simp at hd ⊢; exact hd.2) (by omega) (by omega) (by rw [← hpow]; exact hb) (by simpa [z] using hx)
    apply X_loop_of
    · simp only [loopN, Tryd.f15, loopsOf, List.nil_append, List.append_nil, List.cons_append, List.getD_cons_succ, List.getD_cons_zero]; rfl
    generalize ((pre ++ [c]).length : Int) = E at *
    simp [h1, hi, w1, w2, w3, w4, w5, set_last, get_last]
    refine X_keep ih ?_
    simp
theorem loop15 {F : List Fr} {P : SV × List Blk → Prop} {s : Bs} (hs : s.length ≤ 200000) :
    ∀ (f : Nat) (rest pre : Bs) (toks : List Tk) (e0 : Int) (buf : SV) (H : List Blk), rest.length < f → pre ++ rest = s → toks.length ≤ pre.length → ((toks = [] ∧ e0 = -1) ∨ (toks ≠ [] ∧ e0 = pre.length)) → Acc 38 6 H (rfRow toks) buf →
    (∀ H' o e, scanA f toks pre.length rest = .error (o, e) → P (.tuple [.pv .nilSlice, .i o, .i e], H')) →
    (∀ H' m e1 buf' jb, scanA f toks pre.length rest = .ok (m ++ [⟨0, [], 0, [], s.length, jb⟩]) → m.length ≤ s.length → (((s.length : Int) == e1) = jb) → Acc 38 6 H' (rfRow m) buf' → X Y T15 rs15 F (.exit 0) ⟨mk 157 .J [(0, .str s), (5, buf'), (6, .i e1)], H'⟩ P) →
    X Y T15 rs15 F (.loop (loopN Tryd.f15 0)) ⟨mk 157 .J [(0, .str s), (5, buf), (6, .i e0), (7, .i (pre.length + skp false rest : Nat))], H⟩ P
  | 0, rest, pre, toks, e0, buf, H, hf, hr, ht, he, hA, h1, h2 => by omega
  | f + 1, rest, pre, toks, e0, buf, H, hf, hr, ht, he, hA, h1, h2 => by
    have hsl : s.length = pre.length + rest.length := by rw [← hr, List.length_append]
    have hle : skp false rest ≤ rest.length := skp_le rest false
    have hj : (((pre.length + skp false rest : Nat) : Int) == e0) = (decide (skp false rest = 0) && !toks.isEmpty) := by
      rcases he with ⟨rfl, rfl⟩ | ⟨h, rfl⟩
      · simp; omega
      · have : toks.isEmpty = false := by simp [h]
        rw [this, Bool.not_false, Bool.and_true, beqZ]
        congr 1
        apply propext; omega
    have hlive := hA.live
    have hlen : aLen Y 27 buf = some toks.length := by
      rcases hA with ⟨h1, rfl⟩ | ⟨h1, kt, v, rfl, h2⟩
      · have : toks = [] := by simpa [rfRow] using h1
        subst this; rfl
      · simp [rfRow, sliceElems]
    have hmax : ¬ (toks.length : Int) = 262144 := by omega
    have hmaxn : ¬ toks.length = 262144 := by omega
    generalize hq : skp false rest = q at *
    generalize hjb : (decide (q = 0) && !toks.isEmpty) = jb at *
    apply X_loop_of
    · simp only [loopN, Tryd.f15, loopsOf, List.nil_append, List.append_nil, List.cons_append, List.getD_cons_succ, List.getD_cons_zero]; rfl
    cases hd : rest.drop q with
    | nil =>
      have hql : q = rest.length := by have := congrArg List.length hd; simp at this; omega
      have hE : ((pre.length + q : Nat) : Int) = (s.length : Int) := by omega
      have hres : scanA (f + 1) toks pre.length rest = .ok (toks ++ [⟨0, [], 0, [], s.length, jb⟩]) := by
        simp only [scanA, hq, hd, hjb]; rw [show pre.length + q = s.length by omega]
      rw [hE] at hj
      have hp := h2 H toks e0 buf jb hres (by omega) hj hA
      rw [hE]
      simp
      refine X_keep hp ?_
      simp
    | cons c r =>
      have hql : q < rest.length := by have := congrArg List.length hd; simp at this; omega
      have hcr : (c :: r).length = rest.length - q := by rw [← hd, List.length_drop]
      have hpre2 : (pre ++ rest.take q) ++ c :: r = s := by rw [← hd, List.append_assoc, List.take_append_drop]; exact hr
      have hlen2 : (pre ++ rest.take q).length = pre.length + q := by rw [List.length_append, List.length_take]; omega
      have hi : s[pre.length + q]? = some c := by rw [← hpre2, ← hlen2]; simp
      have e1 : ((pre.length + q : Nat) : Int).toNat = pre.length + q := by omega
      have e2 : (0 : Int) ≤ ((pre.length + q : Nat) : Int) := by omega
      have e3 : ((pre.length + q : Nat) : Int) < (s.length : Int) := by omega
      have b1 := bF_at letZ c
      have b2 := bF_at digZ c
      have b3 := bF_at sgnZ c
      -- behind a token
      have step : ∀ (kd : Int) (n : Nat) (v : Int) (bs : Bs), tokL (c :: r) = .tok kd n v bs → ∃ buf' H', n ≤ (c :: r).length ∧
          aAppend Y (H ++ [.box (some 38) [.i kd, .str ((c :: r).take n), .i v, .str bs, .i (pre.length + q : Nat), .bool jb]]) 27 27 buf (.tight 6 [[.int .i64 kd, .str ((c :: r).take n), .int .i64 v, .str bs, .int .i64 (pre.length + q : Nat), .bool jb]]) = some (buf', H') ∧ live buf' = some buf' ∧
          F41 [.str s, .i (pre.length + q + n : Nat)] = some (.i (pre.length + q + n + skp false ((c :: r).drop n) : Nat)) ∧
          (s.take (pre.length + q + n)).drop (pre.length + q) = (c :: r).take n ∧
          X Y T15 rs15 F (.loop (loopN Tryd.f15 0)) ⟨mk 157 .J [(0, .str s), (5, buf'), (6, .i (pre.length + q + n : Nat)), (7, .i (pre.length + q + n + skp false ((c :: r).drop n) : Nat))], H'⟩ P := fun kd n v bs htk => by
        obtain ⟨⟨n1, n2⟩, _⟩ := tok_local htk
        have hA2 : Acc 38 6 (H ++ [.box (some 38) [.i kd, .str ((c :: r).take n), .i v, .str bs, .i (pre.length + q : Nat), .bool jb]]) (rfRow toks) buf := acc_push hA _
        obtain ⟨buf', H', a1, a2, nb, a3⟩ := app_fr (t := 27) (x := rfC ⟨kd, (c :: r).take n, v, bs, pre.length + q, jb⟩) 0 (by rfl) Y_38 (by decide) (by decide) (by decide) (by simp [rfRow, maxRow]; omega) hA2
        have a1' : aAppend Y (H ++ [.box (some 38) [.i kd, .str ((c :: r).take n), .i v, .str bs, .i (pre.length + q : Nat), .bool jb]]) 27 27 buf (.tight 6 [[.int .i64 kd, .str ((c :: r).take n), .int .i64 v, .str bs, .int .i64 (pre.length + q : Nat), .bool jb]]) = some (buf', H') := a1
        have hres : scanA (f + 1) toks pre.length rest = scanA f (toks ++ [⟨kd, (c :: r).take n, v, bs, pre.length + q, jb⟩]) (pre.length + q + n) ((c :: r).drop n) := by simp only [scanA, hq, hd, htk, hjb]
        have hlen3 : ((pre ++ rest.take q) ++ (c :: r).take n).length = pre.length + q + n := by rw [List.length_append, hlen2, List.length_take]; omega
        have hpre3 : ((pre ++ rest.take q) ++ (c :: r).take n) ++ (c :: r).drop n = s := by rw [List.append_assoc, List.take_append_drop]; exact hpre2
        have hdr : s.drop (pre.length + q + n) = (c :: r).drop n := by rw [← hpre3, ← hlen3]; exact List.drop_left
        have htd : (s.take (pre.length + q + n)).drop (pre.length + q) = (c :: r).take n := by
          rw [← hpre2, ← hlen2]; exact take_drop_at _ _ _
        have ih := loop15 (F := F) (P := P) hs f ((c :: r).drop n) ((pre ++ rest.take q) ++ (c :: r).take n) (toks ++ [⟨kd, (c :: r).take n, v, bs, pre.length + q, jb⟩]) (pre.length + q + n : Nat) buf' H' (by rw [List.length_drop]; omega) hpre3
          (by rw [hlen3, List.length_append, List.length_singleton]; omega) (.inr ⟨by simp, by rw [hlen3]⟩) (by rw [show rfRow (toks ++ [⟨kd, (c :: r).take n, v, bs, pre.length + q, jb⟩]) = rfRow toks ++ [rfC ⟨kd, (c :: r).take n, v, bs, pre.length + q, jb⟩] by simp [rfRow]]; exact a2)
          (by rw [hlen3, ← hres]; exact h1) (by rw [hlen3, ← hres]; exact h2)
        rw [hlen3] at ih
        refine ⟨buf', H', n2, a1', a2.live, ?_, htd, ih⟩
        rw [F41_at (by omega) (by omega), hdr]
      have bad : ∀ (o : Nat) (e : Int), tokL (c :: r) = .err o e → ∀ H', P (.tuple [.pv .nilSlice, .i (pre.length + q + o : Nat), .i e], H') := fun o e htk H' =>
        h1 H' _ _ (by simp only [scanA, hq, hd, htk])
      have hat : pre.length + q ≤ s.length := by omega
      by_cases q1 : letZ (z c) = true
      · have hwl : wrd (c :: r) ≤ (c :: r).length := take_while_le _
        have L : ∀ {F' : List Fr} {P' : SV × List Blk → Prop} {H' : List Blk}, X Y T15 rs15 F' (.exit 2) ⟨mk 157 .J [(0, .str s), (5, buf), (7, .i (pre.length + q : Nat)), (8, .ptr H.length 0), (9, .i (pre.length + q + wrd (c :: r) : Nat))], H'⟩ P' →
            X Y T15 rs15 F' (.loop (loopN Tryd.f15 1)) ⟨mk 157 .J [(0, .str s), (5, buf), (7, .i (pre.length + q : Nat)), (8, .ptr H.length 0), (9, .i (pre.length + q : Nat))], H'⟩ P' := fun {F' P' H'} hx => by
          have := loop15w (F := F') (P := P') (H := H') (by omega) buf (.i (pre.length + q : Nat)) (.ptr H.length 0) (c :: r) (pre ++ rest.take q) hpre2
          rw [hlen2] at this
          exact this hx
        have htk : tokL (c :: r) = if 64 < wrd (c :: r) then .err 0 5 else .tok 1 (wrd (c :: r)) 0 [] := by rw [tokL, if_pos q1]
        generalize wrd (c :: r) = n at *
        have w1 : IntKind.i64.wrap (((pre.length + q + n : Nat) : Int) - ((pre.length + q : Nat) : Int)) = (n : Int) := by rw [wrap64 (by omega) (by omega)]; omega
        by_cases h64 : 64 < n
        · have hb := bad 0 5 (by rw [htk, if_pos h64])
          rw [Nat.add_zero] at hb
          have h64' : (64 : Int) < (n : Int) := by omega
          generalize ((pre.length + q + n : Nat) : Int) = E2 at *
          generalize ((pre.length + q : Nat) : Int) = E at *
          simp [-Int.not_lt, -Int.not_le, -aAppend, -aLen, len_str, hlive, hlen, hmax, hmaxn, hi, e1, e2, e3, hj, T15_eq, set_last, get_last, b1, q1]
          refine X_keep (L ?_) (by simp)
          simp [-Int.not_lt, -Int.not_le, -aAppend, -aLen, len_str, hlive, hlen, hmax, hmaxn, hi, e1, e2, e3, hj, T15_eq, set_last, get_last, w1, h64, h64', hb]
        · have h64' : ¬ (64 : Int) < (n : Int) := by omega
          obtain ⟨buf', H', n2, a1, a2, a3, a4, a5⟩ := step 1 n 0 [] (by rw [htk, if_neg h64])
          have e4 : ((pre.length + q + n : Nat) : Int).toNat = pre.length + q + n := by omega
          have e5 : (0 : Int) ≤ ((pre.length + q + n : Nat) : Int) := by omega
          have e6 : pre.length + q + n ≤ s.length := by omega
          generalize ((pre.length + q + n + skp false ((c :: r).drop n) : Nat) : Int) = E3 at *
          generalize ((pre.length + q + n : Nat) : Int) = E2 at *
          generalize ((pre.length + q : Nat) : Int) = E at *
          simp [-Int.not_lt, -Int.not_le, -aAppend, -aLen, len_str, hlive, hlen, hmax, hmaxn, hi, e1, e2, e3, hj, T15_eq, set_last, get_last, b1, q1]
          refine X_keep (L ?_) (by simp)
          simp [-Int.not_lt, -Int.not_le, -aAppend, -getElem?_pos, List.getElem?_cons_zero, List.getElem?_cons_succ, hlive, e1, e2, e3, T15_eq, set_last, get_last, cells_pv, cells_ptr, cells_agg, e4, e5, e6, a1, a2, a3, a4, w1, h64, h64']
          refine X_keep a5 ?_
          simp
      have q1' : letZ (z c) = false := by simpa using q1
      by_cases q2 : digZ (z c) = true
      · have hwl : dgs (c :: r) ≤ (c :: r).length := take_while_le _
        have hw1 : 1 ≤ dgs (c :: r) := by unfold dgs; simp [q2]
        have hdt : (c :: r).take (dgs (c :: r)) = (c :: r).takeWhile fun c => digZ (z c) := take_while_len _
        have hda : (((c :: r).take (dgs (c :: r))).all fun c => digZ (z c)) = true := by
          rw [hdt, List.all_eq_true]; exact take_while_all _
        have L : ∀ {F' : List Fr} {P' : SV × List Blk → Prop} {H' : List Blk}, X Y T15 rs15 F' (.exit 4) ⟨mk 157 .J [(0, .str s), (5, buf), (7, .i (pre.length + q : Nat)), (8, .ptr H.length 0), (9, .i (pre.length + q + dgs (c :: r) : Nat))], H'⟩ P' →
            X Y T15 rs15 F' (.loop (loopN Tryd.f15 2)) ⟨mk 157 .J [(0, .str s), (5, buf), (7, .i (pre.length + q : Nat)), (8, .ptr H.length 0), (9, .i (pre.length + q : Nat))], H'⟩ P' := fun {F' P' H'} hx => by
          have := loop15d (F := F') (P := P') (H := H') (by omega) buf (.i (pre.length + q : Nat)) (.ptr H.length 0) (c :: r) (pre ++ rest.take q) hpre2
          rw [hlen2] at this
          exact this hx
        have htk : tokL (c :: r) = if 15 < dgs (c :: r) then .err 0 5 else .tok 2 (dgs (c :: r)) (valZ ((c :: r).take (dgs (c :: r)))) [] := by rw [tokL, if_neg q1, if_pos q2]
        generalize dgs (c :: r) = n at *
        have w1 : IntKind.i64.wrap (((pre.length + q + n : Nat) : Int) - ((pre.length + q : Nat) : Int)) = (n : Int) := by rw [wrap64 (by omega) (by omega)]; omega
        by_cases h15 : 15 < n
        · have hb := bad 0 5 (by rw [htk, if_pos h15])
          rw [Nat.add_zero] at hb
          have h15' : (15 : Int) < (n : Int) := by omega
          generalize ((pre.length + q + n : Nat) : Int) = E2 at *
          generalize ((pre.length + q : Nat) : Int) = E at *
          simp [-Int.not_lt, -Int.not_le, -aAppend, -aLen, len_str, hlive, hlen, hmax, hmaxn, hi, e1, e2, e3, hj, T15_eq, set_last, get_last, b1, q1', b2, q2]
          refine X_keep (L ?_) (by simp)
          simp [-Int.not_lt, -Int.not_le, -aAppend, -aLen, len_str, hlive, hlen, hmax, hmaxn, hi, e1, e2, e3, hj, T15_eq, set_last, get_last, w1, h15, h15', hb]
        · have h15' : ¬ (15 : Int) < (n : Int) := by omega
          obtain ⟨buf', H', n2, a1, a2, a3, a4, a5⟩ := step 2 n (valZ ((c :: r).take n)) [] (by rw [htk, if_neg h15])
          have hln : ((c :: r).take n).length = n := by rw [List.length_take]; omega
          have M : ∀ {F' : List Fr} {P' : SV × List Blk → Prop}, X Y T15 rs15 F' (.exit 6) ⟨mk 157 .J [(0, .str s), (5, buf), (7, .i (pre.length + q : Nat)), (8, .ptr H.length 0), (9, .i (pre.length + q + n : Nat))], H ++ [tB 2 (valZ ((c :: r).take n)) (.i (pre.length + q : Nat)) (.bool jb)]⟩ P' →
              X Y T15 rs15 F' (.loop (loopN Tryd.f15 3)) ⟨mk 157 .J [(0, .str s), (5, buf), (7, .i (pre.length + q : Nat)), (8, .ptr H.length 0), (9, .i (pre.length + q + n : Nat)), (10, .i (pre.length + q : Nat))], H ++ [tB 2 0 (.i (pre.length + q : Nat)) (.bool jb)]⟩ P' := fun {F' P'} hx => by
            have := loop15v (F := F') (P := P') (H := H) (n := pre.length + q + n) (s := s) (by omega) buf (.i (pre.length + q : Nat)) (.i (pre.length + q : Nat)) (.bool jb) ((c :: r).take n) (pre ++ rest.take q) 0 1 ⟨(c :: r).drop n, by rw [List.append_assoc, List.take_append_drop]; exact hpre2⟩ (by rw [hlen2, hln]) hda (by omega) (by omega) (by
              rw [hln, Nat.one_mul]; exact Nat.pow_le_pow_right (n := 10) (by decide) (show n ≤ 15 by omega))
            rw [hlen2] at this
            exact this hx
          generalize valZ ((c :: r).take n) = V at *
          have e4 : ((pre.length + q + n : Nat) : Int).toNat = pre.length + q + n := by omega
          have e5 : (0 : Int) ≤ ((pre.length + q + n : Nat) : Int) := by omega
          have e6 : pre.length + q + n ≤ s.length := by omega
          generalize ((pre.length + q + n + skp false ((c :: r).drop n) : Nat) : Int) = E3 at *
          generalize ((pre.length + q + n : Nat) : Int) = E2 at *
          generalize ((pre.length + q : Nat) : Int) = E at *
          simp [-Int.not_lt, -Int.not_le, -aAppend, -aLen, len_str, hlive, hlen, hmax, hmaxn, hi, e1, e2, e3, hj, T15_eq, set_last, get_last, b1, q1', b2, q2]
          refine X_keep (L ?_) (by simp)
          simp [-Int.not_lt, -Int.not_le, -aAppend, -aLen, len_str, hlive, hlen, hmax, hmaxn, hi, e1, e2, e3, hj, T15_eq, set_last, get_last, w1, h15, h15']
          refine X_keep (M ?_) (by simp)
          simp [-Int.not_lt, -Int.not_le, -aAppend, -getElem?_pos, List.getElem?_cons_zero, List.getElem?_cons_succ, hlive, e1, e2, e3, T15_eq, set_last, get_last, cells_pv, cells_ptr, cells_agg, e4, e5, e6, a1, a2, a3, a4, w1, h15, h15']
          refine X_keep a5 ?_
          simp
      have q2' : digZ (z c) = false := by simpa using q2
      by_cases q3 : z c = 34
      · have q3' : (c.toNat : Int) = 34 := q3
        have q3n : c.toNat = 34 := by omega
        have b1' : bF letZ [u8 34] = some (.bool false) := rfl
        have b2' : bF digZ [u8 34] = some (.bool false) := rfl
        have hdr : s.drop (pre.length + q + 1) = r := by rw [← hpre2, ← hlen2, List.drop_append, List.drop_eq_nil_of_le (by omega)]; simp
        have hF := F44_at (s := s) (n := pre.length + q) (by omega) (by omega)
        rw [hdr] at hF
        have htk : tokL (c :: r) = strT r := by rw [tokL, if_neg q1, if_neg q2, if_pos q3]
        unfold strT at htk
        unfold strR at hF
        cases hA : strA (r.length + 1) 1 [] r with
        | short =>
          rw [hA] at htk hF
          have hb := bad 0 4 htk
          rw [Nat.add_zero] at hb
          generalize ((pre.length + q : Nat) : Int) = E at *
          simp [-Int.not_lt, -Int.not_le, -aAppend, -aLen, len_str, hlive, hlen, hmax, hmaxn, hi, e1, e2, e3, hj, T15_eq, set_last, get_last, q3', q3n, b1', b2', hF, hb]
        | bad o =>
          rw [hA] at htk hF
          have hb := bad o 6 htk
          simp only [] at hF
          generalize ((pre.length + q + o : Nat) : Int) = E2 at *
          generalize ((pre.length + q : Nat) : Int) = E at *
          simp [-Int.not_lt, -Int.not_le, -aAppend, -aLen, len_str, hlive, hlen, hmax, hmaxn, hi, e1, e2, e3, hj, T15_eq, set_last, get_last, q3', q3n, b1', b2', hF, hb]
        | ok n bs =>
          rw [hA] at htk hF
          simp only [] at hF htk
          by_cases h4 : 4096 < bs.length
          · rw [if_pos h4] at htk hF
            have hb := bad 0 5 htk
            rw [Nat.add_zero] at hb
            generalize ((pre.length + q : Nat) : Int) = E at *
            simp [-Int.not_lt, -Int.not_le, -aAppend, -aLen, len_str, hlive, hlen, hmax, hmaxn, hi, e1, e2, e3, hj, T15_eq, set_last, get_last, q3', q3n, b1', b2', hF, hb]
          · rw [if_neg h4] at htk hF
            obtain ⟨buf', H', n2, a1, a2, a3, a4, a5⟩ := step 3 n 0 bs htk
            have e4 : ((pre.length + q + n : Nat) : Int).toNat = pre.length + q + n := by omega
            have e5 : (0 : Int) ≤ ((pre.length + q + n : Nat) : Int) := by omega
            have e6 : pre.length + q + n ≤ s.length := by omega
            generalize ((pre.length + q + n + skp false ((c :: r).drop n) : Nat) : Int) = E3 at *
            generalize ((pre.length + q + n : Nat) : Int) = E2 at *
            generalize ((pre.length + q : Nat) : Int) = E at *
            simp [-Int.not_lt, -Int.not_le, -aAppend, -aLen, len_str, hlive, hlen, hmax, hmaxn, hi, e1, e2, e3, hj, T15_eq, set_last, get_last, cells_pv, cells_ptr, cells_agg, e4, e5, e6, a1, a2, a3, a4, q3', q3n, b1', b2', hF]
            refine X_keep a5 ?_
            simp
      have q3' : ¬ (c.toNat : Int) = 34 := q3
      have q3n : ¬ c.toNat = 34 := by omega
      by_cases q4 : sgnZ (z c) = true
      · have htk : tokL (c :: r) = .tok 4 1 0 [] := by rw [tokL, if_neg q1, if_neg q2, if_neg q3, if_pos q4]
        obtain ⟨buf', H', n2, a1, a2, a3, a4, a5⟩ := step 4 1 0 [] htk
        have ht1 : (c :: r).take 1 = [c] := rfl
        rw [ht1] at a1 a4
        have e4 : ((pre.length + q + 1 : Nat) : Int).toNat = pre.length + q + 1 := by omega
        have e5 : (0 : Int) ≤ ((pre.length + q + 1 : Nat) : Int) := by omega
        have e6 : pre.length + q + 1 ≤ s.length := by omega
        have w1 : IntKind.i64.wrap (((pre.length + q : Nat) : Int) + 1) = ((pre.length + q + 1 : Nat) : Int) := by rw [wrap64 (by omega) (by omega)]; omega
        generalize ((pre.length + q + 1 + skp false ((c :: r).drop 1) : Nat) : Int) = E3 at *
        generalize ((pre.length + q + 1 : Nat) : Int) = E2 at *
        generalize ((pre.length + q : Nat) : Int) = E at *
        simp [-Int.not_lt, -Int.not_le, -aAppend, -aLen, len_str, hlive, hlen, hmax, hmaxn, hi, e1, e2, e3, hj, T15_eq, set_last, get_last, cells_pv, cells_ptr, cells_agg, e4, e5, e6, a1, a2, a3, a4, b1, q1', b2, q2', q3', q3n, b3, q4, w1]
        refine X_keep a5 ?_
        simp
      · have q4' : sgnZ (z c) = false := by simpa using q4
        have htk : tokL (c :: r) = .err 0 6 := by rw [tokL, if_neg q1, if_neg q2, if_neg q3, if_neg q4]
        have hb := bad 0 6 htk
        rw [Nat.add_zero] at hb
        generalize ((pre.length + q : Nat) : Int) = E at *
        simp [-Int.not_lt, -Int.not_le, -aAppend, -aLen, len_str, hlive, hlen, hmax, hmaxn, hi, e1, e2, e3, hj, T15_eq, set_last, get_last, b1, q1', b2, q2', q3', q3n, b3, q4', hb]
/-- What the reference's Scan returns. -/
def refR (s : Bs) : SV := match scan s with
  | .ok m => .tuple [.fresh 38 6 (rfRow m), .i 0, .i 0]
  | .error (o, e) => .tuple [.pv .nilSlice, .i o, .i e]
def F15 : List SV → Option SV
  | [.pv (.str s)] => if s.length ≤ 200000 then some (refR s) else none
  | _ => none
theorem scanA_last : ∀ (f : Nat) (acc : List Tk) (pos : Nat) (rest : Bs) (m : List Tk), scanA f acc pos rest = .ok m → ∃ m' jb, m = m' ++ [⟨0, [], 0, [], pos + rest.length, jb⟩] ∧ m'.length ≤ acc.length + rest.length
  | 0, acc, pos, rest, m, h => by cases h
  | f + 1, acc, pos, rest, m, h => by
    simp only [scanA] at h
    have hle := skp_le rest false
    split at h
    · rename_i hd
      have : rest.length - skp false rest = 0 := by rw [← List.length_drop, hd]; rfl
      cases h
      exact ⟨acc, _, by rw [show skp false rest = rest.length by omega], by omega⟩
    · rename_i c r hd
      have hcr : (c :: r).length = rest.length - skp false rest := by rw [← hd, List.length_drop]
      split at h
      · cases h
      · rename_i kd n v bs ht
        obtain ⟨⟨n1, n2⟩, _⟩ := tok_local ht
        obtain ⟨m', jb, h1, h2⟩ := scanA_last f _ _ _ _ h
        rw [List.length_drop] at h1 h2
        rw [show pos + skp false rest + n + ((c :: r).length - n) = pos + rest.length by omega] at h1
        refine ⟨m', jb, h1, ?_⟩
        rw [List.length_append, List.length_singleton] at h2
        omega
theorem scan_last {s : Bs} {m : List Tk} (h : scan s = .ok m) : ∃ m' jb, m = m' ++ [⟨0, [], 0, [], s.length, jb⟩] ∧ m'.length ≤ s.length := by
  obtain ⟨m', jb, h1, h2⟩ := scanA_last _ _ _ _ _ h
  exact ⟨m', jb, by simpa using h1, by simpa using h2⟩
theorem meets15 (W0 : World) : Enterable Tryd.prog 15 ∧ Meets Tryd.prog W0 15 (specFn (.pure true F15)) :=
  meets_fn env (tok15 W0) mixed Tryd.func15 (by kernel_rfl) (by kernel_rfl) fun args r h => by
    unfold F15 at h
    split at h
    · rename_i s
      split at h
      · rename_i hs
        cases h
        unfold XFn Tryd.f15
        rw [enter_1 _ (by decide)]
        have hlong : ¬ (1048576 : Int) < (s.length : Int) := by omega
        have hlongn : ¬ 1048576 < s.length := by omega
        have hF := F41_at (s := s) (n := 0) (by omega) (by omega)
        have hF : F41 [.str s, .i 0] = some (.i (([] : Bs).length + skp false s : Nat)) := by simpa using hF
        generalize hE : ((([] : Bs).length + skp false s : Nat) : Int) = E at *
        simp [-Int.not_lt, hlong, hlongn, T15_eq, hF]
        rw [← hE]
        refine X_keep (loop15 hs (s.length + 1) s [] [] (-1) (.pv .nilSlice) _ (by omega) rfl (by simp) (.inl ⟨rfl, rfl⟩) (.inl ⟨rfl, rfl⟩) ?_ ?_) ?_
        · intro H' o e hq
          have hq' : scan s = .error (o, e) := hq
          unfold refR
          rw [hq']
          simp [Is_mk, outR, outL, outP]
        · intro H' m e1 buf' jb hq hm hj hA
          have hq' : scan s = .ok (m ++ [⟨0, [], 0, [], s.length, jb⟩]) := hq
          obtain ⟨out', H2, a1, a2, nb, a3⟩ := app_fr (t := 27) (x := rfC ⟨0, [], 0, [], s.length, jb⟩) 0 (by rfl) Y_38 (by decide) (by decide) (by decide) (by simp [rfRow, maxRow]; omega) hA
          have a1 : aAppend Y H' 27 27 buf' (.tight 6 [[.int .i64 0, .str [], .int .i64 0, .str [], .int .i64 s.length, .bool jb]]) = some (out', H2) := a1
          have a2' : Acc 38 6 H2 (rfRow m ++ [rfC ⟨0, [], 0, [], s.length, jb⟩]) out' := a2
          unfold refR
          rw [hq']
          have hl2 := a2'.live
          rcases a2' with ⟨c1, _⟩ | ⟨c1, kt, u, rfl, c2⟩
          · simp at c1
          · simp [-aAppend, hA.live, a1, hj, Is_mk, outR, outL, outP, c2, rfRow]
        · simp
      · cases h
    · cases h
end Go.Proofs.YtkbfgmneibabgaaDoor
