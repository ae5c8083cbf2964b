/- The law of the divisions, by the machine. -/
import Derived.Test.YtooajpojikkkdaaDoorMetreS
set_option linter.unusedSimpArgs false
set_option linter.unusedVariables false
set_option maxRecDepth 1000000
set_option maxHeartbeats 400000
namespace Go.Proofs.YtooajpojikkkdaaDoor
open Go Go.Pm Go.RowKit
noncomputable def T4 : FuncId → Option Pm.Spec := tab [(13, .pure false F13), (17, .pure false F17), (14, .pure false F14), (18, .pure false F67), (16, .pure false F16)]
theorem T4_eq (g : Nat) : T4 g = tab [(13, .pure false F13), (17, .pure false F17), (14, .pure false F14), (18, .pure false F67), (16, .pure false F16)] g := rfl
theorem tok4 (W0 : World) : TOk Tryd.prog W0 T4 := tok_cons (meets13 W0) (tok_cons (meets17 W0) (tok_cons (meets14 W0) (tok_cons (meets18 W0) (tok_cons (meets16 W0) tok_nil))))
theorem splitR_good {c u a b : Int} {gs : List Int} (h : okM c u gs) (hd : dom2 a b) : splitR c u gs a b = (sp (levelZ c u gs) a b, 0) := by
  obtain ⟨⟨d1, d2, d3, d4⟩, d5, d6⟩ := hd
  unfold splitR
  rw [okM_chk.1 h, if_neg (by simp), if_neg (by omega), if_neg (by omega), if_neg (by omega)]
theorem u16_tick {n : Int} (w : (Lit.int .u16 n).wf = true) : IntKind.i64.wrap n = n ∧ n.tmod 2048 = n % 2048 ∧ IntKind.i64.wrap (n % 2048 * 7560) = n % 2048 * 7560 ∧ 0 ≤ n % 2048 * 7560 ∧ n % 2048 * 7560 ≤ 15475320 := by
  have hn : 0 ≤ n ∧ n ≤ 65535 := by simpa [Lit.wf, IntKind.min, IntKind.max, IntKind.signed, IntKind.bits] using w
  exact ⟨wrap64 (by omega) (by omega), Int.tmod_eq_emod_of_nonneg hn.1, wrap64 (by omega) (by omega), by omega, by omega⟩
theorem dom_of {x y : Int} (hx : 0 ≤ x % 2048 * 7560 ∧ x % 2048 * 7560 ≤ 15475320) (hy : 0 ≤ y % 2048 * 7560 ∧ y % 2048 * 7560 ≤ 15475320) : dom2 (x % 2048 * 7560) (x % 2048 * 7560 + y % 2048 * 7560) :=
  ⟨⟨by omega, by omega, by omega, by omega⟩, by omega, by omega⟩
theorem app_one (H : List Blk) (v : Int × Int) (r : List (Int × Int)) (hr : r.length ≤ 2048) :
    ∃ H', aAppend Y H 26 26 (.tight 2 []) (.tight 2 (rowV [v])) = some (.own H.length 0 2 (rowV [v]), H ++ [Blk.tok 0 36]) ∧
      aAppend Y (H ++ [Blk.tok 0 36]) 26 26 (.own H.length 0 2 (rowV [v])) (plainV r) = some (.own H.length (if r = [] then 0 else 1) 2 (rowV (v :: r)), H') := by
  have e1 : Y 26 = some ⟨.slice 36, 1, 24, [.nilSlice], []⟩ := rfl
  have e2 : Y 36 = some ⟨.struct [(0, 3), (1, 3)], 2, 16, [.int .i64 0, .int .i64 0], [.int .i64, .int .i64]⟩ := rfl
  have first : aAppend Y H 26 26 (.tight 2 []) (.tight 2 (rowV [v])) = some (.own H.length 0 2 (rowV [v]), H ++ [Blk.tok 0 36]) := by
    have hm : (0 + 1) * 16 ≤ maxRow := by decide
    have hm2 : 0 + 1 ≤ maxRow := by decide
    simp only [aAppend, kindOf, e1, e2, sliceElems, rowV, List.map_cons, List.map_nil, List.isEmpty_cons, ne_eq, not_true_eq_false, if_false, Bool.false_eq_true, List.length_nil, List.length_cons, List.nil_append]
    rw [if_pos ⟨rfl, rfl, by decide, hm, by decide, by decide, hm2⟩]
  cases r with
  | nil =>
    refine ⟨H ++ [Blk.tok 0 36], first, ?_⟩
    simp [aAppend, kindOf, e1, e2, sliceElems, rowV, plainV]
  | cons w r =>
    refine ⟨(H ++ [Blk.tok 0 36]).set H.length (.tok 1 36), first, ?_⟩
    obtain ⟨s1, s2⟩ := elems_plain (w :: r)
    have hc1 : ((rowV [v]).length + (rowV (w :: r)).length) * 16 ≤ maxRow := by rw [rowV_len, rowV_len]; unfold maxRow; simp at hr ⊢; omega
    have hc2 : (rowV [v]).length + (rowV (w :: r)).length ≤ maxRow := by rw [rowV_len, rowV_len]; unfold maxRow; simp at hr ⊢; omega
    have s0 : sliceElems (.own H.length 0 2 (rowV [v])) = some (rowV [v]) := rfl
    have hne : (rowV (w :: r)).isEmpty = false := rfl
    generalize plainV (w :: r) = x at *
    simp only [aAppend, kindOf, e1, e2, s0, s1, hne, ne_eq, not_true_eq_false, if_false, Bool.false_eq_true]
    rw [if_pos ⟨rfl, s2, by decide, hc1, by decide, by decide, hc2⟩]
    simp [rowV]
theorem x4 (c u g0 g1 g2 g3 g4 g5 x y : Int) (wx : (Lit.int .u16 x).wf = true) (wy : (Lit.int .u16 y).wf = true) : XFn Y T4 Tryd.f4 [.agg (M8 c u g0 g1 g2 g3 g4 g5), .int .u16 x, .int .u16 y] [] (Is (.bool true)) := by
  unfold XFn Tryd.f4
  rw [enter_3 _ (by decide)]
  by_cases h0 : chkM c u [g0, g1, g2, g3, g4, g5] = 0
  · have h := okM_chk.2 h0
    obtain ⟨x1, x2, x3, x4, x5⟩ := u16_tick wx
    obtain ⟨y1, y2, y3, y4, y5⟩ := u16_tick wy
    have hd := dom_of ⟨x4, x5⟩ ⟨y4, y5⟩
    have hlv := level_range c u [g0, g1, g2, g3, g4, g5]
    have q1 : IntKind.i64.wrap (x % 2048 * 7560 + y % 2048 * 7560) = x % 2048 * 7560 + y % 2048 * 7560 := wrap64 (by omega) (by omega)
    have hS : ∀ a b, dom2 a b → F14 [.agg (M8 c u g0 g1 g2 g3 g4 g5), .i a, .i b] = some (.tuple [plainV (sp (levelZ c u [g0, g1, g2, g3, g4, g5]) a b), .i 0]) := fun a b hd => by
      simp [F14, splitR_good h hd]
    have hlen := splitR_len c u g0 g1 g2 g3 g4 g5 (x % 2048 * 7560) (x % 2048 * 7560 + y % 2048 * 7560)
    rw [splitR_good h hd] at hlen
    generalize ha : x % 2048 * 7560 = a at *
    generalize hb : a + y % 2048 * 7560 = b at *
    have hab := hS a b hd
    cases hl : sp (levelZ c u [g0, g1, g2, g3, g4, g5]) a b with
    | nil =>
      have : a = b := Decidable.byContradiction fun e => sp_ne hlv hd e hl
      rw [hl] at hab
      subst this
      simp [-Int.not_lt, -Int.not_le, T4_eq, F13, F17, F26, h0, x1, x2, x3, y1, y2, y3, ha, hb, q1, hab, plainV]
    | cons v r =>
      obtain ⟨⟨i1, i2⟩, i3, i4, i5, i6, i7⟩ := sp_div hlv 2049 a b hd (by have := hd.1.2.2.2; omega) v r hl
      have hac := hS a _ i3
      have hcb := hS _ b i4
      rw [hl] at hab hlen
      rw [i6] at hac
      rw [i7] at hcb
      obtain ⟨n1, n2⟩ := find_tk i5.1
      rw [show a + tkZ v - a = tkZ v by omega] at n1 n2
      have hv : ∃ i : Fin 40, v = V i := by
        have := sp_leaf (lv := levelZ c u [g0, g1, g2, g3, g4, g5]) (a := a) (b := a + tkZ v) (by omega) i5
        rw [i6, show a + tkZ v - a = tkZ v by omega] at this
        obtain ⟨i, hi⟩ := n2
        exact ⟨i, by rw [← hi]; exact (List.cons.inj this).1⟩
      obtain ⟨iv, hiv⟩ := hv
      have hr := V_range iv
      rw [← hiv] at hr
      have q2 : IntKind.i64.wrap (a + tkZ v) = a + tkZ v := wrap64 (by have := hd.1; unfold domS at this; omega) (by have := hd.1; unfold domS at this; omega)
      obtain ⟨v1, v2⟩ := v
      have hF : F67 [.agg [.i v1, .i v2]] = some (.i (tkZ (v1, v2))) := by simp [F67, hr]
      generalize tkZ (v1, v2) = t at *
      simp only [List.length_cons] at hlen
      have hf16 : F16 [argV ((v1, v2) :: r), argV ((v1, v2) :: r)] = some (.bool true) := by
        simp only [F16, unV_arg]
        rw [if_pos (by simp; omega)]; simp
      have gz : ∀ {α : Type} (b : α) (l : List α), (b :: l)[0]? = some b := fun _ _ => rfl
      obtain ⟨H', p1, p2⟩ := app_one [.box (M8 c u g0 g1 g2 g3 g4 g5)] (v1, v2) r (by omega)
      have r0 : (rowV [(v1, v2)]) = [[.int .i64 v1, .int .i64 v2]] := rfl
      cases r with
      | nil =>
        rw [r0] at p1 p2
        simp [-aAppend, plainV] at p1 p2
        rw [argV, r0] at hf16
        simp [-aAppend, -Int.not_lt, -Int.not_le, T4_eq, F13, F17, F26, h0, x1, x2, x3, y1, y2, y3, ha, hb, q1, hab, hac, hcb, hF, q2, plainV, gz, p1, p2, r0, hf16]
        intro z; cases z
      | cons w r =>
        have r1 : rowV ((v1, v2) :: w :: r) = [.int .i64 v1, .int .i64 v2] :: rowV (w :: r) := rfl
        rw [argV, r1] at hf16
        · rw [r1, r0] at p2
          rw [r0] at p1
          have hv : plainV ((v1, v2) :: w :: r) = .pv (.slice 2 ([.int .i64 v1, .int .i64 v2] :: rowV (w :: r))) := rfl
          have h1 : plainV [(v1, v2)] = .tight 2 [[.int .i64 v1, .int .i64 v2]] := rfl
          rw [hv] at hab
          rw [h1] at hac
          have lw := live_plain (w :: r)
          have pw := fun fr H => place_again fr H (w :: r)
          have ln := rowV_len (w :: r)
          have k1 : ∀ fr H p, place fr H (.pv p) = some (.pv p, H) := fun _ _ _ => rfl
          have k2 : ∀ fr H s es, place fr H (.tight s es) = some (.tight s es, H) := fun _ _ _ _ => rfl
          have k3 : ¬ ((r.length : Int) + 1 + 1 = 0) := by omega
          generalize plainV (w :: r) = R at *
          generalize rowV (w :: r) = rr at *
          simp [-aAppend] at p1 p2
          simp [-aAppend, -Int.not_lt, -Int.not_le, T4_eq, F13, F17, F26, h0, x1, x2, x3, y1, y2, y3, ha, hb, q1, hab, hac, hcb, hF, q2, gz, p1, p2, hf16, lw, pw, ln, -place, k1, k2, k3]
        · intro z; cases z
  · simp [T4_eq, F13, F17, F26, h0]
end Go.Proofs.YtooajpojikkkdaaDoor
