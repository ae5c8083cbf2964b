/- The law of the sums, by the machine. -/
import Derived.Test.YtooajpojikkkdaaDoorMetreV
set_option linter.unusedSimpArgs false
set_option linter.unusedVariables false
set_option maxRecDepth 1000000
set_option maxHeartbeats 400000
namespace Go.Proofs.YtooajpojikkkdaaDoor
open Go Go.Pm Go.RowKit
noncomputable def T8 : FuncId → Option Pm.Spec := tab [(13, .pure false F13), (17, .pure false F17), (14, .pure false F14), (20, .pure false F20), (18, .pure false F67), (30, .pure false F30)]
theorem T8_eq (g : Nat) : T8 g = tab [(13, .pure false F13), (17, .pure false F17), (14, .pure false F14), (20, .pure false F20), (18, .pure false F67), (30, .pure false F30)] g := rfl
theorem tok8 (W0 : World) : TOk Tryd.prog W0 T8 := tok_cons (meets13 W0) (tok_cons (meets17 W0) (tok_cons (meets14 W0) (tok_cons (meets20 W0) (tok_cons (meets18 W0) (tok_cons (meets30 W0) tok_nil)))))
theorem loop8 {F : List Fr} {P : SV × List Blk → Prop} {rs : List ResultVar} {H : List Blk} (l : List (Int × Int)) (hl : l.length ≤ 1024) (n a b : Int) (hn : 0 < n ∧ n ≤ 123863040) (hb : b ≤ 4398046511104) : ∀ (r m : Nat) (x : Int), m + r = l.length → 0 ≤ x → chainZ n x b (l.drop m) →
    X Y T8 rs F (.exit 0) ⟨mk 101 .J [(7, .i a), (8, .i b), (9, plainV l), (12, .i b)], H⟩ P →
    X Y T8 rs F (.loop (loopN Tryd.f8 0)) ⟨mk 101 .J [(7, .i a), (8, .i b), (9, plainV l), (11, .i n), (12, .i x), (13, .i (m : Nat))], H⟩ P := by
  intro r
  induction r with
  | zero =>
    intro m x e h0 hc hx
    have q2 : ¬ (m : Int) < (l.length : Int) := by omega
    rw [List.drop_eq_nil_of_le (by omega)] at hc
    have hxb : x = b := hc
    subst hxb
    apply X_loop_of
    · simp only [loopN, Tryd.f8, loopsOf, List.nil_append, List.append_nil, List.cons_append, List.getD_cons_succ, List.getD_cons_zero]; rfl
    simp [-Int.not_lt, -Int.not_le, -aLen, -aIndexAddr, live_plain, len_plain, q2]
    refine X_keep hx ?_
    simp
  | succ r ih =>
    intro m x e h0 hc hx
    have hml : m < l.length := by omega
    have q2 : (m : Int) < (l.length : Int) := by omega
    have q3 := next_i (m := m) (by omega)
    have r1 := at_plain hml
    have e1 : l.drop m = l.getD m (0, 0) :: l.drop (m + 1) := by rw [List.drop_eq_getElem_cons hml]; simp [hml]
    rw [e1] at hc
    generalize l.getD m (0, 0) = v at *
    obtain ⟨⟨i, hi⟩, ⟨c1, c2⟩, c3, c4⟩ := hc
    have hr := V_range i
    rw [← hi] at hr
    obtain ⟨v1, v2⟩ := v
    have hF : F67 [.agg [.i v1, .i v2]] = some (.i (tkZ (v1, v2))) := by
      simp only [F67]; rw [if_pos hr]
    generalize tkZ (v1, v2) = t at *
    have q4 : IntKind.i64.wrap (x + t) = x + t := wrap64 (by omega) (by omega)
    have q5 : IntKind.i64.wrap (x + t - 1) = x + t - 1 := wrap64 (by omega) (by omega)
    have d1 : x.tmod n = x % n := Int.tmod_eq_emod_of_nonneg h0
    have d2 : x.tdiv n = x / n := Int.tdiv_eq_ediv_of_nonneg h0
    have d3 : (x + t - 1).tdiv n = (x + t - 1) / n := Int.tdiv_eq_ediv_of_nonneg (by omega)
    have n0 : ¬ n = 0 := by omega
    have g1 : 0 ≤ x / n := Int.ediv_nonneg h0 (by omega)
    have g2 : x / n ≤ x := Int.ediv_le_self _ h0
    have d4 : IntKind.i64.wrap (x / n) = x / n := wrap64 (by omega) (by omega)
    apply X_loop_of
    · simp only [loopN, Tryd.f8, loopsOf, List.nil_append, List.append_nil, List.cons_append, List.getD_cons_succ, List.getD_cons_zero]; rfl
    by_cases hz : x % n = 0
    · simp [-Int.natCast_add, -Int.not_lt, -Int.not_le, -aLen, -aIndexAddr, live_plain, len_plain, q2, q3, q4, q5, r1, T8_eq, hF, d1, d2, d3, d4, n0, hz]
      refine X_keep (ih (m + 1) (x + t) (by omega) (by omega) c4 hx) ?_
      simp [-Int.natCast_add]
    · have hq := c3 hz
      rw [hq] at d2 d4
      simp [-Int.natCast_add, -Int.not_lt, -Int.not_le, -aLen, -aIndexAddr, live_plain, len_plain, q2, q3, q4, q5, r1, T8_eq, hF, d1, d2, d3, d4, n0, hz]
      refine X_keep (ih (m + 1) (x + t) (by omega) (by omega) c4 hx) ?_
      simp [-Int.natCast_add]
theorem x8 (c u g0 g1 g2 g3 g4 g5 x y : Int) (wx : (Lit.int .u16 x).wf = true) (wy : (Lit.int .u16 y).wf = true) : XFn Y T8 Tryd.f8 [.agg (M8 c u g0 g1 g2 g3 g4 g5), .int .u16 x, .int .u16 y] [] (Is (.bool true)) := by
  unfold XFn Tryd.f8
  rw [enter_3 _ (by decide)]
  by_cases h0 : chkM c u [g0, g1, g2, g3, g4, g5] = 0
  · have h := okM_chk.2 h0
    obtain ⟨x1, x2, x3, x4, x5⟩ := u16_tick wx
    obtain ⟨y1, y2, y3, y4, y5⟩ := u16_tick wy
    have hd := dom_of ⟨x4, x5⟩ ⟨y4, y5⟩
    have hlv := level_range c u [g0, g1, g2, g3, g4, g5]
    have hn := lenZ_range h.1 h.2.1
    have q1 : IntKind.i64.wrap (x % 2048 * 7560 + y % 2048 * 7560) = x % 2048 * 7560 + y % 2048 * 7560 := wrap64 (by omega) (by omega)
    have hab : F14 [.agg (M8 c u g0 g1 g2 g3 g4 g5), .i (x % 2048 * 7560), .i (x % 2048 * 7560 + y % 2048 * 7560)] = some (.tuple [plainV (sp (levelZ c u [g0, g1, g2, g3, g4, g5]) (x % 2048 * 7560) (x % 2048 * 7560 + y % 2048 * 7560)), .i 0]) := by
      simp [F14, splitR_good h hd]
    have hfew := sp_few hlv (unit_seven h.2.1) (fun t => level_unit h rfl) (fun t => level_sub h rfl) hd (by omega)
    have hch := sp_chain hlv (by omega) (len_seven h.2.1) (fun t => level_bar h) _ _ _ hd rfl
    have q6 : IntKind.i64.wrap (x % 2048 * 7560 + y % 2048 * 7560 - x % 2048 * 7560) = x % 2048 * 7560 + y % 2048 * 7560 - x % 2048 * 7560 := wrap64 (by omega) (by omega)
    generalize hA : x % 2048 * 7560 = a at *
    generalize hB : a + y % 2048 * 7560 = b at *
    generalize sp (levelZ c u [g0, g1, g2, g3, g4, g5]) a b = l at *
    have hs := chain_sum _ _ _ hch
    have hok := chain_ok _ _ _ hch
    have h30 : F30 [argV l] = some (.tuple [.i (b - a), .i 0]) := by
      simp only [F30, unV_arg]
      rw [if_pos, hs]
      refine ⟨hfew, List.all_eq_true.2 fun v hv => ?_⟩
      obtain ⟨i, hi⟩ := hok v hv
      have := V_range i
      rw [← hi] at this
      exact decide_eq_true this
    have gz : ∀ {α : Type} (b : α) (l : List α), (b :: l)[0]? = some b := fun _ _ => rfl
    have k1 : ∀ fr H p, place fr H (.pv p) = some (.pv p, H) := fun _ _ _ => rfl
    have k2 : ∀ fr H s es, place fr H (.tight s es) = some (.tight s es, H) := fun _ _ _ _ => rfl
    have pw := fun fr H => place_again fr H l
    simp [-Int.not_lt, -Int.not_le, -aLen, -aIndexAddr, -place, T8_eq, F13, F17, F26, F20, h.1, h.2.1, h0, x1, x2, x3, y1, y2, y3, hA, hB, q1, hab, gz, k1, k2, pw, live_plain]
    refine X_keep (loop8 l hfew (lenZ c u) a b (by omega) hd.1.2.2.1 l.length 0 a (by omega) hd.1.1 hch ?_) ?_
    · by_cases hl0 : (l.length : Int) = 0
      · simp [-Int.not_lt, -Int.not_le, -aLen, -aIndexAddr, -place, -pur, T8_eq, h30, gz, k1, k2, live_plain, len_plain, pur_plain, q6, hl0]
      · simp [-Int.not_lt, -Int.not_le, -aLen, -aIndexAddr, -place, -pur, T8_eq, h30, gz, k1, k2, live_plain, len_plain, pur_plain, q6, hl0]
    · simp
  · simp [T8_eq, F13, F17, F26, h0]
end Go.Proofs.YtooajpojikkkdaaDoor
