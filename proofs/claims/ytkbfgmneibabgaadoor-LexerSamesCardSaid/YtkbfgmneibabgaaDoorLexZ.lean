/- The law of Same, by the machine. -/
import Derived.Test.YtkbfgmneibabgaaDoorLexY
set_option linter.unusedSimpArgs false
set_option linter.unusedVariables false
set_option maxRecDepth 1000000
set_option maxHeartbeats 1000000
namespace Go.Proofs.YtkbfgmneibabgaaDoor
open Go Go.Pm Go.RowKit
open LexP hiding place Sep Run
noncomputable def T6 : FuncId → Option Pm.Spec := tab [(14, .pure true F14), (15, .pure true F15), (16, .pure false F16), (19, .pure false F19)]
theorem T6_eq (g : Nat) : T6 g = tab [(14, .pure true F14), (15, .pure true F15), (16, .pure false F16), (19, .pure false F19)] g := rfl
theorem tok6 (W0 : World) : TOk Tryd.prog W0 T6 := tok_cons (meets14 W0) (tok_cons (meets15 W0) (tok_cons (meets16 W0) (tok_cons (meets19 W0) tok_nil)))
theorem end6 {F : List Fr} {P : SV × List Blk → Prop} {v5 v8 v9 v12 : SV} {mx my : List Tk} {ka va kb vb i : Nat} {H : List Blk}
    (hx : X Y T6 [.tmp 4] F (.exit 0) ⟨mk 165 .J [(5, v5), (8, v8), (9, v9), (12, v12), (19, .bool false)], H⟩ P) :
    X Y T6 [.tmp 4] F (.loop (loopN Tryd.f6 0)) ⟨mk 165 .J [(5, v5), (8, v8), (9, v9), (12, v12), (13, .own ka va 6 (rfRow mx)), (16, .own kb vb 6 (rfRow my)), (19, .bool false), (20, .i i)], H⟩ P := by
  apply X_loop_of
  · simp only [loopN, Tryd.f6, loopsOf, List.nil_append, List.append_nil, List.cons_append, List.getD_cons_succ, List.getD_cons_zero]; rfl
  by_cases h : (i : Int) < (mx.length : Int)
  · have hn : i < mx.length := by omega
    simp [rfRow_len, h, hn]
    refine X_keep hx ?_
    simp
  · have hn : ¬ i < mx.length := by omega
    simp [-Nat.not_lt, -Int.not_lt, rfRow_len, h, hn]
    refine X_keep hx ?_
    simp
theorem loop6 {F : List Fr} {P : SV × List Blk → Prop} {v5 v8 v9 v12 : SV} {mx my : List Tk} {ka va kb vb : Nat} {H : List Blk} (hm : mx.length ≤ 100000) (hxy : mx.length = my.length) : ∀ (rx ry px py : List Tk), px ++ rx = mx → py ++ ry = my → px.length = py.length →
    X Y T6 [.tmp 4] F (.exit 0) ⟨mk 165 .J [(5, v5), (8, v8), (9, v9), (12, v12), (19, .bool (decide (rx.map Tk.core = ry.map Tk.core)))], H⟩ P →
    X Y T6 [.tmp 4] F (.loop (loopN Tryd.f6 0)) ⟨mk 165 .J [(5, v5), (8, v8), (9, v9), (12, v12), (13, .own ka va 6 (rfRow mx)), (16, .own kb vb 6 (rfRow my)), (19, .bool true), (20, .i px.length)], H⟩ P
  | [], ry, px, py, h1, h2, h3, hx => by
    have e1 : px = mx := by simpa using h1
    have e2 : ry = [] := by
      have := congrArg List.length h2
      simp at this
      exact List.length_eq_zero_iff.1 (by rw [e1] at h3; omega)
    subst e2
    subst e1
    apply X_loop_of
    · simp only [loopN, Tryd.f6, loopsOf, List.nil_append, List.append_nil, List.cons_append, List.getD_cons_succ, List.getD_cons_zero]; rfl
    simp at hx
    simp [rfRow_len]
    refine X_keep hx ?_
    simp
  | c :: rx, [], px, py, h1, h2, h3, hx => by
    have e1 := congrArg List.length h1
    have e2 := congrArg List.length h2
    simp at e1 e2
    omega
  | c :: rx, d :: ry, px, py, h1, h2, h3, hx => by
    have n1 : mx.length = px.length + (rx.length + 1) := by rw [← h1]; simp
    have ia : mx[px.length]? = some c := by rw [← h1]; simp
    have ib : my[px.length]? = some d := by rw [← h2, h3]; simp
    have ra : (rfRow mx)[px.length]? = some (rfC c) := by simp [rfRow, ia]
    have rb : (rfRow my)[px.length]? = some (rfC d) := by simp [rfRow, ib]
    have lt : (px.length : Int) < (mx.length : Int) := by omega
    have ltn : px.length < mx.length := by omega
    have w1 : IntKind.i64.wrap ((px.length : Int) + 1) = ((px ++ [c]).length : Int) := by rw [wrap64 (by omega) (by omega)]; simp
    unfold rfC at ra rb
    have hF : ¬ (c.core = d.core) → X Y T6 [.tmp 4] F (.loop (loopN Tryd.f6 0)) ⟨mk 165 .J [(5, v5), (8, v8), (9, v9), (12, v12), (13, .own ka va 6 (rfRow mx)), (16, .own kb vb 6 (rfRow my)), (19, .bool false), (20, .i (px ++ [c]).length)], H⟩ P := fun hn => by
      refine end6 ?_
      have : decide ((c :: rx).map Tk.core = (d :: ry).map Tk.core) = false := by simp [hn]
      rw [this] at hx
      exact hx
    have hT : c.core = d.core → X Y T6 [.tmp 4] F (.loop (loopN Tryd.f6 0)) ⟨mk 165 .J [(5, v5), (8, v8), (9, v9), (12, v12), (13, .own ka va 6 (rfRow mx)), (16, .own kb vb 6 (rfRow my)), (19, .bool true), (20, .i (px ++ [c]).length)], H⟩ P := fun he => by
      refine loop6 hm hxy rx ry (px ++ [c]) (py ++ [d]) (by rw [← h1]; simp) (by rw [← h2]; simp) (by simp [h3]) ?_
      have : decide ((c :: rx).map Tk.core = (d :: ry).map Tk.core) = decide (rx.map Tk.core = ry.map Tk.core) := by simp [he]
      rw [this] at hx
      exact hx
    clear hx
    simp only [Tk.core, Prod.mk.injEq] at hF hT
    generalize ((px ++ [c]).length : Int) = E at *
    apply X_loop_of
    · simp only [loopN, Tryd.f6, loopsOf, List.nil_append, List.append_nil, List.cons_append, List.getD_cons_succ, List.getD_cons_zero]; rfl
    by_cases k1 : c.kind = d.kind
    · by_cases k2 : c.text = d.text
      · by_cases k3 : c.val = d.val
        · by_cases k4 : c.bytes = d.bytes
          · by_cases k5 : c.joined = d.joined
            · have hT := hT ⟨k1, k2, k3, k4, k5⟩
              simp [-getElem?_pos, List.getElem?_cons_zero, List.getElem?_cons_succ, rfRow_len, lt, ltn, ra, rb, w1, k1, k2, k3, k4, k5]
              refine X_keep hT ?_
              simp
            · have hF := hF (by simp [k5])
              have k5' : (c.joined == d.joined) = false := by simpa using k5
              simp [-getElem?_pos, List.getElem?_cons_zero, List.getElem?_cons_succ, rfRow_len, lt, ltn, ra, rb, w1, k1, k2, k3, k4, k5']
              refine X_keep hF ?_
              simp
          · have hF := hF (by simp [k4])
            simp [-getElem?_pos, List.getElem?_cons_zero, List.getElem?_cons_succ, rfRow_len, lt, ltn, ra, rb, w1, k1, k2, k3, k4]
            refine X_keep hF ?_
            simp
        · have hF := hF (by simp [k3])
          simp [-getElem?_pos, List.getElem?_cons_zero, List.getElem?_cons_succ, rfRow_len, lt, ltn, ra, rb, w1, k1, k2, k3]
          refine X_keep hF ?_
          simp
      · have hF := hF (by simp [k2])
        simp [-getElem?_pos, List.getElem?_cons_zero, List.getElem?_cons_succ, rfRow_len, lt, ltn, ra, rb, w1, k1, k2]
        refine X_keep hF ?_
        simp
    · have hF := hF (by simp [k1])
      simp [-getElem?_pos, List.getElem?_cons_zero, List.getElem?_cons_succ, rfRow_len, lt, ltn, ra, rb, w1, k1]
      refine X_keep hF ?_
      simp
/-- A text cut to a length. -/
theorem min_at (s : Bs) (n : Nat) : aMinMax false [.pv (.int .i64 (s.length : Int)), .pv (.int .i64 (n : Int))] = some (.i ((min s.length n : Nat) : Int)) := by
  by_cases h : n < s.length
  · have h1 : (n : Int) < (s.length : Int) := by omega
    simp [aMinMax, h1]; omega
  · have h1 : ¬ (n : Int) < (s.length : Int) := by omega
    simp [-Int.not_lt, aMinMax, h1]; omega
theorem take_min (s : Bs) (n : Nat) : s.take (min s.length n) = s.take n := by
  by_cases h : n < s.length
  · rw [Nat.min_eq_right (by omega)]
  · rw [Nat.min_eq_left (by omega), List.take_of_length_le (by omega), List.take_of_length_le (by omega)]
theorem F19_at (s t : Bs) (x y : List Tk) (hx : x.length ≤ 1000000) (hy : y.length ≤ 1000000) : F19 [.pv (.slice 7 (tkRow s x)), .pv (.slice 7 (tkRow t y))] = some (.bool (decide (x.map Tk.core = y.map Tk.core))) := by
  simp only [F19, F47, rowsOf, if_true, decR_tk]
  rw [if_pos ⟨trivial, by rw [List.length_map]; omega, by rw [List.length_map]; omega⟩]
theorem dec_comm {α : Type} (a b : α) [Decidable (a = b)] [Decidable (b = a)] : decide (a = b) = decide (b = a) := decide_eq_decide.2 ⟨Eq.symm, Eq.symm⟩
theorem x6 (s0 t0 : Bs) : XFn Y T6 Tryd.f6 [.str s0, .str t0] [] (Is (.bool true)) := by
  have aS := min_at s0 300
  have aT := min_at t0 300
  have ts := take_min s0 300
  have tt := take_min t0 300
  have hs : (s0.take 300).length ≤ 300 := by rw [List.length_take]; omega
  have ht : (t0.take 300).length ≤ 300 := by rw [List.length_take]; omega
  have es : ((min s0.length 300 : Nat) : Int).toNat = min s0.length 300 := by omega
  have es0 : (0 : Int) ≤ ((min s0.length 300 : Nat) : Int) := by omega
  have es1 : min s0.length 300 ≤ s0.length := by omega
  have et : ((min t0.length 300 : Nat) : Int).toNat = min t0.length 300 := by omega
  have et0 : (0 : Int) ≤ ((min t0.length 300 : Nat) : Int) := by omega
  have et1 : min t0.length 300 ≤ t0.length := by omega
  have aS : aMinMax false [.pv (.int .i64 (s0.length : Int)), .pv (.int .i64 300)] = some (.i ((min s0.length 300 : Nat) : Int)) := aS
  have aT : aMinMax false [.pv (.int .i64 (t0.length : Int)), .pv (.int .i64 300)] = some (.i ((min t0.length 300 : Nat) : Int)) := aT
  generalize ((min s0.length 300 : Nat) : Int) = Es at *
  generalize ((min t0.length 300 : Nat) : Int) = Et at *
  generalize min s0.length 300 = ns at *
  generalize min t0.length 300 = nt at *
  generalize s0.take 300 = s at *
  generalize t0.take 300 = t at *
  have h14s := F14_at (s := s) (by omega)
  have h14t := F14_at (s := t) (by omega)
  have h15s := F15_at (s := s) (by omega)
  have h15t := F15_at (s := t) (by omega)
  unfold scanR at h14s h14t
  unfold refR at h15s h15t
  unfold XFn Tryd.f6
  rw [enter_2 _ (by decide)]
  cases hsc : scan s with
  | error p =>
    obtain ⟨o, er⟩ := p
    rw [hsc] at h14s h15s
    have her := scan_err_ne hsc
    cases htc : scan t with
    | error p =>
      obtain ⟨o', er'⟩ := p
      rw [htc] at h14t h15t
      simp [-aMinMax, aS, aT, es, es0, es1, et, et0, et1, ts, tt, T6_eq, h14s, h14t, h15s, h15t, F16_at, her, Is_mk, outR, outP]
    | ok m =>
      rw [htc] at h14t h15t
      simp [-aMinMax, aS, aT, es, es0, es1, et, et0, et1, ts, tt, T6_eq, h14s, h14t, h15s, h15t, F16_at, her, Is_mk, outR, outP]
  | ok mx =>
    rw [hsc] at h14s h15s
    have hlx := scan_len hsc
    cases htc : scan t with
    | error p =>
      obtain ⟨o', er'⟩ := p
      rw [htc] at h14t h15t
      have her := scan_err_ne htc
      simp [-aMinMax, aS, aT, es, es0, es1, et, et0, et1, ts, tt, T6_eq, h14s, h14t, h15s, h15t, F16_at, her, Is_mk, outR, outP]
    | ok my =>
      rw [htc] at h14t h15t
      have hly := scan_len htc
      have k1 := F19_at s t mx my (by omega) (by omega)
      have k2 := F19_at t s my mx (by omega) (by omega)
      rw [dec_comm] at k2
      simp [-aMinMax, aS, aT, es, es0, es1, et, et0, et1, ts, tt, T6_eq, h14s, h14t, h15s, h15t, F16_at, rfRow_len]
      by_cases hl : mx.length = my.length
      · have hl' : (mx.length : Int) = (my.length : Int) := by omega
        have L := fun F P v5 v8 v9 v12 H => loop6 (F := F) (P := P) (v5 := v5) (v8 := v8) (v9 := v9) (v12 := v12) (mx := mx) (my := my) (ka := 2) (va := 0) (kb := 3) (vb := 0) (H := H) (by omega) hl mx my [] [] rfl rfl rfl
        have hb : ((mx.length : Int) == (my.length : Int)) = true := by simp [hl]
        have hbn : (mx.length == my.length) = true := by simp [hl]
        simp only [hl]
        refine X_keep (L _ _ (.own 0 0 7 (tkRow s mx)) (.i 0) (.own 1 0 7 (tkRow t my)) (.i 0) _ ?_) (by simp [hl])
        simp [T6_eq, k1, k2, Is_mk, outR, outP]
      · have hl' : ¬ (mx.length : Int) = (my.length : Int) := by omega
        have hne : ¬ mx.map Tk.core = my.map Tk.core := fun e => hl (by simpa using congrArg List.length e)
        have L := fun F P v5 v8 v9 v12 H => end6 (F := F) (P := P) (v5 := v5) (v8 := v8) (v9 := v9) (v12 := v12) (mx := mx) (my := my) (ka := 2) (va := 0) (kb := 3) (vb := 0) (i := 0) (H := H)
        rw [decide_eq_false hne] at k1 k2
        refine X_keep (L _ _ (.own 0 0 7 (tkRow s mx)) (.i 0) (.own 1 0 7 (tkRow t my)) (.i 0) _ ?_) (by simp; exact hl')
        simp [T6_eq, k1, k2, Is_mk, outR, outP]
end Go.Proofs.YtkbfgmneibabgaaDoor
