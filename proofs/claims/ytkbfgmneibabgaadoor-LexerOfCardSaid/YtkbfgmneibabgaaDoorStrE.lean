/- The law of Of, by the machine. -/
import Derived.Test.YtkbfgmneibabgaaDoorStrD
set_option linter.unusedSimpArgs false
set_option linter.unusedVariables false
set_option maxRecDepth 1000000
set_option maxHeartbeats 1000000
namespace LexP
theorem tokL_kd {r : Bs} {kd : Int} {n : Nat} {v : Int} {bs : Bs} (h : tokL r = .tok kd n v bs) : kd ≠ 0 := by
  intro e
  subst e
  cases r with
  | nil => simp [tokL] at h
  | cons c r =>
    simp only [tokL] at h
    split at h
    · split at h <;> simp at h
    · split at h
      · split at h <;> simp at h
      · split at h
        · unfold strT at h
          split at h <;> first | (simp at h) | (split at h <;> simp at h)
        · split at h <;> simp at h
theorem sc_ends {fi : Bool} {rest : Bs} {l : List Core} (h : Sc fi rest l) : ∃ l' e, l = l' ++ [e] ∧ e.1 = 0 ∧ ∀ c ∈ l', c.1 ≠ 0 := by
  induction h with
  | @fin fi rest hd => exact ⟨[], _, rfl, rfl, fun _ h => by cases h⟩
  | @tok fi rest c r kd n v bs l hd ht hs ih =>
    obtain ⟨l', e, h1, h2, h3⟩ := ih
    refine ⟨_ :: l', e, by rw [h1]; rfl, h2, fun x hx => ?_⟩
    rcases List.mem_cons.1 hx with rfl | hx
    · exact tokL_kd ht
    · exact h3 x hx
theorem scan_ends {s : Bs} {m : List Tk} (h : scan s = .ok m) : ∃ m' E, m = m' ++ [E] ∧ E.kind = 0 ∧ ∀ t ∈ m', t.kind ≠ 0 := by
  obtain ⟨m1, h1, h2⟩ := sc_of_scan _ _ _ _ _ h
  have h1 : m = m1 := by simpa using h1
  subst h1
  have h2 : Sc true s (m.map Tk.core) := h2
  obtain ⟨l', e, k1, k2, k3⟩ := sc_ends h2
  have hne : m ≠ [] := by intro e; subst e; simp at k1
  refine ⟨m.dropLast, m.getLast hne, (List.dropLast_concat_getLast hne).symm, ?_, fun t ht => ?_⟩
  · have := congrArg List.getLast? k1
    rw [List.getLast?_map, List.getLast?_eq_some_getLast hne] at this
    simp at this
    rw [← this] at k2; exact k2
  · have : (m.dropLast).map Tk.core = l' := by
      have := congrArg List.dropLast k1
      rw [List.dropLast_concat, ← List.map_dropLast] at this; exact this
    exact k3 t.core (by rw [← this]; exact List.mem_map_of_mem ht)
end LexP
namespace Go.Proofs.YtkbfgmneibabgaaDoor
open Go Go.Pm Go.RowKit
open LexP hiding place Sep Run
noncomputable def T9 : FuncId → Option Pm.Spec := tab [(14, .pure true F14), (16, .pure false F16), (24, .heap (arunAll Y T24 Tryd.f24)), (25, .heap (arunAll Y T25 Tryd.f25)), (26, .heap (arunAll Y T26 Tryd.f26)), (27, .heap (arunAll Y T0 Tryd.f27))]
theorem T9_eq (g : Nat) : T9 g = tab [(14, .pure true F14), (16, .pure false F16), (24, .heap (arunAll Y T24 Tryd.f24)), (25, .heap (arunAll Y T25 Tryd.f25)), (26, .heap (arunAll Y T26 Tryd.f26)), (27, .heap (arunAll Y T0 Tryd.f27))] g := rfl
theorem tok9 (W0 : World) : TOk Tryd.prog W0 T9 := tok_cons (meets14 W0) (tok_cons (meets16 W0) (tok_cons (meets24 W0) (tok_cons (meets25 W0) (tok_cons (meets26 W0) (tok_cons (meets27 W0) tok_nil)))))
theorem frameC_w {w n : Nat} {H H' : List Blk} {v : SV} (h1 : n ≤ H.length) (h2 : FrameW w H H') : frameC w n H (some (v, H')) = some (v, H') := frameC_some (.inr ⟨h1, h2⟩)
theorem loop9 {F : List Fr} {P : SV × List Blk → Prop} {w kb : Nat} (hne : kb ≠ w) {x : SV} {rs : List Tp} {en E lb : Tp} (hx : RowF 23 x (rs.map Tp.cells)) (hm : rs.length ≤ 100000) :
    ∀ (suf pre : List Tp) (H : List Blk), rs = pre ++ suf ++ [E] → Str w ⟨suf, en, 0, 0, 0⟩ H → H[kb]? = some (.box (some 42) (lb.cells.map SV.pv)) →
    (∀ H', Str w ⟨[], en, 0, 0, 0⟩ H' → H'[kb]? = some (.box (some 42) (lb.cells.map SV.pv)) → X Y T9 [.tmp 6] F (.exit 0) ⟨mk 131 .J [(16, .ptr kb 0), (17, .ptr w 0)], H'⟩ P) →
    X Y T9 [.tmp 6] F (.loop (loopN Tryd.f9 0)) ⟨mk 131 .J [(7, x), (16, .ptr kb 0), (17, .ptr w 0), (18, .i pre.length)], H⟩ P
  | [], pre, H, h1, hS, hb, he => by
    have e1 : rs.length = pre.length + 1 := by rw [h1]; simp
    have w1 : IntKind.i64.wrap ((rs.length : Int) - 1) = (pre.length : Int) := by rw [wrap64 (by omega) (by omega)]; omega
    have hq := he H hS hb
    have hml : (rs.map Tp.cells).length = rs.length := by simp
    have hlen := hx.len
    rw [hml] at hlen
    apply X_loop_of
    · simp only [loopN, Tryd.f9, loopsOf, List.nil_append, List.append_nil, List.cons_append, List.getD_cons_succ, List.getD_cons_zero]; rfl
    simp [-aLen, hlen, hx.live, w1]
    refine X_keep hq ?_
    simp
  | t :: suf, pre, H, h1, hS, hb, he => by
    have e1 : rs.length = pre.length + (suf.length + 2) := by rw [h1]; simp
    have w1 : IntKind.i64.wrap ((rs.length : Int) - 1) = ((rs.length - 1 : Nat) : Int) := by rw [wrap64 (by omega) (by omega)]; omega
    have lt : (pre.length : Int) < ((rs.length - 1 : Nat) : Int) := by omega
    have ltn : pre.length < rs.length - 1 := by omega
    have w2 : IntKind.i64.wrap ((pre.length : Int) + 1) = ((pre ++ [t]).length : Int) := by rw [wrap64 (by omega) (by omega)]; simp
    have hml : (rs.map Tp.cells).length = rs.length := by simp
    have hlen := hx.len
    rw [hml] at hlen
    have ia : (rs.map Tp.cells)[pre.length]? = some t.cells := by rw [h1]; simp
    have ra1 := hx.at_ _ _ ia
    rw [show t.cells = [.int .i64 t.k, .str t.tx, .int .i64 t.v, .str t.b, .int .i64 t.l, .int .i64 t.c, .bool t.j] from rfl] at ra1
    obtain ⟨b, hf⟩ := all25 hS
    obtain ⟨H2, hn, s2, f2⟩ := all26 (hS.app [b])
    have hp : St.peek ⟨t :: suf, en, 0, 0, 0⟩ = t := rfl
    have hnx : St.nxt ⟨t :: suf, en, 0, 0, 0⟩ = ⟨suf, en, 0, 0, 0⟩ := rfl
    rw [hp] at hf hn
    rw [hnx] at s2
    have hkl : kb < H.length := (List.getElem?_eq_some_iff.1 hb).1
    have hb2 : H2[kb]? = some (.box (some 42) (lb.cells.map SV.pv)) := by rw [f2.2 kb (by simp; omega) hne, List.getElem?_append_left hkl]; exact hb
    have ih := loop9 (F := F) (P := P) hne (en := en) (E := E) (lb := lb) hx hm suf (pre ++ [t]) H2 (by rw [h1]; simp) s2 hb2 he
    have q1 : ∀ v, frameC w H.length H (some (v, H ++ [b])) = some (v, H ++ [b]) := fun v => frameC_w (Nat.le_refl _) (FrameW.app w H [b])
    have q2 : ∀ v, frameC w H.length (H ++ [b]) (some (v, H2)) = some (v, H2) := fun v => frameC_w (by simp) f2
    generalize ((pre ++ [t]).length : Int) = A at *
    generalize ((rs.length - 1 : Nat) : Int) = B at *
    apply X_loop_of
    · simp only [loopN, Tryd.f9, loopsOf, List.nil_append, List.append_nil, List.cons_append, List.getD_cons_succ, List.getD_cons_zero]; rfl
    simp [-aLen, -aIndexAddr, hlen, hx.live, lt, w1, w2, ra1, T9_eq, hf, hn, q1, q2, Tp.sv, loadW_cptr, aopP_callW]
    refine X_keep ih ?_
    simp
theorem min_at9 (s : Bs) (n : Nat) : aMinMax false [.pv (.int .i64 (s.length : Int)), .pv (.int .i64 (n : Int))] = some (.i ((min s.length n : Nat) : Int)) := by
  by_cases h : n < s.length
  · have h1 : (n : Int) < (s.length : Int) := by omega
    simp [aMinMax, h1]; omega
  · have h1 : ¬ (n : Int) < (s.length : Int) := by omega
    simp [-Int.not_lt, aMinMax, h1]; omega
theorem take_min9 (s : Bs) (n : Nat) : s.take (min s.length n) = s.take n := by
  by_cases h : n < s.length
  · rw [Nat.min_eq_right (by omega)]
  · rw [Nat.min_eq_left (by omega), List.take_of_length_le (by omega), List.take_of_length_le (by omega)]
/-- At the end: Failed, Next, Peek, what they give and that the box of the last token stands. -/
theorem fin9 {w kb : Nat} (hne : kb ≠ w) {en : Tp} {H : List Blk} (hS : Str w ⟨[], en, 0, 0, 0⟩ H) (hb : H[kb]? = some (.box (some 42) (en.cells.map SV.pv))) :
    ∃ H2 b, arunAll Y T0 Tryd.f27 [.ptr w 0] H = some (.tuple [.i 0, .i 0, .i 0], H) ∧ frameC w H.length H (arunAll Y T26 Tryd.f26 [.ptr w 0] H) = some (en.sv, H2) ∧
      (kb < H.length ∧ H2[kb]? = some (.box (some 42) (en.cells.map SV.pv)) ∧ (H2 ++ [b])[kb]? = some (.box (some 42) (en.cells.map SV.pv))) ∧
      frameC w H.length H2 (arunAll Y T25 Tryd.f25 [.ptr w 0] H2) = some (en.sv, H2 ++ [b]) := by
  obtain ⟨H2, hn, s2, f2⟩ := all26 hS
  have s2 : Str w ⟨[], en, 0, 0, 0⟩ H2 := s2
  obtain ⟨b, hf⟩ := all25 s2
  have hkl : kb < H.length := (List.getElem?_eq_some_iff.1 hb).1
  have hb2 : H2[kb]? = some (.box (some 42) (en.cells.map SV.pv)) := by rw [f2.2 kb hkl hne]; exact hb
  refine ⟨H2, b, all27 hS, ?_, ⟨hkl, hb2, ?_⟩, ?_⟩
  · rw [hn]; exact frameC_w (Nat.le_refl _) f2
  · rw [List.getElem?_append_left (Nat.lt_of_lt_of_le hkl f2.1)]; exact hb2
  · rw [hf]; exact frameC_w f2.1 (FrameW.app w H2 [b])
theorem x9 (s0 t0 : Bs) (b : Bool) : XFn Y T9 Tryd.f9 [.str s0, .str t0, .bool b] [] (Is (.bool true)) := by
  have aS := min_at9 s0 300
  have aT := min_at9 t0 300
  have ts := take_min9 s0 300
  have tt := take_min9 t0 300
  have hs : (s0.take 300).length ≤ 300 := by rw [List.length_take]; omega
  have ht : (t0.take 300).length ≤ 300 := by rw [List.length_take]; omega
  have es : ((min s0.length 300 : Nat) : Int).toNat = min s0.length 300 := by omega
  have es0 : (0 : Int) ≤ ((min s0.length 300 : Nat) : Int) := by omega
  have es1 : min s0.length 300 ≤ s0.length := by omega
  have et : ((min t0.length 300 : Nat) : Int).toNat = min t0.length 300 := by omega
  have et0 : (0 : Int) ≤ ((min t0.length 300 : Nat) : Int) := by omega
  have et1 : min t0.length 300 ≤ t0.length := by omega
  have aS : aMinMax false [.pv (.int .i64 (s0.length : Int)), .pv (.int .i64 300)] = some (.i ((min s0.length 300 : Nat) : Int)) := aS
  have aT : aMinMax false [.pv (.int .i64 (t0.length : Int)), .pv (.int .i64 300)] = some (.i ((min t0.length 300 : Nat) : Int)) := aT
  generalize ((min s0.length 300 : Nat) : Int) = Es at *
  generalize ((min t0.length 300 : Nat) : Int) = Et at *
  generalize min s0.length 300 = ns at *
  generalize min t0.length 300 = nt at *
  generalize s0.take 300 = s at *
  generalize t0.take 300 = t at *
  have h14s := F14_at (s := s) (by omega)
  have h14t := F14_at (s := t) (by omega)
  unfold scanR at h14s h14t
  unfold XFn Tryd.f9
  rw [enter_3 _ (by decide)]
  cases hsc : scan s with
  | error p =>
    obtain ⟨o, er⟩ := p
    rw [hsc] at h14s
    have her := scan_err_ne hsc
    cases htc : scan t with
    | error p =>
      obtain ⟨o', er'⟩ := p
      rw [htc] at h14t
      simp [-aMinMax, aS, aT, es, es0, es1, et, et0, et1, ts, tt, T9_eq, h14s, h14t, F16_at, her, Is_mk, outR, outP]
    | ok m =>
      rw [htc] at h14t
      simp [-aMinMax, aS, aT, es, es0, es1, et, et0, et1, ts, tt, T9_eq, h14s, h14t, F16_at, her, Is_mk, outR, outP]
  | ok mx =>
    rw [hsc] at h14s
    have hlx := scan_len hsc
    cases htc : scan t with
    | error p =>
      obtain ⟨o', er'⟩ := p
      rw [htc] at h14t
      have her := scan_err_ne htc
      simp [-aMinMax, aS, aT, es, es0, es1, et, et0, et1, ts, tt, T9_eq, h14s, h14t, F16_at, her, Is_mk, outR, outP]
    | ok my =>
      rw [htc] at h14t
      have hly := scan_len htc
      obtain ⟨m1, E, rfl, hE, hm1⟩ := scan_ends hsc
      obtain ⟨m2, E2, rfl, hE2, hm2⟩ := scan_ends htc
      simp only [tkRow_tp] at h14s h14t
      have hr1 : (m1 ++ [E]).map (tp s) = m1.map (tp s) ++ [tp s E] := by simp
      rw [hr1] at h14s
      have hEt : (tp s E).k = 0 := hE
      have hz1 : ∀ x ∈ m1.map (tp s), x.k ≠ 0 := fun x hx => by
        obtain ⟨t', ht', rfl⟩ := List.mem_map.1 hx; exact hm1 t' ht'
      have hl1 : (m1.map (tp s)).length ≤ 300 := by simp at hlx ⊢; omega
      have hl2 : ((m2 ++ [E2]).map (tp t)).length ≤ 301 := by simp at hly ⊢; omega
      have hl20 : (m2 ++ [E2]).map (tp t) ≠ [] := by simp
      generalize (m2 ++ [E2]).map (tp t) = u2 at *
      generalize m1.map (tp s) = u1 at *
      generalize tp s E = e at *
      clear hsc htc hE hE2 hm1 hm2 hlx hly hr1
      -- the rows
      have rF : RowF 23 (.own 0 0 7 ((u1 ++ [e]).map Tp.cells)) ((u1 ++ [e]).map Tp.cells) := rowF_own _ _ _
      have L := fun (w kb : Nat) hne en lb H hS hb F P => loop9 (F := F) (P := P) (w := w) (kb := kb) hne (en := en) (E := e) (lb := lb) rF (by simp; omega) u1 [] H (by simp) hS hb
      have c1 : ((u1 ++ [e]).map Tp.cells).length = u1.length + 1 := by simp
      have c2 : ((u1 ++ [e]).map Tp.cells).isEmpty = false := by simp
      have c3 : (u1 ++ [e]).map Tp.cells ≠ [] := by simp
      have c4 : ((u1 ++ [e]).map Tp.cells)[u1.length]? = some [.int .i64 e.k, .str e.tx, .int .i64 e.v, .str e.b, .int .i64 e.l, .int .i64 e.c, .bool e.j] := by simp; rfl
      have c5 : ((u1 ++ [e]).map Tp.cells).take u1.length = u1.map Tp.cells := by simp
      have d1 : (u2.map Tp.cells).length = u2.length := by simp
      have d2 : (u2.map Tp.cells).isEmpty = false := by cases u2 with | nil => exact absurd rfl hl20 | cons a r => rfl
      have d3 : u2.map Tp.cells ≠ [] := by simpa using hl20
      have w1 : IntKind.i64.wrap ((u1.length : Int) + 1 - 1) = (u1.length : Int) := by rw [wrap64 (by omega) (by omega)]; omega
      have w0 : IntKind.i64.wrap (u1.length : Int) = (u1.length : Int) := wrap64 (by omega) (by omega)
      have b1 : (u1.length + 1) * 72 ≤ 70368744177664 := by omega
      have b2 : u1.length + 1 ≤ 70368744177664 := by omega
      have b3 : (u1.length + 1 + u2.length) * 72 ≤ 70368744177664 := by omega
      have b4 : u1.length + 1 + u2.length ≤ 70368744177664 := by omega
      have b5 : ¬ (u1.length : Int) + 1 = 0 := by omega
      have b6 : ¬ u2.length = 0 := by cases u2 with | nil => exact absurd rfl hl20 | cons a r => simp
      have b7 : ¬ (u2.length : Int) = 0 := by omega
      have cat : (u1 ++ [e]).map Tp.cells ++ u2.map Tp.cells = (u1 ++ e :: u2).map Tp.cells := by simp
      generalize hR1 : (u1 ++ [e]).map Tp.cells = R1 at *
      generalize hR2 : u2.map Tp.cells = R2 at *
      cases b with
      | true =>
        obtain ⟨bb, hf, hS⟩ := (all24 (x := .own 3 1 7 ((u1 ++ e :: u2).map Tp.cells)) (H := [.tok 0 42, .tok 0 42, .box (some 42) [.i e.k, .str e.tx, .i e.v, .str e.b, .i e.l, .i e.c, .bool e.j], .tok 1 42]) (.inr ⟨_, _, rfl⟩) (by simp; omega)).2 u1 e u2 rfl hEt hz1
        simp only [List.map_append, List.map_cons] at hf
        have hf : arunAll Y T24 Tryd.f24 [.own 3 1 7 (u1.map Tp.cells ++ e.cells :: u2.map Tp.cells)] [.tok 0 42, .tok 0 42, .box (some 42) [.i e.k, .str e.tx, .i e.v, .str e.b, .i e.l, .i e.c, .bool e.j], .tok 1 42] = some (.ptr 4 0, [.tok 0 42, .tok 0 42, .box (some 42) [.i e.k, .str e.tx, .i e.v, .str e.b, .i e.l, .i e.c, .bool e.j], .tok 1 42, bb]) := hf
        have hS : Str 4 ⟨u1, e, 0, 0, 0⟩ [.tok 0 42, .tok 0 42, .box (some 42) [.i e.k, .str e.tx, .i e.v, .str e.b, .i e.l, .i e.c, .bool e.j], .tok 1 42, bb] := hS
        simp [-aMinMax, -getElem?_pos, List.getElem?_cons_zero, List.getElem?_cons_succ, aS, aT, es, es0, es1, et, et0, et1, ts, tt, T9_eq, h14s, h14t, F16_at, c1, c2, c3, c4, c5, d1, d2, d3, w0, w1, b1, b2, b3, b4, b5, b6, b7, cat, hf]
        refine X_keep (L 4 2 (by decide) e e _ hS rfl _ _ ?_) (by simp)
        intro H' hS' hb'
        obtain ⟨H2, bz, f1, f2, ⟨f3, f4, f5⟩, f6⟩ := fin9 (by decide) hS' hb'
        simp only [Tp.cells, Tp.sv, List.map_cons, List.map_nil, zTp] at f2 f4 f5 f6
        simp [-getElem?_pos, List.getElem?_cons_zero, List.getElem?_cons_succ, T9_eq, f1, f2, f3, f4, f5, f6, Tp.sv, zTp, loadW_ptr, aopP_callW, Is_mk, outR, outP]
      | false =>
        obtain ⟨bb, hf, hS⟩ := (all24 (x := .pv (.slice 7 (u1.map Tp.cells))) (H := [.tok 0 42, .tok 0 42, .box (some 42) [.i 0, .str [], .i 0, .str [], .i 0, .i 0, .bool false], .tok 0 42]) (.inl rfl) (by omega)).1 hz1
        have hf : arunAll Y T24 Tryd.f24 [.pv (.slice 7 (u1.map Tp.cells))] [.tok 0 42, .tok 0 42, .box (some 42) [.i 0, .str [], .i 0, .str [], .i 0, .i 0, .bool false], .tok 0 42] = some (.ptr 4 0, [.tok 0 42, .tok 0 42, .box (some 42) [.i 0, .str [], .i 0, .str [], .i 0, .i 0, .bool false], .tok 0 42, bb]) := hf
        have hS : Str 4 ⟨u1, zTp, 0, 0, 0⟩ [.tok 0 42, .tok 0 42, .box (some 42) [.i 0, .str [], .i 0, .str [], .i 0, .i 0, .bool false], .tok 0 42, bb] := hS
        simp [-aMinMax, -getElem?_pos, List.getElem?_cons_zero, List.getElem?_cons_succ, aS, aT, es, es0, es1, et, et0, et1, ts, tt, T9_eq, h14s, h14t, F16_at, c1, c2, c3, c4, c5, d1, d2, d3, w0, w1, b1, b2, b3, b4, b5, b6, b7, cat, hf]
        refine X_keep (L 4 2 (by decide) zTp zTp _ hS rfl _ _ ?_) (by simp)
        intro H' hS' hb'
        obtain ⟨H2, bz, f1, f2, ⟨f3, f4, f5⟩, f6⟩ := fin9 (by decide) hS' hb'
        simp only [Tp.cells, Tp.sv, List.map_cons, List.map_nil, zTp] at f2 f4 f5 f6
        simp [-getElem?_pos, List.getElem?_cons_zero, List.getElem?_cons_succ, T9_eq, f1, f2, f3, f4, f5, f6, Tp.sv, zTp, loadW_ptr, aopP_callW, Is_mk, outR, outP]
end Go.Proofs.YtkbfgmneibabgaaDoor
