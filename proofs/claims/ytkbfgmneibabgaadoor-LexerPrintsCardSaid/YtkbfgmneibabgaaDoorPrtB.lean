/- The reference's Print and the law of printing, by the machine. -/
import Derived.Test.YtkbfgmneibabgaaDoorPrtA
set_option linter.unusedSimpArgs false
set_option linter.unusedVariables false
set_option maxRecDepth 1000000
set_option maxHeartbeats 1000000
namespace Go.Proofs.YtkbfgmneibabgaaDoor
open Go Go.Pm Go.RowKit
open LexP hiding place Sep Run
theorem rowF6_nil : RowF 27 (.pv .nilSlice) [] := ⟨by simp [sliceElems], fun i a h => by simp at h, rfl⟩
theorem rowF6_slice (es : List (List PV)) : RowF 27 (.pv (.slice 6 es)) es := ⟨by simp [sliceElems], fun i a h => by simp [-getElem?_pos, h], rfl⟩
def decC6 : List PV → Option Core
  | [.int .i64 k, .str tx, .int .i64 v, .str b, .int .i64 _, .bool j] => some (k, tx, v, b, j)
  | _ => none
def decR6 : List (List PV) → Option (List Core)
  | [] => some []
  | a :: r => match decC6 a, decR6 r with
    | some c, some l => some (c :: l)
    | _, _ => none
theorem decC6_of {a : List PV} {c : Core} (h : decC6 a = some c) : ∃ l : Int, a = [.int .i64 c.1, .str c.2.1, .int .i64 c.2.2.1, .str c.2.2.2.1, .int .i64 l, .bool c.2.2.2.2] := by
  unfold decC6 at h
  split at h
  · cases h; exact ⟨_, rfl⟩
  · cases h
theorem decR6_of : ∀ {es : List (List PV)} {cs : List Core}, decR6 es = some cs → es.length = cs.length ∧ ∀ (i : Nat) (a : List PV), es[i]? = some a → ∃ c, decC6 a = some c ∧ cs[i]? = some c
  | [], cs, h => by cases h; exact ⟨rfl, fun i a h => by simp at h⟩
  | a :: r, cs, h => by
    unfold decR6 at h
    split at h
    · rename_i c l hc hl
      cases h
      obtain ⟨h1, h2⟩ := decR6_of hl
      refine ⟨by simp [h1], fun i a' hi => ?_⟩
      cases i with
      | zero => simp at hi; subst hi; exact ⟨c, hc, rfl⟩
      | succ i => simp at hi; simpa using h2 i a' hi
    · cases h
theorem decR6_rf : ∀ m : List Tk, decR6 (rfRow m) = some (m.map Tk.core)
  | [] => rfl
  | t :: m => by
    show decR6 (rfC t :: rfRow m) = _
    simp only [decR6, decR6_rf m]
    rfl
def rowsOf6 : SV → Option (List (List PV))
  | .pv .nilSlice => some []
  | .pv (.slice s es) => if s = 6 then some es else none
  | _ => none
theorem rowsOf6_F {x : SV} {es : List (List PV)} (h : rowsOf6 x = some es) : RowF 27 x es := by
  unfold rowsOf6 at h
  split at h
  · cases h; exact rowF6_nil
  · split at h
    · rename_i e; subst e; cases h; exact rowF6_slice _
    · cases h
  · cases h
theorem loop23 {F : List Fr} {P : SV × List Blk → Prop} {x : SV} {es : List (List PV)} {cs : List Core} (hx : RowF 27 x es) (hd : decR6 es = some cs) (hm : cs.length ≤ 100000) (hz : (prT true cs).length ≤ 1000000) (ht : ∀ c ∈ cs, c.1 = 0 ∨ c.2.1 ≠ []) :
    ∀ (r pre : List Core) (acc : Bs) (H : List Blk), pre ++ r = cs → acc ++ prT acc.isEmpty r = prT true cs → (∀ H', X Y T0 [.tmp 2] F (.exit 0) ⟨mk 37 .J [(3, .str (prT true cs))], H'⟩ P) →
    X Y T0 [.tmp 2] F (.loop (loopN Tryd.f23 0)) ⟨mk 37 .J [(0, x), (3, .str acc), (4, .i pre.length)], H⟩ P
  | [], pre, acc, H, h1, h2, he => by
    have e1 : (pre.length : Int) = es.length := by rw [(decR6_of hd).1, ← h1]; simp
    have e2 : acc = prT true cs := by simpa [prT] using h2
    subst e2
    have hq := he H
    rw [e1]
    apply X_loop_of
    · simp only [loopN, Tryd.f23, loopsOf, List.nil_append, List.append_nil, List.cons_append, List.getD_cons_succ, List.getD_cons_zero]; rfl
    simp [-aLen, hx.len, hx.live]
    refine X_keep hq ?_
    simp
  | c :: r, pre, acc, H, h1, h2, he => by
    have la := (decR6_of hd).1
    have n1 : cs.length = pre.length + (r.length + 1) := by rw [← h1]; simp
    have ia : es[pre.length]? = some es[pre.length] := by simp
    generalize es[pre.length] = a at ia
    obtain ⟨c', k1, k2⟩ := (decR6_of hd).2 _ _ ia
    have q1 : cs[pre.length]? = some c := by rw [← h1]; simp
    rw [q1] at k2
    cases k2
    obtain ⟨l1, rfl⟩ := decC6_of k1
    have htc := ht c (by rw [← h1]; simp)
    obtain ⟨k, tx, v, b, j⟩ := c
    have ra1 := hx.at_ _ _ ia
    have lt : (pre.length : Int) < (es.length : Int) := by omega
    have ltn : pre.length < es.length := by omega
    have w1 : IntKind.i64.wrap ((pre.length : Int) + 1) = ((pre ++ [(k, tx, v, b, j)]).length : Int) := by rw [wrap64 (by omega) (by omega)]; simp
    have h2l : acc.length + (prT acc.isEmpty ((k, tx, v, b, j) :: r)).length = (prT true cs).length := by rw [← h2, List.length_append]
    by_cases hk0 : k = 0
    · have ih := loop23 (F := F) (P := P) hx hd hm hz ht r (pre ++ [(k, tx, v, b, j)]) acc H (by rw [← h1]; simp) (by rw [← h2]; simp [prT, hk0]) he
      generalize ((pre ++ [(k, tx, v, b, j)]).length : Int) = E at *
      subst hk0
      apply X_loop_of
      · simp only [loopN, Tryd.f23, loopsOf, List.nil_append, List.append_nil, List.cons_append, List.getD_cons_succ, List.getD_cons_zero]; rfl
      simp [-aLen, -aIndexAddr, hx.len, hx.live, lt, ltn, ra1, w1]
      refine X_keep ih ?_
      simp
    · have hpr : prT acc.isEmpty ((k, tx, v, b, j) :: r) = (if acc.isEmpty || j then [] else [32]) ++ (tx ++ prT false r) := by simp [prT, hk0]
      have htx : tx ≠ [] := by rcases htc with h | h; exact absurd h hk0; exact h
      rw [hpr] at h2 h2l
      simp only [List.length_append] at h2l
      by_cases hs : (acc.isEmpty || j) = true
      · rw [if_pos hs] at h2 h2l
        have hne : (acc ++ tx).isEmpty = false := by simp [htx]
        have ih := loop23 (F := F) (P := P) hx hd hm hz ht r (pre ++ [(k, tx, v, b, j)]) (acc ++ tx) H (by rw [← h1]; simp) (by rw [← h2, hne]; simp) he
        generalize ((pre ++ [(k, tx, v, b, j)]).length : Int) = E at *
        have hb : acc.length + tx.length ≤ 4611686018427387904 := by simp at h2l; omega
        apply X_loop_of
        · simp only [loopN, Tryd.f23, loopsOf, List.nil_append, List.append_nil, List.cons_append, List.getD_cons_succ, List.getD_cons_zero]; rfl
        by_cases ha : acc = []
        · subst ha
          simp at hb
          simp [-aLen, -aIndexAddr, hx.len, hx.live, lt, ltn, ra1, w1, hk0, hb]
          refine X_keep ih ?_
          simp
        · have hj : j = true := by simpa [ha] using hs
          subst hj
          simp [-aLen, -aIndexAddr, hx.len, hx.live, lt, ltn, ra1, w1, hk0, hb, ha]
          refine X_keep ih ?_
          simp
      · rw [if_neg hs] at h2 h2l
        have hne : (acc ++ [32] ++ tx).isEmpty = false := by simp
        have ih := loop23 (F := F) (P := P) hx hd hm hz ht r (pre ++ [(k, tx, v, b, j)]) (acc ++ [32] ++ tx) H (by rw [← h1]; simp) (by rw [← h2, hne]; simp) he
        generalize ((pre ++ [(k, tx, v, b, j)]).length : Int) = E at *
        have ha : ¬ acc = [] := by intro e; simp [e] at hs
        have hj : j = false := by cases j <;> simp_all
        subst hj
        have hb : acc.length + 1 ≤ 4611686018427387904 := by simp at h2l; omega
        have hb2 : acc.length + (tx.length + 1) ≤ 4611686018427387904 := by simp at h2l; omega
        have hb3 : acc.length + 1 + tx.length ≤ 4611686018427387904 := by omega
        apply X_loop_of
        · simp only [loopN, Tryd.f23, loopsOf, List.nil_append, List.append_nil, List.cons_append, List.getD_cons_succ, List.getD_cons_zero]; rfl
        simp [-aLen, -aIndexAddr, hx.len, hx.live, lt, ltn, ra1, w1, hk0, hb, hb2, hb3, ha]
        refine X_keep ih ?_
        simp
def F23 : List SV → Option SV
  | [x] => match rowsOf6 x with
    | some es => match decR6 es with
      | some cs => if (cs.length ≤ 100000 ∧ (prT true cs).length ≤ 1000000) ∧ ∀ c ∈ cs, c.1 = 0 ∨ c.2.1 ≠ [] then some (.str (prT true cs)) else none
      | none => none
    | none => none
  | _ => none
theorem meets23 (W0 : World) : OkAt W0 23 F23 := meets_fn env tok_nil mixed Tryd.func23 (by kernel_rfl) (by kernel_rfl) fun args r h => by
  unfold F23 at h
  split at h
  · rename_i x
    split at h
    · rename_i es h1
      split at h
      · rename_i cs h2
        split at h
        · rename_i hc
          cases h
          have hx := rowsOf6_F h1
          have L := fun F P => loop23 (F := F) (P := P) hx h2 hc.1.1 hc.1.2 hc.2 cs [] [] [] rfl rfl
          unfold XFn Tryd.f23
          rw [enter_1 _ (by decide)]
          simp [-aLen, -aIndexAddr, hx.len, hx.live]
          refine X_keep (L _ _ ?_) (by simp)
          intro H'
          simp [Is_mk, outR, outP, outL]
        · cases h
      · cases h
    · cases h
  · cases h
noncomputable def T8 : FuncId → Option Pm.Spec := tab [(13, .pure false F13), (14, .pure true F14), (15, .pure true F15), (16, .pure false F16), (19, .pure false F19), (22, .pure false F22), (23, .pure false F23)]
theorem T8_eq (g : Nat) : T8 g = tab [(13, .pure false F13), (14, .pure true F14), (15, .pure true F15), (16, .pure false F16), (19, .pure false F19), (22, .pure false F22), (23, .pure false F23)] g := rfl
theorem tok8 (W0 : World) : TOk Tryd.prog W0 T8 := tok_cons (meets13 W0) (tok_cons (meets14 W0) (tok_cons (meets15 W0) (tok_cons (meets16 W0) (tok_cons (meets19 W0) (tok_cons (meets22 W0) (tok_cons (meets23 W0) tok_nil))))))
theorem F19_rows (ea eb : List (List PV)) {ca cb : List Core} (ha : decR ea = some ca) (hb : decR eb = some cb) (h1 : ca.length ≤ 10000000) (h2 : cb.length ≤ 10000000) : F19 [.pv (.slice 7 ea), .pv (.slice 7 eb)] = some (.bool (decide (ca = cb))) := by
  simp [F19, F47, rowsOf, ha, hb, h1, h2]
theorem decR_take : ∀ {es : List (List PV)} {cs : List Core} (n : Nat), decR es = some cs → decR (es.take n) = some (cs.take n)
  | es, cs, 0, h => by simp [decR]
  | [], cs, n + 1, h => by cases h; rfl
  | a :: r, cs, n + 1, h => by
    unfold decR at h
    split at h
    · rename_i c l hc hl
      cases h
      simp only [List.take_succ_cons, decR, hc, decR_take n hl]
    · cases h
theorem x8 (s0 : Bs) : XFn Y T8 Tryd.f8 [.str s0] [] (Is (.bool true)) := by
  have h13 : F13 [.str s0] = some (.str (s0.take 600)) := rfl
  have hs : (s0.take 600).length ≤ 600 := by rw [List.length_take]; omega
  generalize s0.take 600 = s at *
  have h14 := F14_at (s := s) (by omega)
  have h15 := F15_at (s := s) (by omega)
  unfold scanR at h14
  unfold refR at h15
  unfold XFn Tryd.f8
  rw [enter_1 _ (by decide)]
  cases hsc : scan s with
  | ok m =>
    rw [hsc] at h14 h15
    have hml := scan_len hsc
    obtain ⟨hsz, m', hs', hl', hd'⟩ := scan_print hsc
    have htx := scan_text hsc
    have d1 := decR_tk s m
    have d6 := decR6_rf m
    have hml0 : 1 ≤ m.length := by
      obtain ⟨m2, jb, rfl, h2⟩ := scan_last hsc
      simp
    have h22 : F22 [.pv (.slice 7 (tkRow s m))] = some (.str (prT true (m.map Tk.core))) := by
      simp only [F22, rowsOf, if_pos, d1]
      rw [if_pos ⟨by simp; omega, by omega⟩]
    have h23 : F23 [.pv (.slice 6 (rfRow m))] = some (.str (prT true (m.map Tk.core))) := by
      simp only [F23, rowsOf6, if_pos, d6]
      rw [if_pos ⟨⟨by simp; omega, by omega⟩, htx⟩]
    generalize hT : prT true (m.map Tk.core) = T at *
    have h14' := F14_at (s := T) (by omega)
    unfold scanR at h14'
    rw [hs'] at h14'
    have d2 := decR_tk T m'
    have g1 := F19_rows _ _ (decR_take (m.length - 1) d1) (decR_take (m.length - 1) d2) (by simp; omega) (by simp; omega)
    have g2 := F19_rows _ _ d1 d1 (by simp; omega) (by simp; omega)
    have hd2 : (m.map Tk.core).take (m.length - 1) = (m'.map Tk.core).take (m.length - 1) := by
      have := hd'
      rw [List.dropLast_eq_take, List.dropLast_eq_take] at this
      simp only [List.length_map, hl'] at this
      exact this.symm
    rw [decide_eq_true hd2] at g1
    rw [decide_eq_true rfl] at g2
    have w1 : IntKind.i64.wrap ((m.length : Int) - 1) = ((m.length - 1 : Nat) : Int) := by rw [wrap64 (by omega) (by omega)]; omega
    have w2 : ((m.length - 1 : Nat) : Int).toNat = m.length - 1 := by omega
    have w3 : (0 : Int) ≤ ((m.length - 1 : Nat) : Int) := by omega
    have w4 : m.length - 1 ≤ m.length := by omega
    have l1 : (tkRow s m).length = m.length := tkRow_len
    have l2 : (tkRow T m').length = m.length := by rw [tkRow_len, hl']
    generalize ((m.length - 1 : Nat) : Int) = E at *
    generalize m.length - 1 = N at *
    simp [T8_eq, h13, h14, h15, h22, h23, h14', F16_at, g1, g2, w1, w2, w3, w4, l1, l2, Is_mk, outR, outP]
  | error p =>
    obtain ⟨o, er⟩ := p
    rw [hsc] at h15
    have her := scan_err_ne hsc
    simp [T8_eq, h13, h15, F16_at, her, Is_mk, outR, outP]
end Go.Proofs.YtkbfgmneibabgaaDoor
