/- The law of places, by the machine. -/
import Derived.Test.YtkbfgmneibabgaaDoorLexV
set_option linter.unusedSimpArgs false
set_option linter.unusedVariables false
set_option maxRecDepth 1000000
set_option maxHeartbeats 1000000
namespace LexP
theorem plc_bound : ∀ (r : Bs) (l c : Int), 1 ≤ c → l ≤ (plc r l c).1 ∧ (plc r l c).1 ≤ l + r.length ∧ 1 ≤ (plc r l c).2 ∧ (plc r l c).2 ≤ c + r.length
  | [], l, c, h => by simp [plc]; exact h
  | b :: r, l, c, h => by
    simp only [plc, List.length_cons]
    split
    · have := plc_bound r (l + 1) 1 (by omega); omega
    · have := plc_bound r l (c + 1) (by omega); omega
theorem place_bound (s : Bs) (n : Nat) : 1 ≤ (place s n).1 ∧ (place s n).1 ≤ 1 + s.length ∧ 1 ≤ (place s n).2 ∧ (place s n).2 ≤ 1 + s.length := by
  have := plc_bound (s.take n) 1 1 (by omega)
  have hl : (s.take n).length ≤ s.length := by rw [List.length_take]; omega
  unfold place
  omega
theorem place_tok {s : Bs} {p k : Nat} (h : p + k ≤ s.length) (h' : ∀ x ∈ (s.drop p).take k, z x ≠ 10) : place s (p + k) = ((place s p).1, (place s p).2 + k) := by
  unfold place
  rw [List.take_add, plc_append, plc_plain _ _ _ h']
  simp; omega
end LexP
namespace Go.Proofs.YtkbfgmneibabgaaDoor
open Go Go.Pm Go.RowKit
open LexP hiding place Sep Run
theorem loop5i {F : List Fr} {P : SV × List Blk → Prop} {s : Bs} {m : List Tk} {t : Tk} {ka va i : Nat} {H : List Blk} (hs : s.length ≤ 100000) (hi : m[i]? = some t) (ht : t.pos ≤ s.length) : ∀ (d n : Nat), n + d = t.pos →
    X Y T3 [.tmp 2] F (.exit 2) ⟨mk 111 .J [(0, .str s), (3, .own ka va 7 (tkRow s m)), (7, .i (LexP.place s t.pos).1), (8, .i (LexP.place s t.pos).2), (9, .i t.pos), (10, .i i)], H⟩ P →
    X Y T3 [.tmp 2] F (.loop (loopN Tryd.f5 1)) ⟨mk 111 .J [(0, .str s), (3, .own ka va 7 (tkRow s m)), (7, .i (LexP.place s n).1), (8, .i (LexP.place s n).2), (9, .i n), (10, .i i)], H⟩ P
  | 0, n, hn, hx => by
    have hn : n = t.pos := by omega
    subst hn
    have hrow : (tkRow s m)[i]? = some (tkC s t) := by simp [tkRow, hi]
    apply X_loop_of
    · simp only [loopN, Tryd.f5, loopsOf, List.nil_append, List.append_nil, List.cons_append, List.getD_cons_succ, List.getD_cons_zero]; rfl
    simp [-getElem?_pos, List.getElem?_cons_zero, List.getElem?_cons_succ, hrow, tkC]
    refine X_keep hx ?_
    simp
  | d + 1, n, hn, hx => by
    have hrow : (tkRow s m)[i]? = some (tkC s t) := by simp [tkRow, hi]
    have hne := place_ne (s := s) (i := n) (j := t.pos) (by omega) ht
    have hne : ¬ ((LexP.place s n).1 = (LexP.place s t.pos).1 ∧ (LexP.place s n).2 = (LexP.place s t.pos).2) := fun ⟨a, b⟩ => hne (Prod.ext a b)
    have hc : s[n]? = some s[n] := by simp
    generalize s[n] = c at hc
    have h1 : ¬ (s.length : Int) ≤ (n : Int) := by omega
    have h1n : ¬ s.length ≤ n := by omega
    have hb := place_bound s n
    have hsu := place_succ hc
    have ih := loop5i (F := F) (P := P) (m := m) (ka := ka) (va := va) (i := i) (H := H) hs hi ht d (n + 1) (by omega) hx
    have w1 : IntKind.i64.wrap ((n : Int) + 1) = ((n + 1 : Nat) : Int) := by rw [wrap64 (by omega) (by omega)]; omega
    have w2 : IntKind.i64.wrap ((LexP.place s n).1 + 1) = (LexP.place s n).1 + 1 := wrap64 (by omega) (by omega)
    have w3 : IntKind.i64.wrap ((LexP.place s n).2 + 1) = (LexP.place s n).2 + 1 := wrap64 (by omega) (by omega)
    rw [hsu] at ih
    clear hsu hx hb
    unfold tkC at hrow
    generalize (LexP.place s n).1 = a at *
    generalize (LexP.place s n).2 = b at *
    generalize (LexP.place s t.pos).1 = a' at *
    generalize (LexP.place s t.pos).2 = b' at *
    generalize ((n + 1 : Nat) : Int) = E at *
    have hcz : (z c = 10) = ((c.toNat : Int) = 10) := rfl
    apply X_loop_of
    · simp only [loopN, Tryd.f5, loopsOf, List.nil_append, List.append_nil, List.cons_append, List.getD_cons_succ, List.getD_cons_zero]; rfl
    by_cases ha : a = a'
    · have hb : ¬ b = b' := fun e => hne ⟨ha, e⟩
      by_cases h10 : z c = 10
      · have h10' : (c.toNat : Int) = 10 := h10
        have h10n : c.toNat = 10 := by omega
        rw [if_pos h10] at ih
        simp [-getElem?_pos, List.getElem?_cons_zero, List.getElem?_cons_succ, hrow, ha, hb, h1, h1n, w1, w2, w3, hc, h10', h10n]
        rw [ha] at w2 ih
        simp [w2]
        refine X_keep ih ?_
        simp
      · have h10' : ¬ (c.toNat : Int) = 10 := h10
        have h10n : ¬ c.toNat = 10 := by omega
        rw [if_neg h10, ha] at ih
        simp [-getElem?_pos, List.getElem?_cons_zero, List.getElem?_cons_succ, hrow, ha, hb, h1, h1n, w1, w2, w3, hc, h10', h10n]
        refine X_keep ih ?_
        simp
    · by_cases h10 : z c = 10
      · have h10' : (c.toNat : Int) = 10 := h10
        have h10n : c.toNat = 10 := by omega
        rw [if_pos h10] at ih
        simp [-getElem?_pos, List.getElem?_cons_zero, List.getElem?_cons_succ, hrow, ha, h1, h1n, w1, w2, w3, hc, h10', h10n]
        refine X_keep ih ?_
        simp
      · have h10' : ¬ (c.toNat : Int) = 10 := h10
        have h10n : ¬ c.toNat = 10 := by omega
        rw [if_neg h10] at ih
        simp [-getElem?_pos, List.getElem?_cons_zero, List.getElem?_cons_succ, hrow, ha, h1, h1n, w1, w2, w3, hc, h10', h10n]
        refine X_keep ih ?_
        simp
theorem loop5 {F : List Fr} {P : SV × List Blk → Prop} {s : Bs} {m : List Tk} {ka va : Nat} {H : List Blk} (hs : s.length ≤ 100000) (hm : m.length ≤ 200000) {pos : Nat} {r : List Tk} (hR : LexP.Run s pos r) : ∀ (pre : List Tk), pre ++ r = m →
    X Y T3 [.tmp 2] F (.exit 0) ⟨mk 111 .J [(0, .str s), (9, .i s.length)], H⟩ P →
    X Y T3 [.tmp 2] F (.loop (loopN Tryd.f5 0)) ⟨mk 111 .J [(0, .str s), (3, .own ka va 7 (tkRow s m)), (7, .i (LexP.place s pos).1), (8, .i (LexP.place s pos).2), (9, .i pos), (10, .i pre.length)], H⟩ P := by
  induction hR with
  | @fin pos j hp =>
    intro pre hr hx
    have hml : m.length = pre.length + 1 := by rw [← hr]; simp
    have ht : m[pre.length]? = some ⟨0, [], 0, [], s.length, j⟩ := by rw [← hr]; simp
    have hrow : (tkRow s m)[pre.length]? = some (tkC s ⟨0, [], 0, [], s.length, j⟩) := by simp [tkRow, ht]
    have h1 : (pre.length : Int) < (m.length : Int) := by omega
    have h1n : pre.length < m.length := by omega
    have w1 : IntKind.i64.wrap ((pre.length : Int) + 1) = (m.length : Int) := by rw [wrap64 (by omega) (by omega)]; omega
    have L := fun F P => loop5i (F := F) (P := P) (m := m) (ka := ka) (va := va) (H := H) hs ht (Nat.le_refl _) (s.length - pos) pos (by simp only []; omega)
    simp only [] at L
    have hb := place_bound s s.length
    have w2 : IntKind.i64.wrap (LexP.place s s.length).2 = (LexP.place s s.length).2 := wrap64 (by omega) (by omega)
    have w3 : IntKind.i64.wrap (s.length : Int) = (s.length : Int) := wrap64 (by omega) (by omega)
    have w0 : IntKind.i64.wrap 0 = 0 := wrap64 (by omega) (by omega)
    have hsl : (s.take s.length).drop s.length = [] := by simp
    unfold tkC at hrow
    have hlast : X Y T3 [.tmp 2] F (.loop (loopN Tryd.f5 0)) ⟨mk 111 .J [(0, .str s), (3, .own ka va 7 (tkRow s m)), (9, .i s.length), (10, .i m.length)], H⟩ P := by
      apply X_loop_of
      · simp only [loopN, Tryd.f5, loopsOf, List.nil_append, List.append_nil, List.cons_append, List.getD_cons_succ, List.getD_cons_zero]; rfl
      simp [tkRow_len]
      refine X_keep hx ?_
      simp
    apply X_loop_of
    · simp only [loopN, Tryd.f5, loopsOf, List.nil_append, List.append_nil, List.cons_append, List.getD_cons_succ, List.getD_cons_zero]; rfl
    simp [tkRow_len, h1, h1n]
    refine X_keep (L _ _ ?_) (by simp)
    simp [-getElem?_pos, List.getElem?_cons_zero, List.getElem?_cons_succ, hrow, w0, w1, w2, w3, hsl, tkRow_len]
    refine X_keep hlast ?_
    simp
  | @tok pos t l hp h2 h3 h4 h5 hR ih =>
    intro pre hr hx
    have hml : m.length = pre.length + (l.length + 1) := by rw [← hr]; simp
    have ht : m[pre.length]? = some t := by rw [← hr]; simp
    have hrow : (tkRow s m)[pre.length]? = some (tkC s t) := by simp [tkRow, ht]
    have h1 : (pre.length : Int) < (m.length : Int) := by omega
    have h1n : pre.length < m.length := by omega
    have w1 : IntKind.i64.wrap ((pre.length : Int) + 1) = ((pre ++ [t]).length : Int) := by rw [wrap64 (by omega) (by omega)]; simp
    have ih := ih (pre ++ [t]) (by rw [← hr]; simp) hx
    have hpt := place_tok (s := s) (p := t.pos) (k := t.text.length) h2 (by rw [← h4]; exact h5)
    have hb := place_bound s t.pos
    have L := fun F P => loop5i (F := F) (P := P) (m := m) (ka := ka) (va := va) (H := H) hs ht (by omega) (t.pos - pos) pos (by omega)
    have w2 : IntKind.i64.wrap ((LexP.place s t.pos).2 + (t.text.length : Int)) = (LexP.place s t.pos).2 + (t.text.length : Int) := wrap64 (by omega) (by omega)
    have w3 : IntKind.i64.wrap ((t.pos : Int) + (t.text.length : Int)) = ((t.pos + t.text.length : Nat) : Int) := by rw [wrap64 (by omega) (by omega)]; omega
    have w4 : IntKind.i64.wrap ((s.length : Int) - (t.pos : Int)) = (s.length : Int) - (t.pos : Int) := wrap64 (by omega) (by omega)
    have c1 : ¬ (s.length : Int) - (t.pos : Int) < (t.text.length : Int) := by omega
    have c2 : ¬ (t.text.length : Int) = 0 := by omega
    have c3 : ¬ t.text = [] := by intro e; rw [e] at h3; simp at h3
    have hsl : (s.take (t.pos + t.text.length)).drop t.pos = t.text := by
      rw [List.drop_take, show t.pos + t.text.length - t.pos = t.text.length by omega]
      exact h4.symm
    have e1 : ((t.pos + t.text.length : Nat) : Int).toNat = t.pos + t.text.length := by omega
    have e2 : (0 : Int) ≤ ((t.pos + t.text.length : Nat) : Int) := by omega
    have e3 : t.pos + t.text.length ≤ s.length := h2
    rw [hpt] at ih
    unfold tkC at hrow
    generalize ((pre ++ [t]).length : Int) = E at *
    generalize ((t.pos + t.text.length : Nat) : Int) = E2 at *
    apply X_loop_of
    · simp only [loopN, Tryd.f5, loopsOf, List.nil_append, List.append_nil, List.cons_append, List.getD_cons_succ, List.getD_cons_zero]; rfl
    simp [tkRow_len, h1, h1n]
    refine X_keep (L _ _ ?_) (by simp)
    simp [-Int.not_lt, -getElem?_pos, List.getElem?_cons_zero, List.getElem?_cons_succ, hrow, w1, w2, w3, w4, hsl, tkRow_len, c1, c2, c3, e1, e2, e3]
    refine X_keep ih ?_
    simp
noncomputable abbrev T5 := T3
theorem tok5 (W0 : World) : TOk Tryd.prog W0 T5 := tok3 W0
theorem x5 (s0 : Bs) : XFn Y T3 Tryd.f5 [.str s0] [] (Is (.bool true)) := by
  have h13 : F13 [.str s0] = some (.str (s0.take 600)) := rfl
  have hs : (s0.take 600).length ≤ 600 := by rw [List.length_take]; omega
  generalize s0.take 600 = s at *
  have h14 := F14_at (s := s) (by omega)
  unfold scanR at h14
  unfold XFn Tryd.f5
  rw [enter_1 _ (by decide)]
  cases hsc : scan s with
  | ok m =>
    rw [hsc] at h14
    have hml := scan_len hsc
    obtain ⟨m', e1, hR⟩ := run_of_scan s (s.length + 1) [] 0 m (by omega) (by simpa [scan] using hsc)
    have e1 : m = m' := by simpa using e1
    subst e1
    have L := fun F P => loop5 (F := F) (P := P) (m := m) (ka := 0) (va := 0) (H := [.tok 0 42]) (by omega) (by omega) hR [] rfl
    have hp0 : LexP.place s 0 = (1, 1) := rfl
    rw [hp0] at L
    simp [T3_eq, h13, h14, F16_at]
    refine X_keep (L _ _ ?_) ?_
    · simp [Is_mk, outR, outP]
    · simp
  | error p =>
    obtain ⟨o, er⟩ := p
    rw [hsc] at h14
    have her := scan_err_ne hsc
    simp [T3_eq, h13, h14, F16_at, her, Is_mk, outR, outP]
end Go.Proofs.YtkbfgmneibabgaaDoor
