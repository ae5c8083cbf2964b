/- Words, numbers, symbols, by the machine. -/
import Derived.Test.YtkbfgmneibabgaaDoorLexH
import Derived.Lib.AtoiTie
set_option linter.unusedSimpArgs false
set_option linter.unusedVariables false
set_option maxRecDepth 1000000
set_option maxHeartbeats 2000000
namespace Go.Proofs.YtkbfgmneibabgaaDoor
open Go Go.Pm Go.RowKit
open LexP hiding place Sep Run
/-- What a step of the scanner leaves as it was: the other boxes. -/
structure FrB (k : Nat) (H H' : List Blk) : Prop where
  box : ∀ (j : Nat) (t : Option TypeId) (cs : List SV), j ≠ k → H[j]? = some (.box t cs) → H'[j]? = some (.box t cs)
  len : H.length ≤ H'.length
theorem FrE.b {k : Nat} {e : TypeId} {H H' : List Blk} (h : FrE k e H H') : FrB k H H' := ⟨h.box, h.len⟩
theorem FrB.refl (k : Nat) (H : List Blk) : FrB k H H := ⟨fun _ _ _ _ h => h, Nat.le_refl _⟩
theorem FrB.trans {k : Nat} {A B C : List Blk} (h : FrB k A B) (h' : FrB k B C) : FrB k A C := ⟨fun j t cs hj hh => h'.box j t cs hj (h.box j t cs hj hh), Nat.le_trans h.len h'.len⟩
/-- The scanner behind a token: the token, or the error. -/
def TokQ (k : Nat) (s : Bs) (n : Nat) (toks : List Tk) (j : Bool) (w : Int) (rest : Bs) (H H' : List Blk) : Prop :=
  FrB k H H' ∧ match tokL rest with
  | .err o e => ∃ m toks', Scn k s m toks' e (n + o : Nat) H'
  | .tok kd len v bs => Scn k s (n + len) (toks ++ [⟨kd, rest.take len, v, bs, n, j && !toks.isEmpty⟩]) 0 w H'
theorem Scn.fail {k : Nat} {s : Bs} {n : Nat} {toks : List Tk} {w : Int} {H : List Blk} (h : Scn k s n toks 0 w H) (m e : Int) : ∃ H', arunAll Y T0 Tryd.f75 [.ptr k 0, .i m, .i e] H = some (.undef, H') ∧ Scn k s n toks e m H' ∧ FrE k 0 H H' := by
  obtain ⟨ln, l, hk, hL, hA⟩ := h.st
  have hlt := (List.getElem?_eq_some_iff.1 hk).1
  have hf : FrE k 0 H (H.set k (scB s n ln l e m)) := FrE.setBox hk
  exact ⟨_, all75 hk m e, ⟨⟨ln, l, List.getElem?_set_self hlt, hL.fr hf (by decide), hf.acc (by decide) hA⟩, h.len⟩, hf⟩
theorem take_drop_at (pre r : Bs) (m : Nat) : ((pre ++ r).take (pre.length + m)).drop pre.length = r.take m := by
  rw [List.take_append, List.take_of_length_le (by omega), List.drop_left']
  · congr 1; omega
  · rfl
noncomputable def T69 : FuncId → Option Pm.Spec := tab [(65, .pure false (bF letZ)), (74, .heap (arunAll Y T74 Tryd.f74)), (75, .heap (arunAll Y T0 Tryd.f75)), (85, .heap (arunAll Y T85 Tryd.f85))]
theorem T69_eq (g : Nat) : T69 g = tab [(65, .pure false (bF letZ)), (74, .heap (arunAll Y T74 Tryd.f74)), (75, .heap (arunAll Y T0 Tryd.f75)), (85, .heap (arunAll Y T85 Tryd.f85))] g := rfl
theorem tok69 (W0 : World) : TOk Tryd.prog W0 T69 := tok_cons (meets65 W0) (tok_cons (meets74 W0) (tok_cons (meets75 W0) (tok_cons (meets85 W0) tok_nil)))
theorem meets69 (W0 : World) : Enterable Tryd.prog 69 ∧ Meets Tryd.prog W0 69 (specFn (.heap (arunAll Y T69 Tryd.f69))) := meets_heap env (tok69 W0) mixed Tryd.func69 (by kernel_rfl) (by kernel_rfl)
theorem all69 {k : Nat} {pre r : Bs} {c : UInt8} {toks : List Tk} {w : Int} {H : List Blk} (h : Scn k (pre ++ c :: r) pre.length toks 0 w H) (hb : toks.length ≤ 1100000) (j : Bool) :
    (letZ (z c) = false → arunAll Y T69 Tryd.f69 [.ptr k 0, .bool j] H = some (.bool false, H)) ∧
    (letZ (z c) = true → ∃ H', arunAll Y T69 Tryd.f69 [.ptr k 0, .bool j] H = some (.bool true, H') ∧ TokQ k (pre ++ c :: r) pre.length toks j w (c :: r) H H') := by
  obtain ⟨ln, l, hk, hL, hA⟩ := h.st
  have hlt := (List.getElem?_eq_some_iff.1 hk).1
  have hl0 := h.len
  have hk' := hk
  unfold scB at hk'
  have hi : (pre ++ c :: r)[pre.length]? = some c := by simp
  have hc := bF_at letZ c
  refine ⟨fun hz => ?_, fun hz => ?_⟩
  · have hx : XFn Y T69 Tryd.f69 [.ptr k 0, .bool j] H (fun x => x = (.bool false, H)) := by
      unfold XFn Tryd.f69
      rw [enter_2 _ (by decide)]
      simp [hk', hi, T69_eq, hc, hz]
    obtain ⟨r, H', h1, h2⟩ := all_of_XFn (by rfl) hx
    rw [h1, h2]
  · have hr := all85 (g := 68) (p := inwZ) rfl (c :: r) pre (by omega) hk
    have hwr : wrd (c :: r) ≤ (c :: r).length := (List.takeWhile_sublist _).length_le
    have hrw : ((c :: r).takeWhile fun c => inwZ (z c)).length = wrd (c :: r) := rfl
    rw [hrw] at hr
    generalize hq : wrd (c :: r) = q at *
    have hsl : (pre ++ c :: r).length = pre.length + (c :: r).length := List.length_append
    have w1 : IntKind.i64.wrap (((pre.length + q : Nat) : Int) - (pre.length : Int)) = (q : Int) := by rw [wrap64 (by omega) (by omega)]; omega
    by_cases h64 : 64 < q
    · obtain ⟨H1, f1, s1, b1⟩ := h.fail pre.length 5
      obtain ⟨H2, g1, s2, b2⟩ := all74 s1 (by omega) hb 1 0 [] [] (pre.length + q) (by omega) (by omega) j
      have h64' : (64 : Int) < (q : Int) := by omega
      have hk1 : ∃ ln' l', H1[k]? = some (.box (some 75) [.str (pre ++ c :: r), .i pre.length, ln', l', .i 5, .i pre.length]) := by
        obtain ⟨ln', l', x, _⟩ := s1.st; exact ⟨ln', l', x⟩
      obtain ⟨ln', l', hk1⟩ := hk1
      have hx : XFn Y T69 Tryd.f69 [.ptr k 0, .bool j] H (fun x => x = (.bool true, H2)) := by
        unfold XFn Tryd.f69
        rw [enter_2 _ (by decide)]
        generalize ((pre.length + q : Nat) : Int) = E at *
        simp [hk', hi, T69_eq, hc, hz, hr, w1, h64', f1, g1, hk1]
      obtain ⟨r', H', x1, x2⟩ := all_of_XFn (by rfl) hx
      cases x2
      refine ⟨H2, x1, b1.b.trans b2.b, ?_⟩
      have ht : tokL (c :: r) = .err 0 5 := by rw [tokL, if_pos hz, hq, if_pos h64]
      rw [ht]
      exact ⟨_, _, s2⟩
    · obtain ⟨H2, g1, s2, b2⟩ := all74 h (by omega) hb 1 0 [] [] (pre.length + q) (by omega) (by omega) j
      have h64' : ¬ (64 : Int) < (q : Int) := by omega
      have hx : XFn Y T69 Tryd.f69 [.ptr k 0, .bool j] H (fun x => x = (.bool true, H2)) := by
        unfold XFn Tryd.f69
        rw [enter_2 _ (by decide)]
        generalize ((pre.length + q : Nat) : Int) = E at *
        simp [-Int.not_lt, hk', hi, T69_eq, hc, hz, hr, w1, h64', g1]
      obtain ⟨r', H', x1, x2⟩ := all_of_XFn (by rfl) hx
      cases x2
      refine ⟨H2, x1, b2.b, ?_⟩
      have ht : tokL (c :: r) = .tok 1 q 0 [] := by rw [tokL, if_pos hz, hq, if_neg h64]
      rw [ht]
      rw [take_drop_at] at s2
      exact s2
/-- Symbols. -/
theorem sgn_at (c : UInt8) : (0 ≤ Lib.indexByte signs c ∧ sgnZ (z c) = true ∧ letZ (z c) = false ∧ digZ (z c) = false ∧ z c ≠ 34) ∨ (Lib.indexByte signs c < 0 ∧ sgnZ (z c) = false) :=
  byte_all (p := fun c => (0 ≤ Lib.indexByte signs c ∧ sgnZ (z c) = true ∧ letZ (z c) = false ∧ digZ (z c) = false ∧ z c ≠ 34) ∨ (Lib.indexByte signs c < 0 ∧ sgnZ (z c) = false)) (by decide +kernel) c
noncomputable def T72 : FuncId → Option Pm.Spec := tab [(50, .pure false F50), (74, .heap (arunAll Y T74 Tryd.f74))]
theorem T72_eq (g : Nat) : T72 g = tab [(50, .pure false F50), (74, .heap (arunAll Y T74 Tryd.f74))] g := rfl
theorem tok72 (W0 : World) : TOk Tryd.prog W0 T72 := tok_cons (meets50 W0) (tok_cons (meets74 W0) tok_nil)
theorem meets72 (W0 : World) : Enterable Tryd.prog 72 ∧ Meets Tryd.prog W0 72 (specFn (.heap (arunAll Y T72 Tryd.f72))) := meets_heap env (tok72 W0) mixed Tryd.func72 (by kernel_rfl) (by kernel_rfl)
theorem all72 {k : Nat} {pre r : Bs} {c : UInt8} {toks : List Tk} {w : Int} {H : List Blk} (h : Scn k (pre ++ c :: r) pre.length toks 0 w H) (hb : toks.length ≤ 1100000) (j : Bool) :
    (sgnZ (z c) = false → arunAll Y T72 Tryd.f72 [.ptr k 0, .bool j] H = some (.bool false, H)) ∧
    (sgnZ (z c) = true → ∃ H', arunAll Y T72 Tryd.f72 [.ptr k 0, .bool j] H = some (.bool true, H') ∧ TokQ k (pre ++ c :: r) pre.length toks j w (c :: r) H H') := by
  obtain ⟨ln, l, hk, hL, hA⟩ := h.st
  have hl0 := h.len
  have hk' := hk
  unfold scB at hk'
  have hi : (pre ++ c :: r)[pre.length]? = some c := by simp
  have hF : F50 [.str signs, u8 (c.toNat : Int)] = some (.i (Lib.indexByte signs c)) := by
    have := u8_of c
    unfold z at this
    simp only [F50, this]
  unfold signs at hF
  have hsl : (pre ++ c :: r).length = pre.length + (r.length + 1) := by rw [List.length_append, List.length_cons]
  have hc := sgn_at c
  unfold signs at hc
  generalize Lib.indexByte _ c = q at hF hc
  refine ⟨fun hz => ?_, fun hz => ?_⟩
  · have hq : q < 0 := by
      rcases hc with ⟨_, h2, _⟩ | ⟨h1, _⟩
      · rw [hz] at h2; cases h2
      · exact h1
    have hx : XFn Y T72 Tryd.f72 [.ptr k 0, .bool j] H (fun x => x = (.bool false, H)) := by
      unfold XFn Tryd.f72
      rw [enter_2 _ (by decide)]
      simp [hk', hi, T72_eq, hF, hq]
    obtain ⟨r, H', h1, h2⟩ := all_of_XFn (by rfl) hx
    rw [h1, h2]
  · obtain ⟨hq, _, c1, c2, c3⟩ : 0 ≤ q ∧ sgnZ (z c) = true ∧ letZ (z c) = false ∧ digZ (z c) = false ∧ z c ≠ 34 := by
      rcases hc with h1 | ⟨_, h2⟩
      · exact h1
      · rw [hz] at h2; cases h2
    obtain ⟨H2, g1, s2, b2⟩ := all74 h (by omega) hb 4 0 [] [] (pre.length + 1) (by omega) (by omega) j
    have hq' : ¬ q < 0 := by omega
    have w1 : IntKind.i64.wrap ((pre.length : Int) + 1) = ((pre.length + 1 : Nat) : Int) := by rw [wrap64 (by omega) (by omega)]; omega
    have hx : XFn Y T72 Tryd.f72 [.ptr k 0, .bool j] H (fun x => x = (.bool true, H2)) := by
      unfold XFn Tryd.f72
      rw [enter_2 _ (by decide)]
      generalize ((pre.length + 1 : Nat) : Int) = E at *
      simp [-Int.not_lt, hk', hi, T72_eq, hF, hq', w1, g1]
    obtain ⟨r', H', x1, x2⟩ := all_of_XFn (by rfl) hx
    cases x2
    refine ⟨H2, x1, b2.b, ?_⟩
    have ht : tokL (c :: r) = .tok 4 1 0 [] := by rw [tokL, if_neg (by rw [c1]; simp), if_neg (by rw [c2]; simp), if_neg c3, if_pos hz]
    rw [ht]
    rw [take_drop_at] at s2
    exact s2
/-- Numbers. -/
theorem dig_val (c : UInt8) : digZ (z c) = true → Lib.digitVal c = some (c.toNat - 48) ∧ ((c.toNat - 48 : Nat) : Int) = z c - 48 ∧ c ≠ 45 ∧ c ≠ 43 ∧ letZ (z c) = false :=
  byte_all (p := fun c => digZ (z c) = true → Lib.digitVal c = some (c.toNat - 48) ∧ ((c.toNat - 48 : Nat) : Int) = z c - 48 ∧ c ≠ 45 ∧ c ≠ 43 ∧ letZ (z c) = false) (by decide +kernel) c
theorem dec_digits : ∀ (l : Bs) (a : Nat), (l.all fun c => digZ (z c)) = true → ∃ n : Nat, Lib.decFrom a l = some n ∧ (n : Int) = l.foldl (fun a c => 10 * a + (z c - 48)) (a : Int)
  | [], a, _ => ⟨a, rfl, rfl⟩
  | c :: l, a, h => by
    simp only [List.all_cons, Bool.and_eq_true] at h
    obtain ⟨h1, h2, _⟩ := dig_val c h.1
    obtain ⟨n, h3, h4⟩ := dec_digits l (a * 10 + (c.toNat - 48)) h.2
    refine ⟨n, ?_, ?_⟩
    · simp only [Lib.decFrom, h1]; exact h3
    · rw [h4, List.foldl_cons]; congr 1; rw [← h2]; omega
theorem atoi_digits (c : UInt8) (l : Bs) (hl : (c :: l).length ≤ 15) (h : ((c :: l).all fun c => digZ (z c)) = true) : Lib.atoiAll (c :: l) = .ok (valZ (c :: l)) := by
  have hc := h
  simp only [List.all_cons, Bool.and_eq_true] at hc
  obtain ⟨_, _, h1, h2, _⟩ := dig_val c hc.1
  obtain ⟨n, h3, h4⟩ := dec_digits (c :: l) 0 h
  rw [Lib.atoiAll_short _ (by omega)]
  have h4 : (n : Int) = valZ (c :: l) := h4
  rw [← h4]
  simp [Lib.atoi, h1, h2, Lib.decNat, h3, Lib.NumEnd.ofOption]
noncomputable def T70 : FuncId → Option Pm.Spec := tab [(74, .heap (arunAll Y T74 Tryd.f74)), (75, .heap (arunAll Y T0 Tryd.f75)), (84, .pure false (bF digZ)), (85, .heap (arunAll Y T85 Tryd.f85)), (86, .pure false F86)]
theorem T70_eq (g : Nat) : T70 g = tab [(74, .heap (arunAll Y T74 Tryd.f74)), (75, .heap (arunAll Y T0 Tryd.f75)), (84, .pure false (bF digZ)), (85, .heap (arunAll Y T85 Tryd.f85)), (86, .pure false F86)] g := rfl
theorem tok70 (W0 : World) : TOk Tryd.prog W0 T70 := tok_cons (meets74 W0) (tok_cons (meets75 W0) (tok_cons (meets84 W0) (tok_cons (meets85 W0) (tok_cons (meets86 W0) tok_nil))))
theorem meets70 (W0 : World) : Enterable Tryd.prog 70 ∧ Meets Tryd.prog W0 70 (specFn (.heap (arunAll Y T70 Tryd.f70))) := meets_heap env (tok70 W0) mixed Tryd.func70 (by kernel_rfl) (by kernel_rfl)
theorem all70 {k : Nat} {pre r : Bs} {c : UInt8} {toks : List Tk} {w : Int} {H : List Blk} (h : Scn k (pre ++ c :: r) pre.length toks 0 w H) (hb : toks.length ≤ 1100000) (j : Bool) :
    (digZ (z c) = false → arunAll Y T70 Tryd.f70 [.ptr k 0, .bool j] H = some (.bool false, H)) ∧
    (digZ (z c) = true → ∃ H', arunAll Y T70 Tryd.f70 [.ptr k 0, .bool j] H = some (.bool true, H') ∧ TokQ k (pre ++ c :: r) pre.length toks j w (c :: r) H H') := by
  obtain ⟨ln, l, hk, hL, hA⟩ := h.st
  have hl0 := h.len
  have hk' := hk
  unfold scB at hk'
  have hi : (pre ++ c :: r)[pre.length]? = some c := by simp
  have hc := bF_at digZ c
  refine ⟨fun hz => ?_, fun hz => ?_⟩
  · have hx : XFn Y T70 Tryd.f70 [.ptr k 0, .bool j] H (fun x => x = (.bool false, H)) := by
      unfold XFn Tryd.f70
      rw [enter_2 _ (by decide)]
      simp [hk', hi, T70_eq, hc, hz]
    obtain ⟨r, H', h1, h2⟩ := all_of_XFn (by rfl) hx
    rw [h1, h2]
  · have hr := all85 (g := 84) (p := digZ) rfl (c :: r) pre (by omega) hk
    have hwr : dgs (c :: r) ≤ (c :: r).length := (List.takeWhile_sublist _).length_le
    have hrw : ((c :: r).takeWhile fun c => digZ (z c)).length = dgs (c :: r) := rfl
    rw [hrw] at hr
    have hd1 : 1 ≤ dgs (c :: r) := by unfold dgs; simp [hz]
    have htk : (c :: r).take (dgs (c :: r)) = (c :: r).takeWhile fun c => digZ (z c) := take_while_len _
    have hlet := (dig_val c hz).2.2.2.2
    generalize hq : dgs (c :: r) = q at *
    have hsl : (pre ++ c :: r).length = pre.length + (c :: r).length := List.length_append
    have w1 : IntKind.i64.wrap (((pre.length + q : Nat) : Int) - (pre.length : Int)) = (q : Int) := by rw [wrap64 (by omega) (by omega)]; omega
    have htok : tokL (c :: r) = if 15 < q then .err 0 5 else .tok 2 q (valZ ((c :: r).take q)) [] := by
      rw [tokL, if_neg (by rw [hlet]; simp), if_pos hz, hq]
    by_cases h15 : 15 < q
    · obtain ⟨H1, f1, s1, b1⟩ := h.fail pre.length 5
      have h15' : (15 : Int) < (q : Int) := by omega
      have hx : XFn Y T70 Tryd.f70 [.ptr k 0, .bool j] H (fun x => x = (.bool true, H1)) := by
        unfold XFn Tryd.f70
        rw [enter_2 _ (by decide)]
        generalize ((pre.length + q : Nat) : Int) = E at *
        simp [hk', hi, T70_eq, hc, hz, hr, w1, h15', f1]
      obtain ⟨r', H', x1, x2⟩ := all_of_XFn (by rfl) hx
      cases x2
      refine ⟨H1, x1, b1.b, ?_⟩
      rw [htok, if_pos h15]
      exact ⟨_, _, s1⟩
    · have hsub : ((pre ++ c :: r).take (pre.length + q)).drop pre.length = (c :: r).take q := take_drop_at _ _ _
      have hA : F86 [.str ((c :: r).take q)] = some (.tuple [.i (valZ ((c :: r).take q)), .pv .nilIface]) := by
        obtain ⟨q', rfl⟩ : ∃ q', q = q' + 1 := ⟨q - 1, by omega⟩
        have ha := atoi_digits c (r.take q') (by simp at hwr ⊢; omega) (by
          have : c :: r.take q' = (c :: r).takeWhile fun c => digZ (z c) := by rw [← htk, List.take_succ_cons]
          rw [this, List.all_eq_true]
          intro x hx
          have := List.all_takeWhile (p := fun c => digZ (z c)) (l := c :: r)
          exact List.all_eq_true.1 this x hx)
        rw [List.take_succ_cons]
        simp only [F86, ha]
        rw [if_pos (by simp at hwr ⊢; omega)]
      obtain ⟨H2, g1, s2, b2⟩ := all74 h (by omega) hb 2 (valZ ((c :: r).take q)) [] [] (pre.length + q) (by omega) (by omega) j
      have h15' : ¬ (15 : Int) < (q : Int) := by omega
      have hx : XFn Y T70 Tryd.f70 [.ptr k 0, .bool j] H (fun x => x = (.bool true, H2)) := by
        unfold XFn Tryd.f70
        rw [enter_2 _ (by decide)]
        have e1 : ((pre.length + q : Nat) : Int).toNat = pre.length + q := by omega
        have e2 : (pre.length : Int) ≤ ((pre.length + q : Nat) : Int) := by omega
        have e3 : ((pre.length + q : Nat) : Int) ≤ ((pre ++ c :: r).length : Int) := by omega
        have e4 : (0 : Int) ≤ ((pre.length + q : Nat) : Int) := by omega
        have e5 : q ≤ r.length + 1 := by simpa using hwr
        generalize ((pre.length + q : Nat) : Int) = E at *
        generalize hT : (c :: r).take q = T at *
        simp [-Int.not_lt, hk', hi, T70_eq, hc, hz, hr, w1, h15', e1, e4, e5, hsub, hA, g1]
      obtain ⟨r', H', x1, x2⟩ := all_of_XFn (by rfl) hx
      cases x2
      refine ⟨H2, x1, b2.b, ?_⟩
      rw [htok, if_neg h15]
      rw [take_drop_at] at s2
      exact s2
end Go.Proofs.YtkbfgmneibabgaaDoor
