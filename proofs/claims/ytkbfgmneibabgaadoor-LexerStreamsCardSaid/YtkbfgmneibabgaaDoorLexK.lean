/- A string's token, by the machine. -/
import Derived.Test.YtkbfgmneibabgaaDoorLexJ
set_option linter.unusedSimpArgs false
set_option linter.unusedVariables false
set_option maxRecDepth 1000000
set_option maxHeartbeats 2000000
namespace Go.Proofs.YtkbfgmneibabgaaDoor
open Go Go.Pm Go.RowKit
open LexP hiding place Sep Run
theorem all71n {k : Nat} {pre r : Bs} {c : UInt8} {toks : List Tk} {w : Int} {H : List Blk} (h : Scn k (pre ++ c :: r) pre.length toks 0 w H) (j : Bool) (hz : z c ≠ 34) :
    arunAll Y T71 Tryd.f71 [.ptr k 0, .bool j] H = some (.bool false, H) := by
  obtain ⟨ln, l, hk, hL, hA⟩ := h.st
  unfold scB at hk
  have hi : (pre ++ c :: r)[pre.length]? = some c := by simp
  have hz' : ¬ (c.toNat : Int) = 34 := hz
  have hzn : ¬ c.toNat = 34 := by omega
  have hx : XFn Y T71 Tryd.f71 [.ptr k 0, .bool j] H (fun x => x = (.bool false, H)) := by
    unfold XFn Tryd.f71
    rw [enter_2 _ (by decide)]
    simp [hk, hi, hz', hzn]
  obtain ⟨r, H', h1, h2⟩ := all_of_XFn (by rfl) hx
  rw [h1, h2]
theorem all71 {k : Nat} {pre r : Bs} {c : UInt8} {toks : List Tk} {w : Int} {H : List Blk} (h : Scn k (pre ++ c :: r) pre.length toks 0 w H) (hb : toks.length ≤ 1100000) (j : Bool) (hz : z c = 34) :
    ∃ H', arunAll Y T71 Tryd.f71 [.ptr k 0, .bool j] H = some (.bool true, H') ∧ TokQ k (pre ++ c :: r) pre.length toks j w (c :: r) H H' := by
  obtain ⟨ln, l, hk, hL, hA⟩ := h.st
  have hlt := (List.getElem?_eq_some_iff.1 hk).1
  have hl0 := h.len
  unfold scB at hk
  have hsl : (pre ++ c :: r).length = pre.length + (r.length + 1) := by rw [List.length_append, List.length_cons]
  have hi : (pre ++ c :: r)[pre.length]? = some c := by simp
  have hz' : (c.toNat : Int) = 34 := hz
  have hzn : c.toNat = 34 := by omega
  have hc34 : c = 34 := z_inj (c := c) (d := 34) hz
  have hB : Bld H.length [] (H ++ [.box (some 86) [.pv .nilPtr, .pv .nilSlice]]) := Bld.new H
  have hF : FrB k H (H ++ [.box (some 86) [.pv .nilPtr, .pv .nilSlice]]) := (FrE.push k 0 H _).b
  have hS : Scn k (pre ++ c :: r) pre.length toks 0 w (H ++ [.box (some 86) [.pv .nilPtr, .pv .nilSlice]]) := h.fr (FrE.push H.length 5 H _) (by omega)
  have w1 : IntKind.i64.wrap ((pre.length : Int) + 1) = ((pre.length + 1 : Nat) : Int) := by rw [wrap64 (by omega) (by omega)]; omega
  have gk : ∀ b, (H ++ [b])[k]? = some (.box (some 75) [.str (pre ++ c :: r), .i pre.length, ln, l, .i 0, .i w]) := fun b => by rw [List.getElem?_append_left hlt]; exact hk
  have hx : XFn Y T71 Tryd.f71 [.ptr k 0, .bool j] H (fun x => ∃ H', x = (.bool true, H') ∧ FrB k H H' ∧ StrQ k (pre ++ c :: r) pre.length toks j w (strA (r.length + 1) 1 [] r) H') := by
    unfold XFn Tryd.f71
    rw [enter_2 _ (by decide)]
    simp [hk, hi, hz', hzn, gk, w1]
    refine X_keep (loop71 (H0 := H) (j := j) (w := w) (Nat.le_refl _) (by omega) hb (by omega) (r.length + 1) 1 [] r (pre ++ [c]) _ (by omega) (by simp) (by simp) (by simp) hS hB hF ?_ ?_) ?_
    · intro H' f1 q1
      exact ⟨H', rfl, f1, q1⟩
    · intro H' f1 s1 e1
      obtain ⟨H1, g1, s2, b2⟩ := s1.fail pre.length 4
      obtain ⟨ln1, l1, hk1, _⟩ := s1.st
      unfold scB at hk1
      have hq : StrQ k (pre ++ c :: r) pre.length toks j w (strA (r.length + 1) 1 [] r) H1 := by rw [e1]; exact ⟨_, _, s2⟩
      have hfr := f1.trans b2.b
      simp [hk1, T71_eq, g1]
      exact ⟨hfr, hq⟩
    · simp
  obtain ⟨x, H', h1, ⟨H2, h2, h3, h4⟩⟩ := all_of_XFn (by rfl) hx
  cases h2
  refine ⟨_, h1, h3, ?_⟩
  have ht : tokL (c :: r) = strT r := by
    subst hc34
    rw [tokL, if_neg (by decide), if_neg (by decide), if_pos hz]
  rw [ht]
  unfold strT
  cases hres : strA (r.length + 1) 1 [] r with
  | short => rw [hres] at h4; obtain ⟨m, t', q⟩ := h4; exact ⟨m, t', by simpa using q⟩
  | bad o => rw [hres] at h4; obtain ⟨m, t', q⟩ := h4; exact ⟨m, t', q⟩
  | ok n bs =>
    rw [hres] at h4
    simp only [StrQ] at h4
    by_cases hl : 4096 < bs.length
    · rw [if_pos hl] at h4
      simp only [hl, if_true]
      obtain ⟨m, t', q⟩ := h4; exact ⟨m, t', by simpa using q⟩
    · rw [if_neg hl, take_drop_at] at h4
      simp only [hl, if_false]
      exact h4
end Go.Proofs.YtkbfgmneibabgaaDoor
