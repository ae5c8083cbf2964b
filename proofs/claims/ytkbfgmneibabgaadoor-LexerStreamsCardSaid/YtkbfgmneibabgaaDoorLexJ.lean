/- Strings, by the machine. -/
import Derived.Test.YtkbfgmneibabgaaDoorLexI
set_option linter.unusedSimpArgs false
set_option linter.unusedVariables false
set_option maxRecDepth 1000000
set_option maxHeartbeats 2000000
namespace Go.Proofs.YtkbfgmneibabgaaDoor
open Go Go.Pm Go.RowKit
open LexP hiding place Sep Run
theorem Scn.fr {k kb : Nat} {s : Bs} {n : Nat} {toks : List Tk} {e w : Int} {H H' : List Blk} (h : Scn k s n toks e w H) (hf : FrE kb 5 H H') (hne : k ≠ kb) : Scn k s n toks e w H' := by
  obtain ⟨ln, l, hk, hL, hA⟩ := h.st
  exact ⟨⟨ln, l, hf.box _ _ _ hne hk, hL.fr hf (by decide), hf.acc (by decide) hA⟩, h.len⟩
noncomputable def T71 : FuncId → Option Pm.Spec := tab [(49, .heap (arunAll Y T49 Tryd.f49)), (52, .pure false (bF stdZ)), (53, .heap (stringF 5)), (74, .heap (arunAll Y T74 Tryd.f74)), (75, .heap (arunAll Y T0 Tryd.f75)), (87, .heap (arunAll Y T0 Tryd.f87)), (88, .heap (arunAll Y T88 Tryd.f88))]
theorem T71_eq (g : Nat) : T71 g = tab [(49, .heap (arunAll Y T49 Tryd.f49)), (52, .pure false (bF stdZ)), (53, .heap (stringF 5)), (74, .heap (arunAll Y T74 Tryd.f74)), (75, .heap (arunAll Y T0 Tryd.f75)), (87, .heap (arunAll Y T0 Tryd.f87)), (88, .heap (arunAll Y T88 Tryd.f88))] g := rfl
theorem tok71 (W0 : World) : TOk Tryd.prog W0 T71 := tok_cons (meets49 W0) (tok_cons (meets52 W0) (tok_cons (meets53 W0) (tok_cons (meets74 W0) (tok_cons (meets75 W0) (tok_cons (meets87 W0) (tok_cons (meets88 W0) tok_nil))))))
theorem meets71 (W0 : World) : Enterable Tryd.prog 71 ∧ Meets Tryd.prog W0 71 (specFn (.heap (arunAll Y T71 Tryd.f71))) := meets_heap env (tok71 W0) mixed Tryd.func71 (by kernel_rfl) (by kernel_rfl)
theorem FrB.kb {k kb : Nat} {e : TypeId} {H0 H H' : List Blk} (h : FrB k H0 H) (h' : FrE kb e H H') (hl : H0.length ≤ kb) : FrB k H0 H' :=
  ⟨fun j t cs hj hh => h'.box j t cs (by have := (List.getElem?_eq_some_iff.1 hh).1; omega) (h.box j t cs hj hh), Nat.le_trans h.len h'.len⟩
theorem Bld.fr {k kb : Nat} {e : TypeId} {bs : Bs} {H H' : List Blk} (h : Bld kb bs H) (hf : FrE k e H H') (hne : kb ≠ k) (he : 5 ≠ e) : Bld kb bs H' := by
  obtain ⟨a, buf, hk, ha, hacc⟩ := h.st
  exact ⟨⟨a, buf, hf.box _ _ _ hne hk, ha, hf.acc he hacc⟩⟩
/-- Where a string's reading ends. -/
def StrQ (k : Nat) (s : Bs) (n : Nat) (toks : List Tk) (j : Bool) (w : Int) (res : SR) (H' : List Blk) : Prop := match res with
  | .short => ∃ m toks', Scn k s m toks' 4 (n : Nat) H'
  | .bad o => ∃ m toks', Scn k s m toks' 6 (n + o : Nat) H'
  | .ok m bs => if 4096 < bs.length then ∃ m' toks', Scn k s m' toks' 5 (n : Nat) H' else Scn k s (n + m) (toks ++ [⟨3, (s.take (n + m)).drop n, 0, bs, n, j && !toks.isEmpty⟩]) 0 w H'
theorem esc_le {r : Bs} {q : Nat} {b : UInt8} (h : escL r = .ok q b) : q ≤ r.length := by
  cases r with
  | nil => simp [escL] at h
  | cons c r =>
    simp only [escL] at h
    split at h
    · cases h; simp
    · split at h
      · cases h; simp
      · split at h
        · cases h; simp
        · split at h
          · cases h; simp
          · split at h
            · unfold escX at h
              split at h
              · cases h
              · split at h
                · cases h
                · split at h
                  · cases h
                  · split at h
                    · cases h
                    · cases h; simp
            · cases h
theorem esc_wr {r : Bs} {q : Nat} (h : escL r = .wrong q) : q ≤ 2 := by
  cases r with
  | nil => simp [escL] at h; omega
  | cons c r =>
    simp only [escL] at h
    split at h
    · cases h
    · split at h
      · cases h
      · split at h
        · cases h
        · split at h
          · cases h
          · split at h
            · unfold escX at h
              split at h
              · cases h; omega
              · split at h
                · cases h; omega
                · split at h
                  · cases h; omega
                  · split at h
                    · cases h; omega
                    · cases h
            · cases h; omega
theorem loop71 {F : List Fr} {P : SV × List Blk → Prop} {k kb n : Nat} {s : Bs} {toks : List Tk} {j : Bool} {w : Int} {H0 : List Blk} (hkb : H0.length ≤ kb) (hne : k ≠ kb) (hb : toks.length ≤ 1100000) (hn : n ≤ s.length) :
    ∀ (f i : Nat) (bs r pre : Bs) (H : List Blk), r.length < f → pre ++ r = s → pre.length = n + i → bs.length ≤ i → Scn k s n toks 0 w H → Bld kb bs H → FrB k H0 H →
    (∀ H', FrB k H0 H' → StrQ k s n toks j w (strA f i bs r) H' → P (.bool true, H')) →
    (∀ H', FrB k H0 H' → Scn k s n toks 0 w H' → strA f i bs r = .short → X Y T71 [.tmp 4] F (.exit 0) ⟨mk 116 .J [(0, .ptr k 0)], H'⟩ P) →
    X Y T71 [.tmp 4] F (.loop (loopN Tryd.f71 0)) ⟨mk 116 .J [(0, .ptr k 0), (1, .bool j), (5, .ptr kb 0), (6, .i (n + i : Nat))], H⟩ P
  | 0, i, bs, r, pre, H, hf, hr, hp, hbl, hS, hB, hF, hP, hx => by omega
  | f + 1, i, bs, [], pre, H, hf, hr, hp, hbl, hS, hB, hF, hP, hx => by
    obtain ⟨ln, l, hk, hL, hA⟩ := hS.st
    unfold scB at hk
    have hlen : ((n + i : Nat) : Int) = (s.length : Int) := by rw [← hr, ← hp]; simp
    apply X_loop_of
    · simp only [loopN, Tryd.f71, loopsOf, List.nil_append, List.append_nil, List.cons_append, List.getD_cons_succ, List.getD_cons_zero]; rfl
    have := hx H hF hS (by simp [strA])
    rw [hlen]
    simp [hk]
    refine X_keep this ?_
    simp
  | f + 1, i, bs, c :: r, pre, H, hf, hr, hp, hbl, hS, hB, hF, hP, hx => by
    obtain ⟨ln, l, hk, hL, hA⟩ := hS.st
    unfold scB at hk
    have hl0 := hS.len
    have hsl : s.length = n + i + (r.length + 1) := by rw [← hr, List.length_append, List.length_cons, hp]
    have hi : s[n + i]? = some c := by rw [← hr, ← hp]; simp
    have e1 : ((n + i : Nat) : Int).toNat = n + i := by omega
    have e2 : (0 : Int) ≤ ((n + i : Nat) : Int) := by omega
    have e3 : ((n + i : Nat) : Int) < (s.length : Int) := by omega
    have w1 : IntKind.i64.wrap (((n + i : Nat) : Int) + 1) = ((n + (i + 1) : Nat) : Int) := by rw [wrap64 (by omega) (by omega)]; omega
    apply X_loop_of
    · simp only [loopN, Tryd.f71, loopsOf, List.nil_append, List.append_nil, List.cons_append, List.getD_cons_succ, List.getD_cons_zero]; rfl
    have hstd := bF_at stdZ c
    by_cases c1 : z c = 34
    · have c1' : (c.toNat : Int) = 34 := c1
      have c1n : c.toNat = 34 := by omega
      have hres : strA (f + 1) i bs (c :: r) = .ok (i + 1) bs := by rw [strA, if_pos c1]
      rw [hres] at hP
      have h87 := all87 hB
      have hst := str_at hB
      by_cases hlong : 4096 < bs.length
      · obtain ⟨H1, f1, s1, b1⟩ := hS.fail n 5
        have hst1 := str_at (hB.fr b1 (Ne.symm hne) (by decide))
        obtain ⟨H2, g1, s2, b2⟩ := all74 s1 hn hb 3 0 [] bs (n + (i + 1)) (by omega) (by omega) j
        obtain ⟨ln1, l1, hk1, _⟩ := s1.st
        unfold scB at hk1
        have hlong' : (4096 : Int) < (bs.length : Int) := by omega
        have hq := hP H2 ((hF.trans b1.b).trans b2.b) (by simp only [StrQ]; rw [if_pos hlong]; exact ⟨_, _, s2⟩)
        generalize ((n + (i + 1) : Nat) : Int) = E1 at *
        generalize ((n + i : Nat) : Int) = E at *
        simp [-Int.not_lt, hk, hi, e1, e2, e3, c1', c1n, T71_eq, h87, hst1, hlong', w1, f1, hk1, g1, hq]
      · obtain ⟨H2, g1, s2, b2⟩ := all74 hS hn hb 3 0 [] bs (n + (i + 1)) (by omega) (by omega) j
        have hlong' : ¬ (4096 : Int) < (bs.length : Int) := by omega
        have hq := hP H2 (hF.trans b2.b) (by simp only [StrQ]; rw [if_neg hlong]; exact s2)
        generalize ((n + (i + 1) : Nat) : Int) = E1 at *
        generalize ((n + i : Nat) : Int) = E at *
        simp [-Int.not_lt, hk, hi, e1, e2, e3, c1', c1n, T71_eq, h87, hst, hlong', w1, g1, hq]
    have c1' : ¬ (c.toNat : Int) = 34 := c1
    have c1n : ¬ c.toNat = 34 := by omega
    by_cases c2 : stdZ (z c) = true
    · obtain ⟨H2, g1, b2, f2⟩ := all49 hB (z c) (z_range c) (by omega)
      have g1 : arunAll Y T49 Tryd.f49 [.ptr kb 0, u8 (c.toNat : Int)] H = some (.pv .nilIface, H2) := g1
      rw [u8_of'] at b2
      have hres : strA (f + 1) i bs (c :: r) = strA f (i + 1) (bs ++ [c]) r := by rw [strA, if_neg c1, if_pos c2]
      rw [hres] at hP hx
      have ih := loop71 (F := F) (P := P) hkb hne hb hn f (i + 1) (bs ++ [c]) r (pre ++ [c]) H2 (by simp at hf; omega) (by rw [← hr]; simp) (by simp; omega) (by simp; omega) (hS.fr f2 hne) b2 (hF.kb f2 hkb) hP hx
      generalize ((n + (i + 1) : Nat) : Int) = E1 at *
      generalize ((n + i : Nat) : Int) = E at *
      simp [-Int.not_lt, hk, hi, e1, e2, e3, c1', c1n, T71_eq, hstd, c2, g1, w1]
      refine X_keep ih ?_
      simp
    by_cases c3 : z c = 92
    · have c3' : (c.toNat : Int) = 92 := c3
      have c3n : c.toNat = 92 := by omega
      have hdr : s.drop (n + i + 1) = r := by
        rw [← hr, ← hp, List.drop_append, List.drop_eq_nil_of_le (by omega)]; simp
      obtain ⟨x, H2, g1, g2⟩ := all88 hB (by omega) r (by omega)
      rw [← hdr] at g1
      have c2f : stdZ (z c) = false := by simpa using c2
      have e5 : (((n + (i + 1) : Nat) : Int)).toNat = n + i + 1 := by omega
      have e6 : n + i + 1 ≤ s.length := by omega
      have e7 : (0 : Int) ≤ ((n + (i + 1) : Nat) : Int) := by omega
      unfold EscQ at g2
      cases hE : escL r with
      | wrong q =>
        rw [hE] at g2
        have hq2 := esc_wr hE
        cases g2
        have w2 : IntKind.i64.wrap (((n + (i + 1) : Nat) : Int) + (q : Int)) = ((n + (i + 1 + q) : Nat) : Int) := by rw [wrap64 (by omega) (by omega)]; omega
        by_cases hqr : q = r.length
        · have hres : strA (f + 1) i bs (c :: r) = .short := by rw [strA, if_neg c1, if_neg c2, if_pos c3, hE]; simp [hqr]
          rw [hres] at hP
          obtain ⟨H1, f1, s1, b1⟩ := hS.fail n 4
          have hq := hP H1 (hF.trans b1.b) ⟨_, _, s1⟩
          have e8 : ((n + (i + 1 + q) : Nat) : Int) = (s.length : Int) := by omega
          rw [e8] at w2
          generalize ((n + (i + 1) : Nat) : Int) = E1 at *
          generalize ((n + i : Nat) : Int) = E at *
          simp [-Int.not_lt, hk, hi, e1, e2, e3, e5, e6, e7, c1', c1n, c3', c3n, T71_eq, show bF stdZ [u8 92] = some (.bool false) from rfl, c2f, g1, w1, w2, f1, hq]
        · have hres : strA (f + 1) i bs (c :: r) = .bad (i + 1 + q) := by rw [strA, if_neg c1, if_neg c2, if_pos c3, hE]; simp [hqr]
          rw [hres] at hP
          obtain ⟨H1, f1, s1, b1⟩ := hS.fail (n + (i + 1 + q) : Nat) 6
          have hq := hP H1 (hF.trans b1.b) ⟨_, _, s1⟩
          have e8 : ¬ ((n + (i + 1 + q) : Nat) : Int) = (s.length : Int) := by omega
          generalize ((n + (i + 1 + q) : Nat) : Int) = E2 at *
          generalize ((n + (i + 1) : Nat) : Int) = E1 at *
          generalize ((n + i : Nat) : Int) = E at *
          simp [-Int.not_lt, hk, hi, e1, e2, e3, e5, e6, e7, e8, c1', c1n, c3', c3n, T71_eq, show bF stdZ [u8 92] = some (.bool false) from rfl, c2f, g1, w1, w2, f1, hq]
      | ok q b =>
        rw [hE] at g2
        obtain ⟨gx, gB, gF⟩ := g2
        simp only [] at gx gB gF
        subst gx
        have hql := esc_le hE
        have hres : strA (f + 1) i bs (c :: r) = strA f (i + 1 + q) (bs ++ [b]) (r.drop q) := by rw [strA, if_neg c1, if_neg c2, if_pos c3, hE]
        rw [hres] at hP hx
        have w2 : IntKind.i64.wrap (1 + (q : Int)) = 1 + (q : Int) := wrap64 (by omega) (by omega)
        have w3 : IntKind.i64.wrap (((n + i : Nat) : Int) + (1 + (q : Int))) = ((n + (i + 1 + q) : Nat) : Int) := by rw [wrap64 (by omega) (by omega)]; omega
        have ih := loop71 (F := F) (P := P) hkb hne hb hn f (i + 1 + q) (bs ++ [b]) (r.drop q) (pre ++ c :: r.take q) H2 (by simp at hf ⊢; omega) (by rw [← hr]; simp) (by simp; omega) (by simp; omega) (hS.fr gF hne) gB (hF.kb gF hkb) hP hx
        generalize ((n + (i + 1 + q) : Nat) : Int) = E2 at *
        generalize ((n + (i + 1) : Nat) : Int) = E1 at *
        generalize ((n + i : Nat) : Int) = E at *
        simp [-Int.not_lt, hk, hi, e1, e2, e3, e5, e6, e7, c1', c1n, c3', c3n, T71_eq, show bF stdZ [u8 92] = some (.bool false) from rfl, c2f, g1, w1, w2, w3]
        refine X_keep ih ?_
        simp
    · have hres : strA (f + 1) i bs (c :: r) = .bad i := by rw [strA, if_neg c1, if_neg c2, if_neg c3]
      rw [hres] at hP
      have c3' : ¬ (c.toNat : Int) = 92 := c3
      have c3n : ¬ c.toNat = 92 := by omega
      obtain ⟨H1, f1, s1, b1⟩ := hS.fail (n + i : Nat) 6
      have hq := hP H1 (hF.trans b1.b) ⟨_, _, s1⟩
      generalize ((n + (i + 1) : Nat) : Int) = E1 at *
      generalize ((n + i : Nat) : Int) = E at *
      simp [-Int.not_lt, hk, hi, e1, e2, e3, c1', c1n, c3', c3n, T71_eq, hstd, c2, f1, hq]
end Go.Proofs.YtkbfgmneibabgaaDoor
