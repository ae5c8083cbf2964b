/- The scanner's loop, by the machine. -/
import Derived.Test.YtkbfgmneibabgaaDoorLexL
set_option linter.unusedSimpArgs false
set_option linter.unusedVariables false
set_option maxRecDepth 1000000
set_option maxHeartbeats 1000000
namespace Go.Proofs.YtkbfgmneibabgaaDoor
open Go Go.Pm Go.RowKit
open LexP hiding place Sep Run
theorem tokL_err {c : UInt8} {r : Bs} {o : Nat} {e : Int} (h : tokL (c :: r) = .err o e) : e ≠ 0 := by
  rw [tokL] at h
  split at h
  · split at h
    · cases h; decide
    · cases h
  · split at h
    · split at h
      · cases h; decide
      · cases h
    · split at h
      · unfold strT at h
        split at h
        · cases h; decide
        · cases h; decide
        · split at h
          · cases h; decide
          · cases h
      · split at h
        · cases h
        · cases h; decide
theorem Scn.skip {k : Nat} {pre rest : Bs} {toks : List Tk} {e w : Int} {H : List Blk} (h : Scn k (pre ++ rest) pre.length toks e w H) :
    ∃ H', arunAll Y T73 Tryd.f73 [.ptr k 0] H = some (.bool (decide (0 < skp false rest)), H') ∧ Scn k (pre ++ rest) (pre.length + skp false rest) toks e w H' ∧ FrE k 0 H H' := by
  obtain ⟨ln, l, hk, hL, hA⟩ := h.st
  have hl := h.len
  have hlt := (List.getElem?_eq_some_iff.1 hk).1
  have hf : FrE k 0 H (H.set k (scB (pre ++ rest) (pre.length + skp false rest : Nat) ln l e w)) := FrE.setBox hk
  exact ⟨_, all73 rest pre H (by omega) hk, ⟨⟨ln, l, List.getElem?_set_self hlt, hL.fr hf (by decide), hf.acc (by decide) hA⟩, h.len⟩, hf⟩
noncomputable def T39 : FuncId → Option Pm.Spec := tab [(73, .heap (arunAll Y T73 Tryd.f73)), (74, .heap (arunAll Y T74 Tryd.f74)), (75, .heap (arunAll Y T0 Tryd.f75)), (76, .heap (arunAll Y T76 Tryd.f76))]
theorem T39_eq (g : Nat) : T39 g = tab [(73, .heap (arunAll Y T73 Tryd.f73)), (74, .heap (arunAll Y T74 Tryd.f74)), (75, .heap (arunAll Y T0 Tryd.f75)), (76, .heap (arunAll Y T76 Tryd.f76))] g := rfl
theorem tok39 (W0 : World) : TOk Tryd.prog W0 T39 := tok_cons (meets73 W0) (tok_cons (meets74 W0) (tok_cons (meets75 W0) (tok_cons (meets76 W0) tok_nil)))
theorem meets39 (W0 : World) : Enterable Tryd.prog 39 ∧ Meets Tryd.prog W0 39 (specFn (.heap (arunAll Y T39 Tryd.f39))) := meets_heap env (tok39 W0) mixed Tryd.func39 (by kernel_rfl) (by kernel_rfl)
/-- Where scanning ends. -/
def ScanQ (k : Nat) (s : Bs) (res : Except (Nat × Int) (List Tk)) (H' : List Blk) : Prop := match res with
  | .ok m => ∃ n w, Scn k s n m 0 w H'
  | .error (o, e) => e ≠ 0 ∧ ∃ n toks', Scn k s n toks' e (o : Nat) H'
theorem len_str (s : Bs) : aLen Y 9 (.pv (.str s)) = some s.length := rfl
theorem acc_len {H : List Blk} {l : SV} {es : List (List PV)} (h : Acc 42 7 H es l) : aLen Y 23 l = some es.length := by
  rcases h with ⟨rfl, rfl⟩ | ⟨_, k, v, rfl, _⟩ <;> simp [sliceElems]
theorem end39 {F : List Fr} {P : SV × List Blk → Prop} {k ka n : Nat} {s : Bs} {toks : List Tk} {e w : Int} {t2 : SV} {H : List Blk} (he : e ≠ 0) (hS : Scn k s n toks e w H) (ha : H[ka]? = some (.box (some 72) [.ptr k 0]))
    (hx : X Y T39 [] F (.exit 0) ⟨mk 53 .J [], H⟩ P) : X Y T39 [] F (.loop (loopN Tryd.f39 0)) ⟨mk 53 .J [(1, .ptr ka 0), (2, t2)], H⟩ P := by
  obtain ⟨ln, l, hk, hL, hA⟩ := hS.st
  unfold scB at hk
  apply X_loop_of
  · simp only [loopN, Tryd.f39, loopsOf, List.nil_append, List.append_nil, List.cons_append, List.getD_cons_succ, List.getD_cons_zero]; rfl
  simp [ha, hk, he]
  refine X_keep hx ?_
  simp
theorem loop39 {F : List Fr} {P : SV × List Blk → Prop} {k ka : Nat} {s : Bs} {H0 : List Blk} (hs : s.length ≤ 200000) (hka : ka ≠ k) :
    ∀ (f : Nat) (rest pre : Bs) (toks : List Tk) (w : Int) (H : List Blk), rest.length < f → pre ++ rest = s → toks.length ≤ pre.length → Scn k s pre.length toks 0 w H → H[ka]? = some (.box (some 72) [.ptr k 0]) → FrB k H0 H →
    (∀ H', FrB k H0 H' → ScanQ k s (scanA f toks pre.length rest) H' → P (.undef, H') ∧ X Y T39 [] F (.exit 0) ⟨mk 53 .J [], H'⟩ P) →
    X Y T39 [] F (.loop (loopN Tryd.f39 0)) ⟨mk 53 .J [(1, .ptr ka 0), (2, .tight 1 fnRow)], H⟩ P
  | 0, rest, pre, toks, w, H, hf, hr, ht, hS, ha, hF, hP => by omega
  | f + 1, rest, pre, toks, w, H, hf, hr, ht, hS, ha, hF, hP => by
    obtain ⟨ln, l, hk, hL, hA⟩ := hS.st
    unfold scB at hk
    apply X_loop_of
    · simp only [loopN, Tryd.f39, loopsOf, List.nil_append, List.append_nil, List.cons_append, List.getD_cons_succ, List.getD_cons_zero]; rfl
    obtain ⟨H1, g1, s1, f1⟩ := Scn.skip (pre := pre) (rest := rest) (by rw [hr]; exact hS)
    rw [hr] at s1
    have hq0 : decide (0 < skp false rest) = !decide (skp false rest = 0) := by
      cases skp false rest <;> rfl
    rw [hq0] at g1
    have hle : skp false rest ≤ rest.length := skp_le rest false
    have hsl : s.length = pre.length + rest.length := by rw [← hr, List.length_append]
    generalize hq : skp false rest = q at *
    generalize hj : decide (q = 0) = j at *
    have ha1 := f1.box _ _ _ hka ha
    have s2 : Scn k s (pre.length + q) toks 0 w (H1 ++ [.box (some 4) [.bool j]]) := by
      obtain ⟨ln, l, hk, hL, hA⟩ := s1.st
      have hf : FrE H1.length 5 H1 (H1 ++ [.box (some 4) [.bool j]]) := FrE.push _ _ _ _
      exact ⟨⟨ln, l, hf.box _ _ _ (by have := (List.getElem?_eq_some_iff.1 hk).1; omega) hk, hL.fr hf (by decide), hf.acc (by decide) hA⟩, s1.len⟩
    have f2 : FrB k H (H1 ++ [.box (some 4) [.bool j]]) := f1.b.trans (FrE.push k 5 _ _).b
    have ha2 := f2.box _ _ _ hka ha
    have hb2 : (H1 ++ [.box (some 4) [.bool j]])[H1.length]? = some (.box (some 4) [.bool j]) := by simp
    obtain ⟨ln2, l2, hk2, hL2, hA2⟩ := s2.st
    unfold scB at hk2
    have hal2 := acc_len hA2
    have hmax : ¬ (((tkRow s toks).length : Int) = 262144) := by simp [tkRow]; omega
    have hmaxn : ¬ ((tkRow s toks).length = 262144) := by simp [tkRow]; omega
    have hlv := hA2.live
    have hset : (H1 ++ [Blk.box (some 4) [SV.bool false]]).set H1.length (.box (some 4) [.bool j]) = H1 ++ [.box (some 4) [.bool j]] := by simp
    generalize hH2 : H1 ++ [Blk.box (some 4) [SV.bool j]] = H2 at *
    cases hd : rest.drop q with
    | nil =>
      have hql : q = rest.length := by have := congrArg List.length hd; simp at this; omega
      have hres : scanA (f + 1) toks pre.length rest = .ok (toks ++ [⟨0, [], 0, [], pre.length + q, j && !toks.isEmpty⟩]) := by simp only [scanA, hq, hd, hj]
      obtain ⟨H3, g3, s3, f3⟩ := all74 s2 (by omega) (by omega) 0 0 [] [] (pre.length + q) (by omega) (by omega) j
      have hdrop : (s.take (pre.length + q)).drop (pre.length + q) = [] := by simp
      rw [hdrop] at s3
      have hp := (hP H3 (hF.trans (f2.trans f3.b)) (by rw [hres]; exact ⟨_, _, s3⟩)).1
      have hE : ((pre.length + q : Nat) : Int) = (s.length : Int) := by omega
      rw [hE] at hk2 g3
      simp [ha, hk, T39_eq, g1, ha1, hset, ha2, hb2, hk2, g3, hp]
    | cons c r =>
      have hql : q < rest.length := by have := congrArg List.length hd; simp at this; omega
      have hcr : (c :: r).length = rest.length - q := by rw [← hd, List.length_drop]
      have hpre2 : (pre ++ rest.take q) ++ c :: r = s := by rw [← hd, List.append_assoc, List.take_append_drop]; exact hr
      have hlen2 : (pre ++ rest.take q).length = pre.length + q := by rw [List.length_append, List.length_take]; omega
      have s2' : Scn k ((pre ++ rest.take q) ++ c :: r) (pre ++ rest.take q).length toks 0 w H2 := by rw [hpre2, hlen2]; exact s2
      obtain ⟨b, H3, g3, gt, gf⟩ := tok_step s2' (by omega) j ha2 hb2
      rw [hpre2, hlen2] at gt
      have hE : ¬ ((pre.length + q : Nat) : Int) = (s.length : Int) := by omega
      cases b with
      | false =>
        obtain ⟨e3, ht3⟩ := gf rfl
        subst e3
        have hres : scanA (f + 1) toks pre.length rest = .error (pre.length + q + 0, 6) := by simp only [scanA, hq, hd, ht3]
        obtain ⟨H4, g4, s4, f4⟩ := s2.fail (pre.length + q : Nat) 6
        have hp := (hP H4 (hF.trans (f2.trans ⟨fun i t cs hi hh => f4.box i t cs hi hh, f4.len⟩)) (by rw [hres]; exact ⟨by decide, _, _, s4⟩)).2
        have ha4 : H4[ka]? = some (.box (some 72) [.ptr k 0]) := by
          obtain ⟨_, _, hk4, _⟩ := s2.st
          have := (List.getElem?_eq_some_iff.1 hk4).1
          exact f4.box _ _ _ (by omega) ha2
        have he := end39 (t2 := .tight 1 fnRow) (by decide) s4 ha4 hp
        generalize ((pre.length + q : Nat) : Int) = E at *
        simp [ha, hk, T39_eq, g1, ha1, hset, ha2, hb2, hk2, g3, hE, hal2, hmax, hmaxn, hlv, g4, -aLen, len_str]
        refine X_keep he ?_
        simp
      | true =>
        obtain ⟨fT, hT⟩ := gt rfl
        have ha3 := fT.box _ _ _ hka ha2
        cases ht3 : tokL (c :: r) with
        | err o e =>
          rw [ht3] at hT
          obtain ⟨n', toks', s4⟩ := hT
          have hres : scanA (f + 1) toks pre.length rest = .error (pre.length + q + o, e) := by simp only [scanA, hq, hd, ht3]
          have hp := (hP H3 (hF.trans (f2.trans fT)) (by rw [hres]; exact ⟨tokL_err ht3, _, _, s4⟩)).2
          have he := end39 (t2 := .tight 1 fnRow) (tokL_err ht3) s4 ha3 hp
          generalize ((pre.length + q : Nat) : Int) = E at *
          simp [ha, hk, T39_eq, g1, ha1, hset, ha2, hb2, hk2, g3, hE, hal2, hmax, hmaxn, hlv, -aLen, len_str]
          refine X_keep he ?_
          simp
        | tok kd n v bs =>
          rw [ht3] at hT
          obtain ⟨⟨n1, n2⟩, _⟩ := tok_local ht3
          have hres : scanA (f + 1) toks pre.length rest = scanA f (toks ++ [⟨kd, (c :: r).take n, v, bs, pre.length + q, j && !toks.isEmpty⟩]) (pre.length + q + n) ((c :: r).drop n) := by simp only [scanA, hq, hd, ht3, hj]
          have hlen3 : ((pre ++ rest.take q) ++ (c :: r).take n).length = pre.length + q + n := by rw [List.length_append, hlen2, List.length_take]; omega
          have ih := loop39 (F := F) (P := P) hs hka f ((c :: r).drop n) ((pre ++ rest.take q) ++ (c :: r).take n) (toks ++ [⟨kd, (c :: r).take n, v, bs, pre.length + q, j && !toks.isEmpty⟩]) w H3
            (by rw [List.length_drop]; omega) (by rw [List.append_assoc, List.take_append_drop]; exact hpre2) (by rw [hlen3, List.length_append, List.length_singleton]; omega) (by rw [hlen3]; exact hT) ha3 (hF.trans (f2.trans fT)) (by rw [hlen3, ← hres]; exact hP)
          generalize ((pre.length + q : Nat) : Int) = E at *
          simp [ha, hk, T39_eq, g1, ha1, hset, ha2, hb2, hk2, g3, hE, hal2, hmax, hmaxn, hlv, -aLen, len_str]
          refine X_keep ih ?_
          simp
theorem all39 {k : Nat} {s : Bs} {w : Int} {H : List Blk} (hs : s.length ≤ 200000) (hS : Scn k s 0 [] 0 w H) : ∃ H', arunAll Y T39 Tryd.f39 [.ptr k 0] H = some (.undef, H') ∧ ScanQ k s (scan s) H' ∧ FrB k H H' := by
  have hx : XFn Y T39 Tryd.f39 [.ptr k 0] H (fun x => ∃ H', x = (.undef, H') ∧ ScanQ k s (scan s) H' ∧ FrB k H H') := by
    obtain ⟨ln, l, hk, hL, hA⟩ := hS.st
    have hlt := (List.getElem?_eq_some_iff.1 hk).1
    have hf : FrE H.length 5 H (H ++ [.box (some 72) [.ptr k 0]]) := FrE.push _ _ _ _
    have hS' : Scn k s 0 [] 0 w (H ++ [.box (some 72) [.ptr k 0]]) := ⟨⟨ln, l, hf.box _ _ _ (by omega) hk, hL.fr hf (by decide), hf.acc (by decide) hA⟩, hS.len⟩
    unfold XFn Tryd.f39
    rw [enter_1 _ (by decide)]
    simp
    refine X_keep (loop39 (k := k) (ka := H.length) (H0 := H) hs (by omega) (s.length + 1) s [] [] w _ (by omega) rfl (by simp) hS' (by simp) ⟨fun i t cs hi hh => by rw [List.getElem?_append_left (List.getElem?_eq_some_iff.1 hh).1]; exact hh, by simp⟩ ?_) ?_
    · intro H' h1 h2
      refine ⟨⟨H', rfl, h2, h1⟩, ?_⟩
      simp
      exact ⟨h2, h1⟩
    · simp
  obtain ⟨r, H', h1, H2, h2, h3, h4⟩ := all_of_XFn (by rfl) hx
  cases h2
  exact ⟨_, h1, h3, h4⟩
end Go.Proofs.YtkbfgmneibabgaaDoor
