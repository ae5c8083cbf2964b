/- Scan, by the machine. -/
import Derived.Test.YtkbfgmneibabgaaDoorLexM
import Derived.Test.YtkbfgmneibabgaaDoorLexR
set_option linter.unusedSimpArgs false
set_option linter.unusedVariables false
set_option maxRecDepth 1000000
set_option maxHeartbeats 1000000
namespace Go.Proofs.YtkbfgmneibabgaaDoor
open Go Go.Pm Go.RowKit
open LexP hiding place Sep Run
noncomputable def T14 : FuncId → Option Pm.Spec := tab [(39, .heap (arunAll Y T39 Tryd.f39)), (40, .heap (arunAll Y T40 Tryd.f40))]
theorem T14_eq (g : Nat) : T14 g = tab [(39, .heap (arunAll Y T39 Tryd.f39)), (40, .heap (arunAll Y T40 Tryd.f40))] g := rfl
theorem tok14 (W0 : World) : TOk Tryd.prog W0 T14 := tok_cons (meets39 W0) (tok_cons (meets40 W0) tok_nil)
/-- What Scan returns. -/
def scanR (s : Bs) : SV := match scan s with
  | .ok m => .tuple [.fresh 42 7 (tkRow s m), .i 0, .i 0, .i 0]
  | .error (o, e) => .tuple [.pv .nilSlice, .i (LexP.place s o).1, .i (LexP.place s o).2, .i e]
def F14 : List SV → Option SV
  | [.pv (.str s)] => if s.length ≤ 200000 then some (scanR s) else none
  | _ => none
theorem app_lns {H : List Blk} {L : List Int} {x : Int} {v : SV} (k : Nat) (hl : L.length ≤ 100000000) (h : Lns H L v) :
    ∃ v' H', aAppend Y H 73 73 v (.tight 1 [[.int .i64 x]]) = some (v', H') ∧ (∃ kt u, v' = .own kt u 1 (iRow (L ++ [x])) ∧ H'[kt]? = some (.tok u 3)) ∧ (∀ (j : Nat) (t : Option TypeId) (cs : List SV), H[j]? = some (.box t cs) → H'[j]? = some (.box t cs)) ∧ cellsOf v' = some [v'] ∧ live v' = some v' := by
  rcases h with rfl | ⟨kt, u, rfl, hkt⟩
  · refine ⟨.own H.length 0 1 (iRow L ++ [[.int .i64 x]]), H ++ [.tok 0 3], ?_, ⟨H.length, 0, by simp [iRow], by simp⟩, fun j t cs hc => ?_, rfl, rfl⟩
    · simp [-maxRow, aAppend, sliceElems, strideOk, iRow, maxRow]
      omega
    · rw [List.getElem?_append_left (List.getElem?_eq_some_iff.1 hc).1]; exact hc
  · refine ⟨.own kt (u + 1) 1 (iRow L ++ [[.int .i64 x]]), H.set kt (.tok (u + 1) 3), ?_, ⟨kt, u + 1, by simp [iRow], ?_⟩, fun j t cs hc => ?_, rfl, rfl⟩
    · simp [-maxRow, aAppend, sliceElems, strideOk, iRow, maxRow, hkt]
      omega
    · rw [List.getElem?_set_self (List.getElem?_eq_some_iff.1 hkt).1]
    · have : kt ≠ j := by intro e; subst e; rw [hkt] at hc; cases hc
      rw [List.getElem?_set_ne this]; exact hc
theorem loop14 {F : List Fr} {P : SV × List Blk → Prop} {rs : List ResultVar} {k : Nat} {s : Bs} (hs : s.length ≤ 200000) :
    ∀ (rest pre : Bs) (ln : SV) (H : List Blk), pre ++ rest = s → H[k]? = some (scB s 0 ln (.pv .nilSlice) 0 0) → Lns H (0 :: lns pre 0) ln →
    (∀ H' ln', H'[k]? = some (scB s 0 ln' (.pv .nilSlice) 0 0) → Lns H' (starts s) ln' → X Y T14 rs F (.exit 0) ⟨mk 62 .J [(0, .str s), (6, .ptr k 0)], H'⟩ P) →
    X Y T14 rs F (.loop (loopN Tryd.f14 0)) ⟨mk 62 .J [(0, .str s), (6, .ptr k 0), (16, .i s.length), (17, .i pre.length)], H⟩ P
  | [], pre, ln, H, hr, hk, hL, hx => by
    have hr' : pre = s := by simpa using hr
    have h1 := hx H ln hk (by rw [← hr']; exact hL)
    apply X_loop_of
    · simp only [loopN, Tryd.f14, loopsOf, List.nil_append, List.append_nil, List.cons_append, List.getD_cons_succ, List.getD_cons_zero]; rfl
    subst hr'
    simp
    refine X_keep h1 ?_
    simp
  | c :: r, pre, ln, H, hr, hk, hL, hx => by
    have hlt := (List.getElem?_eq_some_iff.1 hk).1
    have hsl : s.length = pre.length + (r.length + 1) := by rw [← hr, List.length_append, List.length_cons]
    have hi : s[pre.length]? = some c := by rw [← hr]; simp
    have h1 : (pre.length : Int) < (s.length : Int) := by omega
    have w1 : IntKind.i64.wrap ((pre.length : Int) + 1) = ((pre ++ [c]).length : Int) := by rw [wrap64 (by omega) (by omega)]; simp
    have hr2 : (pre ++ [c]) ++ r = s := by rw [← hr]; simp
    have hsn := lns_snoc pre c 0
    apply X_loop_of
    · simp only [loopN, Tryd.f14, loopsOf, List.nil_append, List.append_nil, List.cons_append, List.getD_cons_succ, List.getD_cons_zero]; rfl
    have hk' := hk
    unfold scB at hk'
    have hpl : ((pre ++ [c]).length : Int) = (pre.length : Int) + 1 := by simp
    by_cases hc : (c.toNat : Int) = 10
    · have hcn : c.toNat = 10 := by omega
      have hc' : z c = 10 := hc
      rw [if_pos hc', Nat.zero_add] at hsn
      have hll := lns_len pre 0
      obtain ⟨v', H', e1, l1, nb, c1, lv⟩ := app_lns (x := (pre.length : Int) + 1) k (by simp; omega) hL
      have hk1 := nb _ _ _ hk'
      have hlt1 := (List.getElem?_eq_some_iff.1 hk1).1
      have ih := loop14 (F := F) (P := P) (rs := rs) (k := k) hs r (pre ++ [c]) v' (H'.set k (scB s 0 v' (.pv .nilSlice) 0 0)) hr2 (List.getElem?_set_self hlt1) ?_ hx
      · rw [hpl] at ih w1
        simp [-aAppend, h1, hi, hcn, hk', w1, hL.live, e1, c1, lv, hk1, -cellsOf, cells_pv, cells_ptr, cells_agg]
        unfold scB at ih
        refine X_keep ih ?_
        simp
      · rw [hsn]
        obtain ⟨kt, u, h2, h3⟩ := l1
        refine .inr ⟨kt, u, by rw [h2]; simp, ?_⟩
        have : k ≠ kt := by intro e; subst e; rw [hk1] at h3; cases h3
        rw [List.getElem?_set_ne this]; exact h3
    · have hcn : ¬ c.toNat = 10 := by omega
      have hc' : ¬ z c = 10 := hc
      rw [if_neg hc'] at hsn
      have ih := loop14 (F := F) (P := P) (rs := rs) (k := k) hs r (pre ++ [c]) ln H hr2 hk (by rw [hsn]; exact hL) hx
      rw [hpl] at ih w1
      simp [h1, hi, hc, hcn, w1]
      refine X_keep ih ?_
      simp
theorem meets14 (W0 : World) : Enterable Tryd.prog 14 ∧ Meets Tryd.prog W0 14 (specFn (.pure true F14)) :=
  meets_fn env (tok14 W0) mixed Tryd.func14 (by kernel_rfl) (by kernel_rfl) fun args r h => by
    unfold F14 at h
    split at h
    · rename_i s
      split at h
      · rename_i hs
        cases h
        unfold XFn Tryd.f14
        rw [enter_1 _ (by decide)]
        have hlong : ¬ (1048576 : Int) < (s.length : Int) := by omega
        have hlongn : ¬ 1048576 < s.length := by omega
        have hL : Lns [scB s 0 (.tight 1 (iRow [0])) (.pv .nilSlice) 0 0] (0 :: lns [] 0) (.tight 1 (iRow [0])) := .inl rfl
        simp [hlong, hlongn]
        refine X_keep (loop14 (k := 0) hs s [] _ _ (by simp) (by rfl) hL ?_) ?_
        · intro H' ln' hk hL'
          have hS : Scn 0 s 0 [] 0 0 H' := ⟨⟨ln', _, hk, hL', .inl ⟨rfl, rfl⟩⟩, by omega⟩
          obtain ⟨H1, g1, q1, f1⟩ := all39 hs hS
          unfold scanR
          cases hsc : scan s with
          | ok m =>
            rw [hsc] at q1
            obtain ⟨n, w, s1⟩ := q1
            obtain ⟨ln1, l1, hk1, hL1, hA1⟩ := s1.st
            unfold scB at hk1
            rcases hA1 with ⟨c1, _⟩ | ⟨c1, kt, u, rfl, c2⟩
            · exact absurd (by simpa [tkRow] using c1) (scan_ok_ne hsc)
            · simp [T14_eq, g1, hk1, Is_mk, outR, outL, outP, c2]
          | error p =>
            obtain ⟨o, e⟩ := p
            rw [hsc] at q1
            obtain ⟨he, n, toks', s1⟩ := q1
            obtain ⟨ln1, l1, hk1, hL1, hA1⟩ := s1.st
            have ho := scan_err_le hsc
            have h40 := all40 s1.len hk1 hL1 o ho
            unfold scB at hk1
            simp [T14_eq, g1, hk1, he, h40, Is_mk, outR, outL, outP]
        · simp
      · cases h
    · cases h
end Go.Proofs.YtkbfgmneibabgaaDoor
