/- The law Values. -/
import Derived.Test.YtkckpmcpmngiiaaGreatDoorLawA
import Derived.Test.YtkckpmcpmngiiaaGreatDoorLawC
set_option linter.unusedSimpArgs false
set_option linter.unusedVariables false
set_option maxRecDepth 1000000
set_option maxHeartbeats 1000000
namespace Go.Proofs.YtkckpmcpmngiiaaGreatDoor
open Go Go.Pm Go.RowKit
noncomputable def T7 : FuncId → Option Pm.Spec := tab [(12, .pure false (F12 40)), (14, .pure false F14), (22, .pure false F22), (15, .pure false F15), (28, .pure false E16)]
theorem T7_eq (g : Nat) : T7 g = tab [(12, .pure false (F12 40)), (14, .pure false F14), (22, .pure false F22), (15, .pure false F15), (28, .pure false E16)] g := rfl
theorem tok7 {W0 : World} (L : Laid W0) : TOk Tryz.prog W0 T7 := tok_cons (meets12 (m := 40) (meets18 W0) (by decide)) (tok_cons (meets14 L) (tok_cons (meets22 W0) (tok_cons (meets15 L) (tok_cons (meets28 W0) tok_nil))))
def ndV (s : Bs) : Nd := .mk [97] [([98], s)] s []
theorem chkV (s : Bs) : chkE (ndV s) = dataE s := by
  have h1 : (ndV s).depth ≤ 32 ∧ (ndV s).count ≤ 65536 := by
    unfold ndV; simp only [Nd.depth, Nd.count, depthL, countL]; decide
  unfold chkE
  rw [if_pos h1, each_eq]
  have h2 : ownE (ndV s) = dataE s := by
    unfold ownE ndV
    simp only [Nd.name, Nd.attrs, Nd.text, Nd.kids, attrE]
    have i1 : isName [97] = true := by decide
    have i2 : isName [98] = true := by decide
    have i3 : hasA [] [98] = false := by decide
    simp only [i1, i2, i3]
    by_cases h : dataE s = 0
    · simp [h]
    · simp [h]
  rw [h2]
  by_cases h : dataE s = 0
  · rw [if_neg (by omega)]; simp only [ndV, Nd.kids, eachL]; exact h.symm
  · rw [if_pos h]
theorem lenV (s : Bs) : (prN 40 [] (ndV s)).length ≤ 12 * s.length + 50 := by
  rw [prN_body]
  have := esc_len s
  unfold bodyP ndV
  simp only [Nd.name, Nd.attrs, Nd.text, Nd.kids, prAs, List.flatMap_cons, List.flatMap_nil, prA]
  by_cases h : s = []
  · subst h; decide
  · simp only [h, ne_eq, not_true_eq_false, if_false, List.length_append, List.length_cons, List.length_nil]; omega
theorem smV {s : Bs} (h : s.length ≤ 5000) : smN 40 (ndV s) := by
  refine ⟨⟨by simp [ndV, Nd.name], by simp [ndV, Nd.attrs], fun x hx => ?_, by simp only [ndV, Nd.text]; omega, by simp [ndV, Nd.kids]⟩, fun c hc => by simp [ndV, Nd.kids] at hc⟩
  simp [ndV, Nd.attrs] at hx
  subst hx
  exact ⟨by simp, by show s.length ≤ 8000; omega⟩
def wantV (s : Bs) : Int := if s.all (bB perZ) then 0 else 6
theorem want_snoc {s : Bs} {i : Nat} {c : UInt8} (h : s[i]? = some c) : wantV (s.take (i + 1)) = if bB perZ c = true then wantV (s.take i) else 6 := by
  unfold wantV
  rw [List.take_add_one, h]
  by_cases hp : bB perZ c = true
  · simp [hp]
  · simp [hp]
theorem loop7 {F : List Fr} {P : SV × List Blk → Prop} {H : List Blk} {v4 v5 : SV} (s : Bs) (hs : s.length ≤ 100000000) : ∀ (r i : Nat), i + r = s.length →
    X Y T7 [.tmp 2] F (.exit 0) ⟨mk 89 .J [(0, .str s), (3, .ptr 0 0), (4, v4), (5, v5), (6, .i (wantV s))], H⟩ P →
    X Y T7 [.tmp 2] F (.loop (loopN Tryz.f7 0)) ⟨mk 89 .J [(0, .str s), (3, .ptr 0 0), (4, v4), (5, v5), (6, .i (wantV (s.take i))), (7, .i (i : Nat))], H⟩ P := by
  intro r
  induction r with
  | zero =>
    intro i e hx
    have e1 : i = s.length := by omega
    subst e1
    rw [List.take_length]
    apply X_loop_of
    · simp only [loopN, Tryz.f7, loopsOf, List.nil_append, List.append_nil, List.cons_append, List.getD_cons_succ, List.getD_cons_zero]; rfl
    simp
    refine X_keep hx (by simp)
  | succ r ih =>
    intro i e hx
    have hi : i < s.length := by omega
    obtain ⟨c, hc⟩ : ∃ c, s[i]? = some c := ⟨_, List.getElem?_eq_getElem hi⟩
    have q3 := next_i (m := i) (by omega)
    have c4 : ((i : Nat) : Int) < (s.length : Nat) := by omega
    have c3 : ((i : Nat) : Int).toNat = i := by omega
    have ih := ih (i + 1) (by omega) hx
    rw [want_snoc hc] at ih
    have hp : bB perZ c = decide ((c.toNat : Int) = 9 ∨ (c.toNat : Int) = 10 ∨ (32 ≤ (c.toNat : Int) ∧ (c.toNat : Int) ≠ 127)) := rfl
    generalize wantV (s.take i) = w at *
    apply X_loop_of
    · simp only [loopN, Tryz.f7, loopsOf, List.nil_append, List.append_nil, List.cons_append, List.getD_cons_succ, List.getD_cons_zero]; rfl
    by_cases k1 : (c.toNat : Int) < 32
    · by_cases k2 : (c.toNat : Int) = 9
      · have hb : bB perZ c = true := by rw [hp]; simp [k2]
        rw [if_pos hb] at ih
        simp [-Int.natCast_add, -Int.not_lt, -Int.not_le, -getElem?_pos, T7_eq, q3, c4, c3, hi, hc, k1, k2]
        refine X_keep ih (by simp)
      · by_cases k3 : (c.toNat : Int) = 10
        · have hb : bB perZ c = true := by rw [hp]; simp [k3]
          rw [if_pos hb] at ih
          simp [-Int.natCast_add, -Int.not_lt, -Int.not_le, -getElem?_pos, T7_eq, q3, c4, c3, hi, hc, k1, k2, k3]
          refine X_keep ih (by simp)
        · have hb : ¬ bB perZ c = true := by rw [hp]; simp only [decide_eq_true_eq]; omega
          rw [if_neg hb] at ih
          simp [-Int.natCast_add, -Int.not_lt, -Int.not_le, -getElem?_pos, T7_eq, q3, c4, c3, hi, hc, k1, k2, k3]
          refine X_keep ih (by simp)
    · by_cases k2 : (c.toNat : Int) = 127
      · have hb : ¬ bB perZ c = true := by rw [hp]; simp only [decide_eq_true_eq]; omega
        rw [if_neg hb] at ih
        simp [-Int.natCast_add, -Int.not_lt, -Int.not_le, -getElem?_pos, T7_eq, q3, c4, c3, hi, hc, k1, k2]
        refine X_keep ih (by simp)
      · have hb : bB perZ c = true := by rw [hp]; simp only [decide_eq_true_eq]; omega
        rw [if_pos hb] at ih
        simp [-Int.natCast_add, -Int.not_lt, -Int.not_le, -getElem?_pos, T7_eq, q3, c4, c3, hi, hc, k1, k2]
        refine X_keep ih (by simp)
theorem x7 (s0 : Bs) : XFn Y T7 Tryz.f7 [.str s0] [] (Is (.bool true)) := by
  have aS := min_at s0 5000
  have ts := take_min s0 5000
  have es : ((min s0.length 5000 : Nat) : Int).toNat = min s0.length 5000 := by omega
  have es0 : (0 : Int) ≤ ((min s0.length 5000 : Nat) : Int) := by omega
  have es1 : min s0.length 5000 ≤ s0.length := by omega
  have hs : (s0.take 5000).length ≤ 5000 := by rw [List.length_take]; omega
  have aS : aMinMax false [.pv (.int .i64 (s0.length : Int)), .pv (.int .i64 5000)] = some (.i ((min s0.length 5000 : Nat) : Int)) := aS
  generalize ((min s0.length 5000 : Nat) : Int) = Es at *
  generalize min s0.length 5000 = ns at *
  generalize s0.take 5000 = s at *
  have a1 : encS (ndV s) = .agg [.pv (.str [97]), .pv (.slice 2 [[.str [98], .str s]]), .pv (.str s), .pv .nilSlice] := rfl
  have f1 : F14 [] = some (.bool true) := rfl
  have hc : (ndV s).count ≤ 1000000 := by unfold ndV; simp only [Nd.count, countL]; decide
  have hok : (ndV s).ok = true := by
    rw [ok_eq]; simp [ndV, Nd.attrs, Nd.kids, okL]
  have f2 : F12 40 [encS (ndV s)] = some (prtE 40 (ndV s)) := F12_ok (encS_ok _) hc (smV hs) (by have := lenV s; omega)
  have f3 : F22 [encS (ndV s)] = some (.i (dataE s)) := by rw [F22_ok (encS_ok _) hc, chkV]
  have f4 : E16 [encS (ndV s), encS (ndV s)] = some (.bool true) := by rw [E16_ok (encS_ok _) (encS_ok _) hc hok, eqB_t rfl]
  have L := fun F P H v4 v5 => loop7 (F := F) (P := P) (H := H) (v4 := v4) (v5 := v5) s (by omega) s.length 0 (by omega)
  have w0 : wantV (s.take 0) = 0 := rfl
  rw [w0] at L
  unfold prtE at f2
  rw [chkV] at f2
  have hl : ¬ 4194304 < (prN 40 [] (ndV s)).length := by have := lenV s; omega
  rw [if_neg hl] at f2
  have hrt : dataE s = 0 → F15 [.str (prN 40 [] (ndV s))] = some (.tuple [encS (ndV s), .i 0, .i 0, .i 0]) := fun h => by
    obtain ⟨g, r1, r2⟩ := round_trip (n := ndV s) (by rw [chkV]; exact h)
    have f5 := F15_ok (by omega) r1
    unfold prsE at f5
    rw [if_pos r2] at f5
    exact f5
  generalize prN 40 [] (ndV s) = t at *
  rw [a1] at f2 f3 f4 hrt
  have hd : wantV s = if s.all (bB perZ) then 0 else 6 := rfl
  have he : dataE s = if 4096 < s.length then 5 else wantV s := by unfold dataE wantV; rfl
  have hw : wantV s = 0 ∨ wantV s = 6 := by unfold wantV; split <;> simp
  unfold XFn Tryz.f7
  rw [enter_1 _ (by decide)]
  generalize wantV s = w at *
  by_cases hlong : 4096 < s.length
  · have c1 : (4096 : Int) < (s.length : Nat) := by omega
    rw [if_pos hlong] at he
    rw [he, if_pos (by decide)] at f2
    rw [he] at f3
    simp [-aMinMax, -Int.not_lt, -Int.not_le, aS, es, es0, es1, ts, T7_eq, f1, f2, f3]
    refine X_keep (L _ _ _ (.str []) (.i 5) ?_) (by simp)
    simp [-Int.not_lt, -Int.not_le, T7_eq, f1, f3, c1]
  · have c1 : ¬ (4096 : Int) < (s.length : Nat) := by omega
    rw [if_neg hlong] at he
    rw [he] at f2 f3 hrt
    rcases hw with rfl | rfl
    · rw [if_neg (by decide)] at f2
      have f5 := hrt rfl
      simp [-aMinMax, -Int.not_lt, -Int.not_le, aS, es, es0, es1, ts, T7_eq, f1, f2, f3]
      refine X_keep (L _ _ _ (.str t) (.i 0) ?_) (by simp)
      simp [-Int.not_lt, -Int.not_le, T7_eq, f1, f3, f4, f5, c1]
    · rw [if_pos (by decide)] at f2
      simp [-aMinMax, -Int.not_lt, -Int.not_le, aS, es, es0, es1, ts, T7_eq, f1, f2, f3]
      refine X_keep (L _ _ _ (.str []) (.i 6) ?_) (by simp)
      simp [-Int.not_lt, -Int.not_le, T7_eq, f1, f3, c1]
end Go.Proofs.YtkckpmcpmngiiaaGreatDoor
