/- Print, of the program and of the reference, by the machine. -/
import Derived.Test.YtkbfgmneibabgaaDoorLexY
import Derived.Test.YtkbfgmneibabgaaDoorQuoA
set_option linter.unusedSimpArgs false
set_option linter.unusedVariables false
set_option maxRecDepth 1000000
set_option maxHeartbeats 1000000
namespace LexP
/-- A text printed of tokens. -/
def prT : Bool → List Core → Bs
  | _, [] => []
  | fi, (kd, tx, _, _, j) :: r => if kd = 0 then prT fi r else (if fi || j then [] else [32]) ++ (tx ++ prT false r)
theorem sep_bl : Sep [32] := fun r => by simp [skp, blkZ, z]; omega
theorem tokL_kind {r : Bs} {kd : Int} {n : Nat} {v : Int} {bs : Bs} (h : tokL r = .tok kd n v bs) : kd ≠ 0 := by
  intro e
  subst e
  cases r with
  | nil => simp [tokL] at h
  | cons c r =>
    simp only [tokL] at h
    split at h
    · split at h <;> simp at h
    · split at h
      · split at h <;> simp at h
      · split at h
        · unfold strT at h
          split at h <;> first | (simp at h) | (split at h <;> simp at h)
        · split at h <;> simp at h
theorem lay_print {fi : Bool} {rest : Bs} {l : List Core} (h : Sc fi rest l) : ∃ l', Lay fi l (prT fi l) l' ∧ l'.length = l.length ∧ l'.dropLast = l.dropLast ∧ l' ≠ [] := by
  induction h with
  | @fin fi rest hd =>
    refine ⟨[(0, [], 0, [], decide (([] : Bs) = []) && !fi)], ?_, rfl, rfl, by simp⟩
    rw [show prT fi [(0, [], 0, [], decide (skp false rest = 0) && !fi)] = [] by simp [prT]]
    exact Lay.fin sep_nil
  | @tok fi rest c r kd n v bs l hd ht hs ih =>
    obtain ⟨l', h1, h2, h3, h4⟩ := ih
    have hk := tokL_kind ht
    generalize hj : (decide (skp false rest = 0) && !fi) = j
    have hfi : j = true → fi = false := fun h => by rw [h] at hj; simp at hj; exact hj.2
    have hl0 : l ≠ [] := by intro e; subst e; simp at h2; exact h4 h2
    have fin : ∀ {j' : Bool} {tt : Bs}, j' = j → Lay fi ((kd, (c :: r).take n, v, bs, j) :: l) tt ((kd, (c :: r).take n, v, bs, j') :: l') → tt = prT fi ((kd, (c :: r).take n, v, bs, j) :: l) →
        ∃ l'_1, Lay fi ((kd, (c :: r).take n, v, bs, j) :: l) (prT fi ((kd, (c :: r).take n, v, bs, j) :: l)) l'_1 ∧ l'_1.length = ((kd, (c :: r).take n, v, bs, j) :: l).length ∧ l'_1.dropLast = ((kd, (c :: r).take n, v, bs, j) :: l).dropLast ∧ l'_1 ≠ [] := by
      intro j' tt e1 e2 e3
      subst e1; subst e3
      refine ⟨_, e2, by simp [h2], ?_, by simp⟩
      obtain ⟨a, l2, rfl⟩ := List.exists_cons_of_ne_nil hl0
      obtain ⟨b, l3, rfl⟩ := List.exists_cons_of_ne_nil h4
      simp only [List.dropLast_cons_cons] at h3 ⊢
      rw [h3]
    cases hfe : fi with
    | true =>
      rw [hfe] at hj hfi fin
      cases j with
      | true => simp at hfi
      | false => exact fin (j' := decide (([] : Bs) = []) && !true) rfl (Lay.tok sep_nil (fun h => by cases h) h1) (by simp [prT, hk])
    | false =>
      rw [hfe] at hj hfi fin
      cases j with
      | true => exact fin (j' := decide (([] : Bs) = []) && !false) rfl (Lay.tok sep_nil (fun _ _ => rfl) h1) (by simp [prT, hk])
      | false => exact fin (j' := decide (([32] : Bs) = []) && !false) rfl (Lay.tok sep_bl (fun _ h => by cases h) h1) (by simp [prT, hk])
theorem print_size {fi : Bool} {rest : Bs} {l : List Core} (h : Sc fi rest l) : (prT fi l).length ≤ l.length + rest.length := by
  induction h with
  | @fin fi rest hd => simp [prT]
  | @tok fi rest c r kd n v bs l hd ht hs ih =>
    have hk := tokL_kind ht
    obtain ⟨⟨n1, n2⟩, _⟩ := tok_local ht
    have hcr : (c :: r).length = rest.length - skp false rest := by rw [← hd, List.length_drop]
    simp only [prT, if_neg hk, List.length_append, List.length_cons, List.length_take]
    rw [List.length_drop] at ih
    split
    · simp at ih hcr n2 ⊢; omega
    · simp at ih hcr n2 ⊢; omega
theorem scan_print {s : Bs} {m : List Tk} (h : scan s = .ok m) : (prT true (m.map Tk.core)).length ≤ m.length + s.length ∧
    ∃ m', scan (prT true (m.map Tk.core)) = .ok m' ∧ m'.length = m.length ∧ (m'.map Tk.core).dropLast = (m.map Tk.core).dropLast := by
  obtain ⟨m1, h1, h2⟩ := sc_of_scan _ _ _ _ _ h
  have h1 : m = m1 := by simpa using h1
  subst h1
  have h2 : Sc true s (m.map Tk.core) := h2
  obtain ⟨l', k1, k2, k3, k4⟩ := lay_print h2
  obtain ⟨m', h3, h4⟩ := scan_of_sc (sc_lay h2 k1) ((prT true (m.map Tk.core)).length + 1) [] 0 rfl (by omega)
  refine ⟨by simpa using print_size h2, m', by simpa [scan] using h3, ?_, by rw [h4, k3]⟩
  have := congrArg List.length h4
  simp at this k2
  omega
theorem sc_text {fi : Bool} {rest : Bs} {l : List Core} (h : Sc fi rest l) : ∀ c ∈ l, c.1 = 0 ∨ c.2.1 ≠ [] := by
  induction h with
  | @fin fi rest hd => intro c hc; simp at hc; subst hc; exact .inl rfl
  | @tok fi rest c r kd n v bs l hd ht hs ih =>
    intro c' hc
    rcases List.mem_cons.1 hc with rfl | hc
    · right
      obtain ⟨⟨n1, n2⟩, _⟩ := tok_local ht
      obtain ⟨k, rfl⟩ : ∃ k, n = k + 1 := ⟨n - 1, by omega⟩
      simp
    · exact ih c' hc
theorem scan_text {s : Bs} {m : List Tk} (h : scan s = .ok m) : ∀ c ∈ m.map Tk.core, c.1 = 0 ∨ c.2.1 ≠ [] := by
  obtain ⟨m1, h1, h2⟩ := sc_of_scan _ _ _ _ _ h
  have h1 : m = m1 := by simpa using h1
  subst h1
  exact sc_text h2
end LexP
namespace Go.Proofs.YtkbfgmneibabgaaDoor
open Go Go.Pm Go.RowKit
open LexP hiding place Sep Run
theorem Bld.push {k : Nat} {bs : Bs} {H : List Blk} (h : Bld k bs H) (b : Blk) : Bld k bs (H ++ [b]) := by
  obtain ⟨a, buf, hk, ha, hacc⟩ := h.st
  refine ⟨a, buf, by rw [List.getElem?_append_left (List.getElem?_eq_some_iff.1 hk).1]; exact hk, ha, ?_⟩
  rcases hacc with h1 | ⟨h1, kt, v, h2, h3⟩
  · exact .inl h1
  · exact .inr ⟨h1, kt, v, h2, by rw [List.getElem?_append_left (List.getElem?_eq_some_iff.1 h3).1]; exact h3⟩
theorem Bld.lt {k : Nat} {bs : Bs} {H : List Blk} (h : Bld k bs H) : k < H.length := by
  obtain ⟨a, buf, hk, ha, hacc⟩ := h.st
  exact (List.getElem?_eq_some_iff.1 hk).1
noncomputable def T22 : FuncId → Option Pm.Spec := tab [(49, .heap (arunAll Y T49 Tryd.f49)), (51, .heap (arunAll Y T49 Tryd.f51)), (53, .heap (stringF 5))]
theorem T22_eq (g : Nat) : T22 g = tab [(49, .heap (arunAll Y T49 Tryd.f49)), (51, .heap (arunAll Y T49 Tryd.f51)), (53, .heap (stringF 5))] g := rfl
theorem tok22 (W0 : World) : TOk Tryd.prog W0 T22 := tok_cons (meets49 W0) (tok_cons (meets51 W0) (tok_cons (meets53 W0) tok_nil))
theorem loop22 {F : List Fr} {P : SV × List Blk → Prop} {x : SV} {es : List (List PV)} {cs : List Core} (hx : RowF 23 x es) (hd : decR es = some cs) (hm : cs.length ≤ 100000) (hz : (prT true cs).length ≤ 1000000) {kb : Nat} :
    ∀ (r pre : List Core) (fi : Bool) (bs : Bs) (H : List Blk), pre ++ r = cs → bs ++ prT fi r = prT true cs → Bld kb bs H → (∀ H', Bld kb (prT true cs) H' → X Y T22 [.tmp 2] F (.exit 0) ⟨mk 29 .J [(3, .ptr kb 0)], H'⟩ P) →
    X Y T22 [.tmp 2] F (.loop (loopN Tryd.f22 0)) ⟨mk 29 .J [(3, .ptr kb 0), (4, .bool fi), (7, x), (8, .i es.length), (9, .i pre.length)], H⟩ P
  | [], pre, fi, bs, H, h1, h2, hB, he => by
    have e1 : pre.length = es.length := by rw [(decR_of hd).1, ← h1]; simp
    have e2 : bs = prT true cs := by simpa [prT] using h2
    subst e2
    have hq := he H hB
    rw [e1]
    apply X_loop_of
    · simp only [loopN, Tryd.f22, loopsOf, List.nil_append, List.append_nil, List.cons_append, List.getD_cons_succ, List.getD_cons_zero]; rfl
    simp
    refine X_keep hq ?_
    simp
  | c :: r, pre, fi, bs, H, h1, h2, hB, he => by
    have la := (decR_of hd).1
    have n1 : cs.length = pre.length + (r.length + 1) := by rw [← h1]; simp
    have ia : es[pre.length]? = some es[pre.length] := by simp
    generalize es[pre.length] = a at ia
    obtain ⟨c', k1, k2⟩ := (decR_of hd).2 _ _ ia
    have q1 : cs[pre.length]? = some c := by rw [← h1]; simp
    rw [q1] at k2
    cases k2
    obtain ⟨l1, o1, rfl⟩ := decC_of k1
    obtain ⟨k, tx, v, b, j⟩ := c
    have ra1 := hx.at_ _ _ ia
    have lt : (pre.length : Int) < (es.length : Int) := by omega
    have ltn : pre.length < es.length := by omega
    have w1 : IntKind.i64.wrap ((pre.length : Int) + 1) = ((pre ++ [(k, tx, v, b, j)]).length : Int) := by rw [wrap64 (by omega) (by omega)]; simp
    have hpush := hB.push (.box (some 42) [.pv (.int .i64 k), .pv (.str tx), .pv (.int .i64 v), .pv (.str b), .pv (.int .i64 l1), .pv (.int .i64 o1), .pv (.bool j)])
    have hkl := hB.lt
    have hne : H.length ≠ kb := by omega
    have h2l : bs.length + (prT fi ((k, tx, v, b, j) :: r)).length = (prT true cs).length := by rw [← h2, List.length_append]
    by_cases hk0 : k = 0
    · have ih := fun H' hB' => loop22 (F := F) (P := P) hx hd hm hz (kb := kb) r (pre ++ [(k, tx, v, b, j)]) fi bs H' (by rw [← h1]; simp) (by rw [← h2]; simp [prT, hk0]) hB' he
      generalize ((pre ++ [(k, tx, v, b, j)]).length : Int) = E at *
      subst hk0
      apply X_loop_of
      · simp only [loopN, Tryd.f22, loopsOf, List.nil_append, List.append_nil, List.cons_append, List.getD_cons_succ, List.getD_cons_zero]; rfl
      simp [-aLen, -aIndexAddr, hx.len, hx.live, lt, ltn, ra1, w1, set_last, get_last]
      refine X_keep (ih _ hpush) ?_
      simp
    · have hpr : prT fi ((k, tx, v, b, j) :: r) = (if fi || j then [] else [32]) ++ (tx ++ prT false r) := by simp [prT, hk0]
      rw [hpr] at h2 h2l
      simp only [List.length_append] at h2l
      by_cases hs : (fi || j) = true
      · rw [if_pos hs] at h2 h2l
        obtain ⟨r2, H2, e2, B2, f2⟩ := all51' hpush tx (by simp at h2l; omega)
        have ih := loop22 (F := F) (P := P) hx hd hm hz (kb := kb) r (pre ++ [(k, tx, v, b, j)]) false (bs ++ tx) H2 (by rw [← h1]; simp) (by rw [← h2]; simp) B2 he
        generalize ((pre ++ [(k, tx, v, b, j)]).length : Int) = E at *
        apply X_loop_of
        · simp only [loopN, Tryd.f22, loopsOf, List.nil_append, List.append_nil, List.cons_append, List.getD_cons_succ, List.getD_cons_zero]; rfl
        have hs' : fi = true ∨ (fi = false ∧ j = true) := by cases fi <;> simp_all
        rcases hs' with rfl | ⟨rfl, rfl⟩
        · simp [-aLen, -aIndexAddr, hx.len, hx.live, lt, ltn, ra1, w1, set_last, get_last, hk0, T22_eq, e2]
          refine X_keep ih ?_
          simp
        · simp [-aLen, -aIndexAddr, hx.len, hx.live, lt, ltn, ra1, w1, set_last, get_last, hk0, T22_eq, e2]
          refine X_keep ih ?_
          simp
      · rw [if_neg hs] at h2 h2l
        obtain ⟨H1, e1, B1, f1⟩ := all49 hpush 32 (by omega) (by simp at h2l; omega)
        have t1 := f1.box H.length (some 42) _ hne (by rw [List.getElem?_append_right (Nat.le_refl _), Nat.sub_self]; rfl)
        obtain ⟨r2, H2, e2, B2, f2⟩ := all51' B1 tx (by simp at h2l ⊢; omega)
        have ih := loop22 (F := F) (P := P) hx hd hm hz (kb := kb) r (pre ++ [(k, tx, v, b, j)]) false (bs ++ [32] ++ tx) H2 (by rw [← h1]; simp) (by rw [← h2]; simp) B2 he
        generalize ((pre ++ [(k, tx, v, b, j)]).length : Int) = E at *
        apply X_loop_of
        · simp only [loopN, Tryd.f22, loopsOf, List.nil_append, List.append_nil, List.cons_append, List.getD_cons_succ, List.getD_cons_zero]; rfl
        have hs' : fi = false ∧ j = false := by cases fi <;> cases j <;> simp_all
        obtain ⟨rfl, rfl⟩ := hs'
        simp [-aLen, -aIndexAddr, hx.len, hx.live, lt, ltn, ra1, w1, set_last, get_last, hk0, T22_eq, e1, t1, e2]
        refine X_keep ih ?_
        simp
def F22 : List SV → Option SV
  | [x] => match rowsOf x with
    | some es => match decR es with
      | some cs => if cs.length ≤ 100000 ∧ (prT true cs).length ≤ 1000000 then some (.str (prT true cs)) else none
      | none => none
    | none => none
  | _ => none
theorem meets22 (W0 : World) : OkAt W0 22 F22 := meets_fn env (tok22 W0) mixed Tryd.func22 (by kernel_rfl) (by kernel_rfl) fun args r h => by
  unfold F22 at h
  split at h
  · rename_i x
    split at h
    · rename_i es h1
      split at h
      · rename_i cs h2
        split at h
        · rename_i hc
          cases h
          have hx := rowsOf_F h1
          have L := fun F P => loop22 (F := F) (P := P) hx h2 hc.1 hc.2 (kb := 0) cs [] true [] ([] ++ [.box (some 86) [.pv .nilPtr, .pv .nilSlice]]) rfl rfl (Bld.new [])
          unfold XFn Tryd.f22
          rw [enter_1 _ (by decide)]
          simp [-aLen, -aIndexAddr, hx.len, hx.live]
          refine X_keep (L _ _ ?_) (by simp)
          intro H' hB
          have q := str_at hB
          simp [T22_eq, q, Is_mk, outR, outP, outL]
        · cases h
      · cases h
    · cases h
  · cases h
end Go.Proofs.YtkbfgmneibabgaaDoor
