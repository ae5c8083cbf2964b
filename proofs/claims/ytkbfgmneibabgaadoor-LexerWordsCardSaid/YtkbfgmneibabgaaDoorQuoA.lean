/- WriteString, and Quote, by the machine. -/
import Derived.Test.YtkbfgmneibabgaaDoorLexV
set_option linter.unusedSimpArgs false
set_option linter.unusedVariables false
set_option maxRecDepth 1000000
set_option maxHeartbeats 1000000
namespace Go.Proofs.YtkbfgmneibabgaaDoor
open Go Go.Pm Go.RowKit
open LexP hiding place Sep Run
theorem min_at (s : Bs) (n : Nat) : aMinMax false [.pv (.int .i64 (s.length : Int)), .pv (.int .i64 (n : Int))] = some (.i ((min s.length n : Nat) : Int)) := by
  by_cases h : n < s.length
  · have h1 : (n : Int) < (s.length : Int) := by omega
    simp [aMinMax, h1]; omega
  · have h1 : ¬ (n : Int) < (s.length : Int) := by omega
    simp [-Int.not_lt, aMinMax, h1]; omega
theorem take_min (s : Bs) (n : Nat) : s.take (min s.length n) = s.take n := by
  by_cases h : n < s.length
  · rw [Nat.min_eq_right (by omega)]
  · rw [Nat.min_eq_left (by omega), List.take_of_length_le (by omega), List.take_of_length_le (by omega)]
/-- A text appended to a row of bytes. -/
theorem app_text {H : List Blk} {buf : SV} {bs : Bs} (k : Nat) (h : Acc 5 1 H (bRow bs) buf) (l : Bs) (hl : bs.length + l.length ≤ 20000000) :
    ∃ out' H', aAppend Y H 36 36 buf (.tight 1 (byteRow l)) = some (out', H') ∧ Acc 5 1 H' (bRow (bs ++ l)) out' ∧ (∀ (j : Nat) (t : Option TypeId) (cs : List SV), H[j]? = some (.box t cs) → H'[j]? = some (.box t cs)) ∧ FrE k 5 H H' := by
  cases l with
  | nil =>
    refine ⟨buf, H, ?_, by simpa using h, fun j t cs h => h, FrE.refl _ _ _⟩
    rcases h with ⟨h1, rfl⟩ | ⟨h1, kt, v, rfl, hkv⟩ <;> simp [aAppend, sliceElems, byteRow]
  | cons c l =>
    have hlen : (byteRow (c :: l)).length = l.length + 1 := by simp [byteRow]
    have hne : byteRow (c :: l) ≠ [] := by simp [byteRow]
    have hemp : (byteRow (c :: l)).isEmpty = false := by simp [byteRow]
    have hb : bRow (bs ++ c :: l) = bRow bs ++ byteRow (c :: l) := by simp [bRow, byteRow]
    have hm : (bRow bs).length + (byteRow (c :: l)).length ≤ maxRow := by simp [bRow, byteRow, maxRow] at hl ⊢; omega
    simp only [maxRow] at hm
    have hm2 : (byteRow (c :: l)).length ≤ 70368744177664 := by omega
    rw [hb]
    generalize byteRow (c :: l) = xs at *
    rcases h with ⟨h1, rfl⟩ | ⟨h1, kt, v, rfl, hkv⟩
    · rw [h1]
      have key : ∀ (j : Nat) (b : Blk), H[j]? = some b → (H ++ [Blk.tok 0 5])[j]? = some b := fun j b hc => by
        rw [List.getElem?_append_left (List.getElem?_eq_some_iff.1 hc).1]; exact hc
      refine ⟨.own H.length 0 1 xs, H ++ [.tok 0 5], ?_, .inr ⟨by simpa using hne, _, _, rfl, by simp⟩, fun j t cs h => key _ _ h, ⟨fun j t cs _ h => key _ _ h, fun j v e' _ h => key _ _ h, by simp⟩⟩
      simp [aAppend, sliceElems, strideOk, hemp, hne, hm2]
    · have nb : ∀ (j : Nat) (t : Option TypeId) (cs : List SV), H[j]? = some (.box t cs) → (H.set kt (.tok (v + 1) 5))[j]? = some (.box t cs) := fun j t cs hc => by
        have : kt ≠ j := by intro e; subst e; rw [hkv] at hc; cases hc
        rw [List.getElem?_set_ne this]; exact hc
      refine ⟨.own kt (v + 1) 1 (bRow bs ++ xs), H.set kt (.tok (v + 1) 5), ?_, .inr ⟨by simp [h1], _, _, rfl, by rw [List.getElem?_set_self (List.getElem?_eq_some_iff.1 hkv).1]⟩, nb, ⟨fun j t cs _ h => nb j t cs h, fun j v' e' he hc => ?_, by simp⟩⟩
      · simp [aAppend, sliceElems, strideOk, hemp, hne, hm, hkv]
      · have : kt ≠ j := by intro e1; subst e1; rw [hkv] at hc; cases hc; exact he rfl
        rw [List.getElem?_set_ne this]; exact hc
noncomputable abbrev T51 := T49
theorem meets51 (W0 : World) : Enterable Tryd.prog 51 ∧ Meets Tryd.prog W0 51 (specFn (.heap (arunAll Y T49 Tryd.f51))) := meets_heap env (tok49 W0) mixed Tryd.func51 (by kernel_rfl) (by kernel_rfl)
theorem all51 {k : Nat} {bs : Bs} {H : List Blk} (h : Bld k bs H) (l : Bs) (hl : bs.length + l.length ≤ 10000000) :
    ∃ H', arunAll Y T49 Tryd.f51 [.ptr k 0, .str l] H = some (.tuple [.i l.length, .pv .nilIface], H') ∧ Bld k (bs ++ l) H' ∧ FrE k 5 H H' := by
  obtain ⟨buf, H1, e1, hk1, ha1, f1⟩ := h.copy
  obtain ⟨out', H2, e2, ha2, nb, f2⟩ := app_text k ha1 l (by omega)
  have hk2 := nb _ _ _ hk1
  have hlt := (List.getElem?_eq_some_iff.1 hk2).1
  have hx : XFn Y T49 Tryd.f51 [.ptr k 0, .str l] H (fun x => x = (.tuple [.i l.length, .pv .nilIface], H2.set k (.box (some 86) [.ptr k 0, out']))) := by
    unfold XFn Tryd.f51
    rw [enter_2 _ (by decide)]
    simp [-aAppend, -cellsOf, T49_eq, e1, hk1, e2, hk2, ha1.live, ha2.live, acc_cells ha2, cells_pv]
  obtain ⟨r, H', h1, h2⟩ := all_of_XFn (by rfl) hx
  cases h2
  exact ⟨_, h1, ⟨⟨.ptr k 0, out', by simp [hlt], .inr rfl, ha2.box hk2⟩⟩, (f1.trans f2).trans (FrE.setBox hk2)⟩
theorem all51' {k : Nat} {bs : Bs} {H : List Blk} (h : Bld k bs H) (l : Bs) (hl : bs.length + l.length ≤ 10000000) : ∃ r H', arunAll Y T49 Tryd.f51 [.ptr k 0, .str l] H = some (r, H') ∧ Bld k (bs ++ l) H' ∧ FrE k 5 H H' :=
  let ⟨H', h1, h2, h3⟩ := all51 h l hl; ⟨_, H', h1, h2, h3⟩
noncomputable def T20 : FuncId → Option Pm.Spec := tab [(49, .heap (arunAll Y T49 Tryd.f49)), (50, .pure false F50), (51, .heap (arunAll Y T49 Tryd.f51)), (52, .pure false (bF stdZ)), (53, .heap (stringF 5))]
theorem T20_eq (g : Nat) : T20 g = tab [(49, .heap (arunAll Y T49 Tryd.f49)), (50, .pure false F50), (51, .heap (arunAll Y T49 Tryd.f51)), (52, .pure false (bF stdZ)), (53, .heap (stringF 5))] g := rfl
theorem tok20 (W0 : World) : TOk Tryd.prog W0 T20 := tok_cons (meets49 W0) (tok_cons (meets50 W0) (tok_cons (meets51 W0) (tok_cons (meets52 W0) (tok_cons (meets53 W0) tok_nil))))
abbrev quoS : Bs := [10, 9, 92, 34]
theorem quo_not (c : UInt8) (h : ¬ (c = 10 ∨ c = 9 ∨ c = 92 ∨ c = 34)) : Lib.indexByte quoS c = -1 := by
  have := byte_all (p := fun c => (c = 10 ∨ c = 9 ∨ c = 92 ∨ c = 34) ∨ Lib.indexByte quoS c = -1) (by decide +kernel) c
  rcases this with h1 | h1
  · exact absurd h1 h
  · exact h1
theorem hex_sl {q : Nat} (h : q < 16) : (hexS.take (q + 1)).drop q = [hexC q] := by
  have : ∀ q : Fin 16, (hexS.take (q.1 + 1)).drop q.1 = [hexC q.1] := by decide
  exact this ⟨q, h⟩
theorem quo1_pos' (c : UInt8) : (quo1 c).length ≤ 4 := (quo1_pos c).2
theorem loop20 {F : List Fr} {P : SV × List Blk → Prop} {kb : Nat} {s : Bs} (hs : s.length ≤ 20000) : ∀ (r pre : Bs) (bs : Bs) (H : List Blk), pre ++ r = s → bs.length ≤ 1 + 4 * pre.length → Bld kb bs H →
    (∀ H', Bld kb (bs ++ quoB r) H' → X Y T20 [.tmp 2, .tmp 3] F (.exit 0) ⟨mk 53 .J [(4, .ptr kb 0)], H'⟩ P) →
    X Y T20 [.tmp 2, .tmp 3] F (.loop (loopN Tryd.f20 0)) ⟨mk 53 .J [(0, .str s), (4, .ptr kb 0), (13, .i s.length), (14, .i pre.length)], H⟩ P
  | [], pre, bs, H, hr, hb, hB, hx => by
    have hr' : pre = s := by simpa using hr
    have hx := hx H (by simpa [quoB] using hB)
    apply X_loop_of
    · simp only [loopN, Tryd.f20, loopsOf, List.nil_append, List.append_nil, List.cons_append, List.getD_cons_succ, List.getD_cons_zero]; rfl
    subst hr'
    simp
    refine X_keep hx ?_
    simp
  | c :: r, pre, bs, H, hr, hb, hB, hx => by
    have hsl : s.length = pre.length + (r.length + 1) := by rw [← hr, List.length_append, List.length_cons]
    have hi : s[pre.length]? = some c := by rw [← hr]; simp
    have h1 : (pre.length : Int) < (s.length : Int) := by omega
    have w1 : IntKind.i64.wrap ((pre.length : Int) + 1) = ((pre ++ [c]).length : Int) := by rw [wrap64 (by omega) (by omega)]; simp
    have hpl : (pre ++ [c]).length = pre.length + 1 := by simp
    have hq4 := quo1_pos' c
    have ih : ∀ H', Bld kb (bs ++ quo1 c) H' → X Y T20 [.tmp 2, .tmp 3] F (.loop (loopN Tryd.f20 0)) ⟨mk 53 .J [(0, .str s), (4, .ptr kb 0), (13, .i s.length), (14, .i (pre ++ [c]).length)], H'⟩ P := fun H' hB' =>
      loop20 hs r (pre ++ [c]) (bs ++ quo1 c) H' (by rw [← hr]; simp) (by rw [List.length_append, hpl]; omega) hB' (fun H'' h => hx H'' (by simpa [quoB, List.append_assoc] using h))
    clear hx hr
    generalize ((pre ++ [c]).length : Int) = E at *
    apply X_loop_of
    · simp only [loopN, Tryd.f20, loopsOf, List.nil_append, List.append_nil, List.cons_append, List.getD_cons_succ, List.getD_cons_zero]; rfl
    by_cases hc : c = 10 ∨ c = 9 ∨ c = 92 ∨ c = 34
    · rcases hc with rfl | rfl | rfl | rfl
      · have hF : F50 [.str quoS, u8 10] = some (.i 0) := by rfl
        obtain ⟨r', H', g1, g2, g3⟩ := all51' hB [92, 110] (by simp; omega)
        have ih := ih H' g2
        simp [h1, hi, T20_eq, hF, g1, w1]
        refine X_keep ih ?_
        simp
      · have hF : F50 [.str quoS, u8 9] = some (.i 1) := by rfl
        obtain ⟨r', H', g1, g2, g3⟩ := all51' hB [92, 116] (by simp; omega)
        have ih := ih H' g2
        simp [h1, hi, T20_eq, hF, g1, w1]
        refine X_keep ih ?_
        simp
      · have hF : F50 [.str quoS, u8 92] = some (.i 2) := by rfl
        obtain ⟨r', H', g1, g2, g3⟩ := all51' hB [92, 92] (by simp; omega)
        have ih := ih H' g2
        simp [h1, hi, T20_eq, hF, g1, w1]
        refine X_keep ih ?_
        simp
      · have hF : F50 [.str quoS, u8 34] = some (.i 3) := by rfl
        obtain ⟨r', H', g1, g2, g3⟩ := all51' hB [92, 34] (by simp; omega)
        have ih := ih H' g2
        simp [h1, hi, T20_eq, hF, g1, w1]
        refine X_keep ih ?_
        simp
    · have hix := quo_not c hc
      have hF : F50 [.str quoS, u8 (c.toNat : Int)] = some (.i (-1)) := by
        have := u8_of c
        unfold z at this
        simp only [F50, this, hix]
      have hn : ¬ z c = 10 ∧ ¬ z c = 9 ∧ ¬ z c = 92 ∧ ¬ z c = 34 := by
        refine ⟨fun e => hc ?_, fun e => hc ?_, fun e => hc ?_, fun e => hc ?_⟩
        · exact .inl (z_inj (c := c) (d := 10) e)
        · exact .inr (.inl (z_inj (c := c) (d := 9) e))
        · exact .inr (.inr (.inl (z_inj (c := c) (d := 92) e)))
        · exact .inr (.inr (.inr (z_inj (c := c) (d := 34) e)))
      have hst := bF_at stdZ c
      by_cases h2 : stdZ (z c) = true
      · have hq : quo1 c = [c] := by unfold quo1; rw [if_neg hn.1, if_neg hn.2.1, if_neg hn.2.2.1, if_neg hn.2.2.2, if_pos h2]
        obtain ⟨H', g1, g2, g3⟩ := all49 hB (z c) (z_range c) (by omega)
        rw [u8_of'] at g2
        have g1 : arunAll Y T49 Tryd.f49 [.ptr kb 0, u8 (c.toNat : Int)] H = some (.pv .nilIface, H') := g1
        have ih := ih H' (by rw [hq]; exact g2)
        simp [h1, hi, T20_eq, hF, hst, h2, g1, w1]
        refine X_keep ih ?_
        simp
      · have h2' : stdZ (z c) = false := by simpa using h2
        have hq : quo1 c = [92, 120, hexC (c.toNat / 16), hexC (c.toNat % 16)] := by unfold quo1; rw [if_neg hn.1, if_neg hn.2.1, if_neg hn.2.2.1, if_neg hn.2.2.2, if_neg h2]
        have hcr := c.toNat_lt
        have q1 : c.toNat / 16 < 16 := by omega
        have q2 : c.toNat % 16 < 16 := by omega
        have a1 : IntKind.u8.wrap ((c.toNat : Int).tdiv 16) = ((c.toNat / 16 : Nat) : Int) := by rw [Int.tdiv_eq_ediv_of_nonneg (by omega), wrap_u8 (by omega) (by omega)]; omega
        have a2 : (c.toNat : Int).tmod 16 = ((c.toNat % 16 : Nat) : Int) := by rw [Int.tmod_eq_emod_of_nonneg (by omega)]; omega
        have a3 : IntKind.u8.wrap (((c.toNat / 16 : Nat) : Int) + 1) = ((c.toNat / 16 + 1 : Nat) : Int) := by rw [wrap_u8 (by omega) (by omega)]; omega
        have a4 : IntKind.u8.wrap (((c.toNat % 16 : Nat) : Int) + 1) = ((c.toNat % 16 + 1 : Nat) : Int) := by rw [wrap_u8 (by omega) (by omega)]; omega
        have a5 : IntKind.u8.wrap ((c.toNat : Int) / 16) = ((c.toNat / 16 : Nat) : Int) := by rw [wrap_u8 (by omega) (by omega)]; omega
        have a6 : (c.toNat : Int) % 16 = ((c.toNat % 16 : Nat) : Int) := by omega
        have s1 := hex_sl q1
        have s2 := hex_sl q2
        obtain ⟨r', H', g1, g2, g3⟩ := all51' hB [92, 120, hexC (c.toNat / 16), hexC (c.toNat % 16)] (by simp; omega)
        have ih := ih H' (by rw [hq]; exact g2)
        clear hq g2 hsl
        have t1 : ((c.toNat / 16 : Nat) : Int).toNat = c.toNat / 16 := by omega
        have t2 : ((c.toNat % 16 : Nat) : Int).toNat = c.toNat % 16 := by omega
        have t3 : ((c.toNat / 16 + 1 : Nat) : Int).toNat = c.toNat / 16 + 1 := by omega
        have t4 : ((c.toNat % 16 + 1 : Nat) : Int).toNat = c.toNat % 16 + 1 := by omega
        have p1 : (0 : Int) ≤ ((c.toNat / 16 : Nat) : Int) := by omega
        have p2 : (0 : Int) ≤ ((c.toNat % 16 : Nat) : Int) := by omega
        have p3 : (0 : Int) ≤ ((c.toNat / 16 + 1 : Nat) : Int) := by omega
        have p4 : (0 : Int) ≤ ((c.toNat % 16 + 1 : Nat) : Int) := by omega
        have l1 : c.toNat / 16 ≤ 15 := by omega
        have l2 : c.toNat % 16 ≤ 15 := by omega
        generalize hexC (c.toNat / 16) = x1 at *
        generalize hexC (c.toNat % 16) = x2 at *
        generalize ((c.toNat / 16 + 1 : Nat) : Int) = Q3 at *
        generalize ((c.toNat % 16 + 1 : Nat) : Int) = Q4 at *
        generalize ((c.toNat / 16 : Nat) : Int) = Q1 at *
        generalize ((c.toNat % 16 : Nat) : Int) = Q2 at *
        generalize c.toNat / 16 = n1 at *
        generalize c.toNat % 16 = n2 at *
        simp [-List.take_succ_cons, -List.drop_succ_cons, h1, hi, T20_eq, hF, hst, h2', a1, a2, a3, a4, a5, a6, t1, t2, t3, t4, p1, p2, p3, p4, l1, l2, s1, s2, g1, w1]
        refine X_keep ih ?_
        simp
def F20 : List SV → Option SV
  | [.pv (.str s)] => if s.length ≤ 20000 then some (if 4096 < s.length then .tuple [.str [], .i 5] else .tuple [.str (quoL s), .i 0]) else none
  | _ => none
theorem meets20 (W0 : World) : OkAt W0 20 F20 := meets_fn env (tok20 W0) mixed Tryd.func20 (by kernel_rfl) (by kernel_rfl) fun args r h => by
  unfold F20 at h
  split at h
  · rename_i s
    split at h
    · rename_i hs
      cases h
      unfold XFn Tryd.f20
      rw [enter_1 _ (by decide)]
      by_cases hl : 4096 < s.length
      · have hl' : (4096 : Int) < (s.length : Int) := by omega
        simp [hl, hl', Is_mk, outR, outP, outL]
      · have hl' : ¬ (4096 : Int) < (s.length : Int) := by omega
        have hB : Bld 0 [] ([] ++ [.box (some 86) [.pv .nilPtr, .pv .nilSlice]]) := Bld.new []
        obtain ⟨H1, g1, g2, g3⟩ := all49 hB 34 (by omega) (by simp)
        have g1 : arunAll Y T49 Tryd.f49 [.ptr 0 0, u8 34] [.box (some 86) [.pv .nilPtr, .pv .nilSlice]] = some (.pv .nilIface, H1) := g1
        have g2 : Bld 0 [34] H1 := g2
        simp [-Int.not_lt, -Nat.not_lt, hl, hl', T20_eq, g1]
        refine X_keep (loop20 (kb := 0) hs s [] [34] H1 (by simp) (by simp) g2 ?_) (by simp)
        intro H2 hB2
        have hq := (quoB_len s).2
        obtain ⟨H3, q1, q2, q3⟩ := all49 hB2 34 (by omega) (by simp; omega)
        have q1 : arunAll Y T49 Tryd.f49 [.ptr 0 0, u8 34] H2 = some (.pv .nilIface, H3) := q1
        have q4 := str_at q2
        have e : ([34] ++ quoB s) ++ [UInt8.ofNat (34 : Int).toNat] = quoL s := by simp [quoL]
        rw [e] at q4
        simp [T20_eq, q1, q4, Is_mk, outR, outP, outL]
    · cases h
  · cases h
end Go.Proofs.YtkbfgmneibabgaaDoor
