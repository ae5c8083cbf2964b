/- The law Finds. -/
import Derived.Test.YtkckpmcpmngiiaaGreatDoorLawD
set_option linter.unusedSimpArgs false
set_option linter.unusedVariables false
set_option maxRecDepth 1000000
set_option maxHeartbeats 1000000
namespace Go.Proofs.YtkckpmcpmngiiaaGreatDoor
open Go Go.Pm Go.RowKit
noncomputable def T10 : FuncId → Option Pm.Spec := tab [(11, .pure false (F11n 3)), (13, .pure false TO), (30, .pure false F30), (31, .pure false F31), (32, .pure false F32), (14, .pure false F14), (17, .pure false TO), (16, .pure false E16), (28, .pure false E16)]
theorem T10_eq (g : Nat) : T10 g = tab [(11, .pure false (F11n 3)), (13, .pure false TO), (30, .pure false F30), (31, .pure false F31), (32, .pure false F32), (14, .pure false F14), (17, .pure false TO), (16, .pure false E16), (28, .pure false E16)] g := rfl
theorem tok10 {W0 : World} (L : Laid W0) : TOk Tryz.prog W0 T10 := tok_cons (meets11 W0 2 (by decide)) (tok_cons (meets13 W0) (tok_cons (meets30 W0) (tok_cons (meets31 W0) (tok_cons (meets32 W0) (tok_cons (meets14 L) (tok_cons (meets17 W0) (tok_cons (meets16 W0) (tok_cons (meets28 W0) tok_nil))))))))
abbrev bx25 (n : Nd) : Blk := .box (some 25) [.pv (.str n.name), .pv (slN 2 (n.attrs.map atRow)), .pv (.str n.text), .pv (slN 4 (encL n.kids))]
theorem loop10a {F : List Fr} {P : SV × List Blk → Prop} {H : List Blk} {n : Nd} {nm : Bs} {v6 v7 v9 v10 : SV} (h0 : H[0]? = some (bx25 n)) (hl : n.attrs.length ≤ 1000000) : ∀ (r : Nat) (z : Int), r ≤ n.attrs.length → z = (r : Int) - 1 →
    X Y T10 [.tmp 4] F (.exit 0) ⟨mk 147 .J [(1, .str nm), (2, .ptr 0 0), (6, v6), (7, v7), (8, .ptr 2 0), (9, v9), (10, v10), (11, .str (attrOf nm n.attrs).1), (12, .bool (attrOf nm n.attrs).2)], H⟩ P →
    X Y T10 [.tmp 4] F (.loop (loopN Tryz.f10 0)) ⟨mk 147 .J [(1, .str nm), (2, .ptr 0 0), (6, v6), (7, v7), (8, .ptr 2 0), (9, v9), (10, v10), (11, .str (attrOf nm (n.attrs.drop r)).1), (12, .bool (attrOf nm (n.attrs.drop r)).2), (13, .i z)], H⟩ P := by
  intro r
  induction r with
  | zero =>
    intro z hr hz hx
    rw [List.drop_zero]
    have c1 : ¬ (0 : Int) ≤ z := by omega
    have c2 : z < 0 := by omega
    apply X_loop_of
    · simp only [loopN, Tryz.f10, loopsOf, List.nil_append, List.append_nil, List.cons_append, List.getD_cons_succ, List.getD_cons_zero]; rfl
    simp [-Int.not_lt, -Int.not_le, c1, c2]
    refine X_keep hx (by simp)
  | succ r ih =>
    intro z hr hz hx
    obtain ⟨x, hxr⟩ : ∃ x, n.attrs[r]? = some x := ⟨_, List.getElem?_eq_getElem (by omega)⟩
    have hat := (at_at (atP_slN n.attrs) hxr).2
    have ez : z = ((r : Nat) : Int) := by omega
    rw [← ez] at hat
    have c1 : (0 : Int) ≤ z := by omega
    have q3 : IntKind.i64.wrap (z - 1) = z - 1 := wrap64 (by omega) (by omega)
    have ih := ih (z - 1) (by omega) (by omega) hx
    rw [attrOf_drop nm hxr] at ih
    apply X_loop_of
    · simp only [loopN, Tryz.f10, loopsOf, List.nil_append, List.append_nil, List.cons_append, List.getD_cons_succ, List.getD_cons_zero]; rfl
    by_cases he : x.1 = nm
    · rw [if_pos he] at ih
      rw [he] at hat
      simp [-Int.not_lt, -Int.not_le, -aIndexAddr, -getElem?_pos, List.getElem?_cons_zero, List.getElem?_cons_succ, h0, hat, c1, q3, T10_eq]
      refine X_keep ih (by simp)
    · rw [if_neg he] at ih
      simp [-Int.not_lt, -Int.not_le, -aIndexAddr, -getElem?_pos, List.getElem?_cons_zero, List.getElem?_cons_succ, h0, hat, c1, q3, he, T10_eq]
      refine X_keep ih (by simp)
theorem loop10b {F : List Fr} {P : SV × List Blk → Prop} {H0 : List Blk} {n : Nd} {nm : Bs} {v6 v7 v9 v10 v11 v12 : SV} (h0 : H0[0]? = some (bx25 n)) (hb : n.kids.length ≤ 100000) : ∀ (r i : Nat) (H : List Blk) (A : SV), i + r = n.kids.length → Acc 25 4 H (encL (named nm (n.kids.take i))) A →
    (∀ {t0 : Option TypeId} (k : Nat) (cs : List SV), H0[k]? = some (.box t0 cs) → H[k]? = some (.box t0 cs)) →
    (∀ H A, Acc 25 4 H (encL (named nm n.kids)) A → (∀ {t0 : Option TypeId} (k : Nat) (cs : List SV), H0[k]? = some (.box t0 cs) → H[k]? = some (.box t0 cs)) → X Y T10 [.tmp 4] F (.exit 2) ⟨mk 147 .J [(6, v6), (7, v7), (8, .ptr 2 0), (9, v9), (10, v10), (11, v11), (12, v12), (14, A)], H⟩ P) →
    X Y T10 [.tmp 4] F (.loop (loopN Tryz.f10 1)) ⟨mk 147 .J [(1, .str nm), (2, .ptr 0 0), (6, v6), (7, v7), (8, .ptr 2 0), (9, v9), (10, v10), (11, v11), (12, v12), (14, A), (15, .i (i : Nat))], H⟩ P := by
  intro r
  induction r with
  | zero =>
    intro i H A e hA hbx hx
    have e1 : i = n.kids.length := by omega
    subst e1
    rw [List.take_of_length_le (Nat.le_refl _)] at hA
    have h0' := hbx 0 _ h0
    have hl := (kidS_len n.kids).2
    apply X_loop_of
    · simp only [loopN, Tryz.f10, loopsOf, List.nil_append, List.append_nil, List.cons_append, List.getD_cons_succ, List.getD_cons_zero]; rfl
    simp [-aLen, -getElem?_pos, List.getElem?_cons_zero, List.getElem?_cons_succ, h0', hl]
    refine X_keep (hx H A hA hbx) (by simp)
  | succ r ih =>
    intro i H A e hA hbx hx
    have hi : i < n.kids.length := by omega
    obtain ⟨c, hc⟩ : ∃ c, n.kids[i]? = some c := ⟨_, List.getElem?_eq_getElem hi⟩
    have h0' := hbx 0 _ h0
    have hl := (kidS_len n.kids).2
    have hat := (kidS_at hc).2
    rw [enc_eq] at hat
    have q3 := next_i (m := i) (by omega)
    have c4 : ((i : Nat) : Int) < (n.kids.length : Nat) := by omega
    have hs := named_snoc nm hc
    have hle := named_le nm (n.kids.take i)
    rw [List.length_take] at hle
    apply X_loop_of
    · simp only [loopN, Tryz.f10, loopsOf, List.nil_append, List.append_nil, List.cons_append, List.getD_cons_succ, List.getD_cons_zero]; rfl
    by_cases hnm : c.name = nm
    · obtain ⟨K', H2, a1, a2, a3⟩ := app23 c.enc (by rw [encL_len]; omega) hA
      rw [enc_eq] at a1
      rw [← encL_snoc] at a2
      rw [if_pos hnm] at hs
      rw [← hs] at a2
      have hlv := hA.live
      rw [hnm] at a1 hat
      simp [-Int.natCast_add, -Int.not_lt, -Int.not_le, -aLen, -aIndexAddr, -aAppend, -getElem?_pos, List.getElem?_cons_zero, List.getElem?_cons_succ, q3, c4, hl, h0', hat, hlv, a1, hnm, a2.live]
      refine X_keep (ih (i + 1) _ _ (by omega) a2 (fun k cs h => a3 k cs (hbx k cs h)) hx) ?_
      simp
    · rw [if_neg hnm] at hs
      rw [← hs] at hA
      simp [-Int.natCast_add, -Int.not_lt, -Int.not_le, -aLen, -aIndexAddr, -aAppend, -getElem?_pos, List.getElem?_cons_zero, List.getElem?_cons_succ, q3, c4, hl, h0', hat, hnm]
      refine X_keep (ih (i + 1) _ _ (by omega) hA hbx hx) ?_
      simp
/-- A list of elements that was appended to: its length, its rows. -/
structure AccK (A : SV) (l : List Nd) : Prop where
  at' : ∀ (i : Nat) (c : Nd), l[i]? = some c → aIndexAddr Y 23 A (i : Nat) = some (.cptr c.enc)
  len : aLen Y 23 A = some l.length
  live : Pm.live A = some A
theorem AccK.acc {H : List Blk} {A : SV} {l : List Nd} (h : Acc 25 4 H (encL l) A) : AccK A l := by
  rcases h with ⟨h1, rfl⟩ | ⟨h1, kt, v, rfl, h2⟩
  · have : l = [] := by
      cases l with
      | nil => rfl
      | cons a r => simp only [encL] at h1; cases h1
    subst this
    exact ⟨fun i x h => by simp at h, rfl, rfl⟩
  · refine ⟨fun i c hc => ?_, by simp [aLen, kindOf, sliceElems, encL_len], rfl⟩
    have h3 := encL_at hc
    simp [aIndexAddr, kindOf, aElem, h3, -getElem?_pos]
    try rfl
theorem loop10c {F : List Fr} {P : SV × List Blk → Prop} {H : List Blk} {l : List Nd} {A v9 : SV} (hA : AccK A l) (hl : l.length ≤ 100000) (ho : ∀ c ∈ l, c.count ≤ 1000000 ∧ c.ok = true) : ∀ (r i : Nat), i + r = l.length →
    X Y T10 [.tmp 4] F (.exit 4) ⟨mk 147 .J [(8, .ptr 2 0), (9, v9), (14, A)], H⟩ P →
    X Y T10 [.tmp 4] F (.loop (loopN Tryz.f10 2)) ⟨mk 147 .J [(8, .ptr 2 0), (9, v9), (10, .pv (slN 4 (encL l))), (14, A), (16, .i (i : Nat))], H⟩ P := by
  intro r
  induction r with
  | zero =>
    intro i e hx
    have e1 : i = l.length := by omega
    subst e1
    have hl := (kidS_len l).1
    apply X_loop_of
    · simp only [loopN, Tryz.f10, loopsOf, List.nil_append, List.append_nil, List.cons_append, List.getD_cons_succ, List.getD_cons_zero]; rfl
    simp [-aLen, hl]
    refine X_keep hx (by simp)
  | succ r ih =>
    intro i e hx
    have hi : i < l.length := by omega
    obtain ⟨c, hc⟩ : ∃ c, l[i]? = some c := ⟨_, List.getElem?_eq_getElem hi⟩
    have hl1 := (kidS_len l).1
    have hat := (kidS_at hc).1
    have hat2 := hA.at' i c hc
    have hlv := hA.live
    obtain ⟨k1, k2⟩ := ho c (List.mem_of_getElem? hc)
    have f1 : TO [encS c] = some (encS c) := TO_ok (encS_ok c) k1 k2
    have f2 : E16 [encS c, encS c] = some (.bool true) := by rw [E16_ok (encS_ok c) (encS_ok c) k1 k2, eqB_t rfl]
    rw [enc_eq] at hat hat2
    rw [encS_agg] at f1 f2
    have q3 := next_i (m := i) (by omega)
    have c4 : ((i : Nat) : Int) < (l.length : Nat) := by omega
    generalize slN 2 (c.attrs.map atRow) = pa at *
    generalize slN 4 (encL c.kids) = pk at *
    apply X_loop_of
    · simp only [loopN, Tryz.f10, loopsOf, List.nil_append, List.append_nil, List.cons_append, List.getD_cons_succ, List.getD_cons_zero]; rfl
    simp [-Int.natCast_add, -Int.not_lt, -Int.not_le, -aLen, -aIndexAddr, -getElem?_pos, List.getElem?_cons_zero, List.getElem?_cons_succ, q3, c4, hl1, hat, hat2, hlv, f1, f2, T10_eq]
    refine X_keep (ih (i + 1) (by omega) hx) ?_
    simp
theorem len9s (s : Bs) : aLen Y 9 (.pv (.str s)) = some s.length := by simp [aLen, kindOf]
theorem x10 {a k : PV} {n0 : Nd} (ha : atP a = some n0.attrs) (hk : kidP k = some n0.kids) (s0 : Bs) : XFn Y T10 Tryz.f10 [nodeS n0.name a n0.text k, .str s0] [] (Is (.bool true)) := by
  have aS := min_at s0 40
  have ts := take_min s0 40
  have es : ((min s0.length 40 : Nat) : Int).toNat = min s0.length 40 := by omega
  have es0 : (0 : Int) ≤ ((min s0.length 40 : Nat) : Int) := by omega
  have es1 : min s0.length 40 ≤ s0.length := by omega
  have aS : aMinMax false [.pv (.int .i64 (s0.length : Int)), .pv (.int .i64 40)] = some (.i ((min s0.length 40 : Nat) : Int)) := aS
  generalize ((min s0.length 40 : Nat) : Int) = Es at *
  generalize min s0.length 40 = ns at *
  generalize s0.take 40 = nm at *
  have hv : argN (nodeS n0.name a n0.text k) = some n0 := by have := argN_mk (nm := n0.name) (tx := n0.text) ha hk; cases n0; exact this
  rw [nodeS] at hv ⊢
  have f0 : F11n 3 [.agg [.pv (.str n0.name), .pv a, .pv (.str n0.text), .pv k], .i 3] = some (encS (cutN 3 n0)) := F11n_ok (lv := 3) (by decide) hv
  have hc := cut_count 3 n0
  have hok := cut_ok 3 n0
  have hfa := (cut_facts 3 n0).an
  have hfk := (cut_facts 3 n0).kn
  generalize cutN 3 n0 = n at *
  have hcc : n.count ≤ 1000000 := Nat.le_trans hc (by decide)
  have f1 : F14 [] = some (.bool true) := rfl
  have f2 : TO [encS n] = some (encS n) := TO_ok (encS_ok n) hcc hok
  have f3 : F30 [encS n, .str nm] = some (.tuple [.str (attrOf nm n.attrs).1, .bool (attrOf nm n.attrs).2]) := F30_ok (encS_ok n) (by omega)
  have f4 : F31 [encS n, .str nm] = some (.tuple [encS (childOf nm n).1, .bool (childOf nm n).2]) := F31_ok (by omega)
  have f5 : F32 [encS n, .str nm] = some (.pv (slN 4 (encL (named nm n.kids)))) := F32_ok (by omega)
  have hle := named_le nm n.kids
  have ho : ∀ c ∈ named nm n.kids, c.count ≤ 1000000 ∧ c.ok = true := fun c hc1 => by
    have hm : c ∈ n.kids := (List.mem_filter.1 hc1).1
    have h1 := count_kid hm
    have h2 := count_eq n
    rw [ok_eq, Bool.and_eq_true] at hok
    exact ⟨by omega, ok_kid hok.2 hm⟩
  have hbn : ∀ H0 : List Blk, H0[0]? = some (bx25 n) → H0[0]? = some (bx25 n) := fun _ h => h
  have hlen := (at_len (atP_slN n.attrs)).2
  have q1 : IntKind.i64.wrap ((n.attrs.length : Nat) - 1 : Int) = (n.attrs.length : Nat) - 1 := wrap64 (by omega) (by omega)
  have La := fun F P H h0 v6 v7 v9 v10 => loop10a (F := F) (P := P) (H := H) (n := n) (nm := nm) (v6 := v6) (v7 := v7) (v9 := v9) (v10 := v10) h0 (by omega) n.attrs.length ((n.attrs.length : Nat) - 1) (Nat.le_refl _) rfl
  have Lb := fun F P H h0 v6 v7 v9 v10 v11 v12 => loop10b (F := F) (P := P) (H0 := H) (n := n) (nm := nm) (v6 := v6) (v7 := v7) (v9 := v9) (v10 := v10) (v11 := v11) (v12 := v12) h0 (by omega) n.kids.length 0 H (.pv .nilSlice) (by omega) (.inl ⟨rfl, rfl⟩) (fun k cs h => h)
  rw [List.drop_of_length_le (Nat.le_refl _)] at La
  have ea : attrOf nm [] = ([], false) := rfl
  rw [ea] at La
  generalize (attrOf nm n.attrs).1 = av at *
  generalize (attrOf nm n.attrs).2 = ah at *
  have hch : childOf nm n = (match named nm n.kids with
    | [] => (Nd.mk [] [] [] [], false)
    | c :: _ => (c, true)) := rfl
  generalize named nm n.kids = l at *
  have Lc := fun F P H A hA v9 => loop10c (F := F) (P := P) (H := H) (l := l) (A := A) (v9 := v9) hA (by omega) ho l.length 0 (by omega)
  have hll := (kidS_len l).1
  rw [encS_agg] at f0 f2 f3 f4 f5
  unfold XFn Tryz.f10
  rw [enter_2 _ (by decide)]
  cases l with
  | nil =>
    simp only [] at hch
    rw [hch] at f4
    have ez : encS (Nd.mk [] [] [] []) = .agg [.pv (.str []), .pv .nilSlice, .pv (.str []), .pv .nilSlice] := zeroS
    have f6 : E16 [encS (Nd.mk [] [] [] []), encS (Nd.mk [] [] [] [])] = some (.bool true) := by rw [E16_ok (encS_ok _) (encS_ok _) (by simp only [Nd.count, countL]; decide) (by rw [ok_eq]; rfl), eqB_t rfl]
    simp only [] at f4
    rw [ez] at f4 f6
    simp [-aMinMax, -aLen, -aIndexAddr, aS, es, es0, es1, ts, len9s, T10_eq, f0, f1, f2, f3, f4, f5, hlen, q1]
    refine X_keep (La _ _ _ rfl (.str av) (.bool ah) (.bool false) (.pv (slN 4 (encL []))) ?_) (by simp)
    simp [-aLen, T10_eq]
    refine X_keep (Lb _ _ _ rfl (.str av) (.bool ah) (.bool false) (.pv (slN 4 (encL []))) (.str av) (.bool ah) ?_) (by simp)
    intro H A hA hbx
    have h2 := hbx 2 [.pv (.str []), .pv .nilSlice, .pv (.str []), .pv .nilSlice] rfl
    have hK := AccK.acc hA
    have hl2 := hK.len
    have hlv := hK.live
    simp [-aLen, -getElem?_pos, List.getElem?_cons_zero, List.getElem?_cons_succ, T10_eq, f1, hl2, hlv, hll]
    refine X_keep (Lc _ _ _ A hK (.bool false) ?_) (by simp)
    simp [-aLen, -getElem?_pos, List.getElem?_cons_zero, List.getElem?_cons_succ, T10_eq, f1, f6, h2, hl2, hlv, hll]
  | cons c l =>
    simp only [] at hch
    rw [hch] at f4
    simp only [] at f4
    obtain ⟨k1, k2⟩ := ho c (List.mem_cons_self ..)
    have f6 : TO [encS c] = some (encS c) := TO_ok (encS_ok c) k1 k2
    have f7 : E16 [encS c, encS c] = some (.bool true) := by rw [E16_ok (encS_ok c) (encS_ok c) k1 k2, eqB_t rfl]
    rw [encS_agg c] at f4 f6 f7
    have hll0 : ¬ (c :: l).length = 0 := by simp
    have hpos : (0 : Int) < ((c :: l).length : Nat) := by simp only [List.length_cons]; omega
    have hposN : 0 < (c :: l).length := by simp
    have hne : ¬ (c :: l) = [] := by simp
    have hat0 : ∀ A, AccK A (c :: l) → aIndexAddr Y 23 A 0 = some (.cptr [.str c.name, slN 2 (c.attrs.map atRow), .str c.text, slN 4 (encL c.kids)]) := fun A hA => by
      have := hA.at' 0 c rfl
      rw [enc_eq] at this; exact this
    generalize c :: l = L at *
    generalize c.name = cn at *
    generalize slN 2 (c.attrs.map atRow) = ca at *
    generalize c.text = ct at *
    generalize slN 4 (encL c.kids) = ck at *
    simp [-aMinMax, -aLen, -aIndexAddr, aS, es, es0, es1, ts, len9s, T10_eq, f0, f1, f2, f3, f4, f5, hlen, q1]
    refine X_keep (La _ _ _ rfl (.str av) (.bool ah) (.bool true) (.pv (slN 4 (encL L))) ?_) (by simp)
    simp [-aLen, T10_eq]
    refine X_keep (Lb _ _ _ rfl (.str av) (.bool ah) (.bool true) (.pv (slN 4 (encL L))) (.str av) (.bool ah) ?_) (by simp)
    intro H A hA hbx
    have h2 := hbx 2 [.pv (.str cn), .pv ca, .pv (.str ct), .pv ck] rfl
    have hK := AccK.acc hA
    have hl2 := hK.len
    have hlv := hK.live
    have ha0 := hat0 A hK
    simp [-aLen, -aIndexAddr, -Int.not_lt, -Int.not_le, -getElem?_pos, List.getElem?_cons_zero, List.getElem?_cons_succ, T10_eq, f1, hl2, hlv, hll, hpos, hposN, hne]
    refine X_keep (Lc _ _ _ A hK (.bool true) ?_) (by simp)
    simp [-aLen, -aIndexAddr, -Int.not_lt, -Int.not_le, -getElem?_pos, List.getElem?_cons_zero, List.getElem?_cons_succ, T10_eq, f1, f6, f7, h2, hl2, hlv, hll, ha0]
end Go.Proofs.YtkckpmcpmngiiaaGreatDoor
