/- The law Equals: its parts by the machine. -/
import Derived.Test.YtkckpmcpmngiiaaGreatDoorLawK
import Derived.Test.YtkckpmcpmngiiaaGreatDoorLawL
import Derived.Test.YtkckpmcpmngiiaaGreatDoorLawD
set_option linter.unusedSimpArgs false
set_option linter.unusedVariables false
set_option maxRecDepth 1000000
set_option maxHeartbeats 1000000
namespace Go.Proofs.YtkckpmcpmngiiaaGreatDoor
open Go Go.Pm Go.RowKit
noncomputable def T9 : FuncId → Option Pm.Spec := tab [(11, .pure false (F11n 4)), (13, .pure false TO), (29, .heap (A29 1000)), (14, .pure false F14), (17, .pure false TO), (16, .pure false E16), (28, .pure false E16)]
theorem T9_eq (g : Nat) : T9 g = tab [(11, .pure false (F11n 4)), (13, .pure false TO), (29, .heap (A29 1000)), (14, .pure false F14), (17, .pure false TO), (16, .pure false E16), (28, .pure false E16)] g := rfl
theorem tok9 {W0 : World} (L : Laid W0) : TOk Tryz.prog W0 T9 := tok_cons (meets11 W0 3 (by decide)) (tok_cons (meets13 W0) (tok_cons (meets29h W0 1000) (tok_cons (meets14 L) (tok_cons (meets17 W0) (tok_cons (meets16 W0) (tok_cons (meets28 W0) tok_nil))))))
noncomputable abbrev c0 : Code := Tryz.f9.body.getD .skip
abbrev cls (n : Nd) : List PV := [.str n.name, slN 2 (n.attrs.map atRow), .str n.text, slN 4 (encL n.kids)]
abbrev bxN33 (n : Nd) : Blk := .box (some 33) ((cls n).map .pv)
abbrev bxN25 (n : Nd) : Blk := .box (some 25) ((cls n).map .pv)
theorem t9A {a0 k0 a1 k1 : PV} {n0 n1 : Nd} (ha0 : atP a0 = some n0.attrs) (hk0 : kidP k0 = some n0.kids) (ha1 : atP a1 = some n1.attrs) (hk1 : kidP k1 = some n1.kids) {rs : List ResultVar} {P : SV × List Blk → Prop} {tail : Code}
    (h : X Y T9 rs [] tail ⟨mk 63 .J [(2, .ptr 0 0), (3, .ptr 1 0), (4, .bool false), (5, .ptr 2 0)], [bxN25 (cutN 4 n0), bxN25 (cutN 4 n1), bxN33 (cutN 4 n0)]⟩ P) :
    X Y T9 rs [] (glue 3 c0 tail) (enter 63 [nodeS n0.name a0 n0.text k0, nodeS n1.name a1 n1.text k1] []) P := by
  have hv0 : argN (nodeS n0.name a0 n0.text k0) = some n0 := by have := argN_mk (nm := n0.name) (tx := n0.text) ha0 hk0; cases n0; exact this
  have hv1 : argN (nodeS n1.name a1 n1.text k1) = some n1 := by have := argN_mk (nm := n1.name) (tx := n1.text) ha1 hk1; cases n1; exact this
  rw [nodeS] at hv0 hv1
  rw [nodeS, nodeS]
  have f0 : F11n 4 [.agg [.pv (.str n0.name), .pv a0, .pv (.str n0.text), .pv k0], .i 4] = some (encS (cutN 4 n0)) := F11n_ok (lv := 4) (by decide) hv0
  have f1 : F11n 4 [.agg [.pv (.str n1.name), .pv a1, .pv (.str n1.text), .pv k1], .i 4] = some (encS (cutN 4 n1)) := F11n_ok (lv := 4) (by decide) hv1
  have hc0 : (cutN 4 n0).count ≤ 1000000 := Nat.le_trans (cut_count 4 n0) (by decide)
  have f2 : TO [encS (cutN 4 n0)] = some (encS (cutN 4 n0)) := TO_ok (encS_ok _) hc0 (cut_ok 4 n0)
  rw [encS_agg] at f0 f1 f2
  generalize cutN 4 n0 = n at *
  generalize cutN 4 n1 = b at *
  rw [enter_2 _ (by decide)]
  simp only [glue, c0, Tryz.f9, Option.getD_some]
  simp [T9_eq, f0, f1, f2]
  refine X_keep h (by simp)
noncomputable abbrev c3 : Code := restN 3 c0
noncomputable abbrev c6 : Code := restN 6 c0
noncomputable abbrev c7 : Code := restN 7 c0
def newA : Bs × Bs := ([110, 101, 119], [])
/-- What stands when the copy has its new attribute. -/
structure Copied (n : Nd) (k : Nat) (H : List Blk) (A K : SV) : Prop where
  box : H[k]? = some (.box (some 33) [.pv (.str n.name), A, .pv (.str n.text), K])
  at' : Acc 48 2 H ((n.attrs ++ [newA]).map atRow) A
  kid : Acc 33 4 H (encL n.kids) K
/-- An append leaves other rows' tokens. -/
theorem app_keep {H : List Blk} {l : List (Bs × Bs)} {A : SV} (x : Bs × Bs) (hl : l.length ≤ 100000) (h : Acc 48 2 H (l.map atRow) A) : ∃ A' H', aAppend Y H 30 30 A (.tight 2 [[.str x.1, .str x.2]]) = some (A', H') ∧ Acc 48 2 H' ((l ++ [x]).map atRow) A' ∧
    (∀ {t0 : Option TypeId} (k : Nat) (cs : List SV), H[k]? = some (.box t0 cs) → H'[k]? = some (.box t0 cs)) ∧ ∀ (k v : Nat), H[k]? = some (.tok v 33) → H'[k]? = some (.tok v 33) := by
  have hk : kindOf Y 30 = some (.slice 48) := rfl
  have hl0 : ((l.map atRow).length + 1) * 32 ≤ maxRow := by simp [maxRow]; omega
  have hl2 : (l.map atRow).length + 1 ≤ maxRow := by simp [maxRow]; omega
  have hm : (l ++ [x]).map atRow = l.map atRow ++ [[.str x.1, .str x.2]] := by rw [List.map_append]; rfl
  rw [hm]
  generalize l.map atRow = es at *
  rcases h with ⟨rfl, rfl⟩ | ⟨hne, k, v, rfl, hkv⟩
  · refine ⟨.own H.length 0 2 [[.str x.1, .str x.2]], H ++ [.tok 0 48], ?_, .inr ⟨by simp, _, _, rfl, by simp⟩, fun k cs hc => ?_, fun k v hc => ?_⟩
    · simp [-maxRow] at hl0 hl2
      simp [-kindOf, -maxRow, aAppend, hk, Y_48, sliceElems, strideOk, hl0, hl2]
    · rw [List.getElem?_append_left (List.getElem?_eq_some_iff.1 hc).1]; exact hc
    · rw [List.getElem?_append_left (List.getElem?_eq_some_iff.1 hc).1]; exact hc
  · refine ⟨.own k (v + 1) 2 (es ++ [[.str x.1, .str x.2]]), H.set k (.tok (v + 1) 48), ?_, .inr ⟨by simp, _, _, rfl, ?_⟩, fun k' cs hc => ?_, fun k' v' hc => ?_⟩
    · simp [-kindOf, -maxRow, aAppend, hk, Y_48, sliceElems, strideOk, hl0, hl2, hkv]
    · rw [List.getElem?_set_self (List.getElem?_eq_some_iff.1 hkv).1]
    · have : k ≠ k' := by intro e; subst e; rw [hkv] at hc; cases hc
      rw [List.getElem?_set_ne this]; exact hc
    · have : k ≠ k' := by intro e; subst e; rw [hkv] at hc; cases hc
      rw [List.getElem?_set_ne this]; exact hc
theorem acc_tok {H H' : List Blk} {es : List (List PV)} {K : SV} (h : Acc 33 4 H es K) (hk : ∀ (k v : Nat), H[k]? = some (.tok v 33) → H'[k]? = some (.tok v 33)) : Acc 33 4 H' es K := by
  rcases h with h | ⟨hne, k, v, rfl, hkv⟩
  · exact .inl h
  · exact .inr ⟨hne, k, v, rfl, hk k v hkv⟩
theorem cells_pv9 (p : PV) : cellsOf (.pv p) = some [.pv p] := rfl
theorem live_cadr (b off : Nat) (cs : List PV) : live (.cadr b off cs) = some (.cadr b off cs) := rfl
theorem t9B {n b : Nd} {b2 b3 b5 : Nat} (hn : n.count ≤ 1000) (hb : b.count ≤ 1000000) (hon : n.ok = true) (hob : b.ok = true) (hal : n.attrs.length ≤ 100) : ∃ (k : Nat) (H : List Blk) (A K : SV), Copied n k H A K ∧ ∀ {rs : List ResultVar} {P : SV × List Blk → Prop} {tail : Code},
    X Y T9 rs [] tail ⟨mk 63 .J [(2, .cadr b2 0 (cls n)), (4, .bool false), (5, .cadr b5 0 (cls n)), (6, .ptr k 0)], H⟩ P →
    X Y T9 rs [] (glue 3 c3 tail) ⟨mk 63 .J [(2, .cadr b2 0 (cls n)), (3, .cadr b3 0 (cls b)), (4, .bool false), (5, .cadr b5 0 (cls n))], []⟩ P := by
  obtain ⟨r, H', g1, A, K, e1, hA, hK⟩ := all29 (m := 1000) (n := n) (by omega) (by omega) hon
  simp only at e1 hA hK
  subst e1
  have f0 : F14 [] = some (.bool true) := rfl
  have f1 : E16 [encS n, encS n] = some (.bool true) := by rw [E16_ok (encS_ok n) (encS_ok n) (by omega) hon, eqB_t rfl]
  have f2 : TO [encS b] = some (encS b) := TO_ok (encS_ok b) hb hob
  have f3 : E16 [encS n, encS b] = some (.bool (eqB n b)) := E16_ok (encS_ok n) (encS_ok b) (by omega) hon
  have pA := acc_pcell hA
  have pK := acc_pcell hK
  rw [encS_agg] at g1 f1 f2 f3
  rw [encS_agg] at f3
  generalize eqB n b = q at *
  have hA2 := hA.more [.box (some 33) [.pv (.str n.name), A, .pv (.str n.text), K]]
  have hK2 := hK.more [.box (some 33) [.pv (.str n.name), A, .pv (.str n.text), K]]
  have gl := get_last H' (.box (some 33) [.pv (.str n.name), A, .pv (.str n.text), K])
  obtain ⟨A', H2, p1, p2, p3, p4⟩ := app_keep newA (by omega) hA2
  have g2 := p3 _ _ gl
  have hK3 := acc_tok hK2 p4
  have lA := hA.live
  have lA2 := p2.live
  have hlt := (List.getElem?_eq_some_iff.1 g2).1
  simp only [newA] at p1
  refine ⟨H'.length, _, A', K, ⟨List.getElem?_set_self hlt, p2.box g2, hK3.box g2⟩, fun {rs P tail} h => ?_⟩
  simp only [glue, c3, c0, restN, Tryz.f9, Option.getD_some]
  simp [-getElem?_pos, List.getElem?_cons_zero, List.getElem?_cons_succ, T9_eq, f0, f1, f2, f3, g1, get_last, set_last, gl, -pcell, pcell_pv, pA, pK, -aAppend, -cellsOf, cells_agg, cells_pv9, live_cadr, lA, lA2, p1, g2, hlt, acc_cells p2]
  refine X_keep h (by simp)
abbrev cpK (n : Nd) (p : Nat) (K : SV) : Blk := .box (some 33) [.pv (.str n.name), .pv (.hdr p), .pv (.str n.text), K]
theorem t9C {n : Nd} {v2 v5 : SV} {p len : Nat} {s0 : Bs} (hs : s0.length ≤ 1000) (hl : 0 < len) (hl2 : len ≤ 1000) {rs : List ResultVar} {P : SV × List Blk → Prop} {tail : Code}
    (h : X Y T9 rs [] tail ⟨mk 63 .J [(2, v2), (4, .bool false), (5, v5), (6, .ptr 0 0)], [cpK n p (.bsl 1 0 len 4), .box none [.pv (.str (s0 ++ [120]))]]⟩ P) :
    X Y T9 rs [] (glue 1 c6 tail) ⟨mk 63 .J [(2, v2), (4, .bool false), (5, v5), (6, .ptr 0 0)], [cpK n p (.bsl 1 0 len 4), .box none [.pv (.str s0)]]⟩ P := by
  have c1 : (0 : Int) < ((len : Nat) : Int) := by omega
  have d1 : s0.length ≤ 4611686018427387903 := by omega
  have d2 : s0.length + 1 ≤ 4611686018427387904 := by omega
  simp only [glue, c6, c0, restN, Tryz.f9, Option.getD_some]
  simp [-Int.not_lt, -Int.not_le, T9_eq, c1, hl, d1, d2]
  refine X_keep h (by simp)
theorem t9E {n : Nd} {v2 v5 : SV} {p : Nat} {rs : List ResultVar} {P : SV × List Blk → Prop} {tail : Code}
    (h : X Y T9 rs [] tail ⟨mk 63 .J [(2, v2), (4, .bool false), (5, v5), (6, .ptr 0 0)], [cpK n p (.pv .nilSlice)]⟩ P) :
    X Y T9 rs [] (glue 1 c6 tail) ⟨mk 63 .J [(2, v2), (4, .bool false), (5, v5), (6, .ptr 0 0)], [cpK n p (.pv .nilSlice)]⟩ P := by
  simp only [glue, c6, c0, restN, Tryz.f9, Option.getD_some]
  simp [-Int.not_lt, -Int.not_le, T9_eq]
  refine X_keep h (by simp)
/-! ## Elements whose attributes differ in number -/
noncomputable def F52h : List SV → Option SV
  | [.pv (.hdr p), .pv q] => match atP q with
    | some l => if p ≠ l.length then some (.bool false) else none
    | none => none
  | _ => none
theorem meets52h (W0 : World) : OkAt W0 52 F52h := meets_fn env tok_nil mixed Tryz.func52 (by kernel_rfl) (by kernel_rfl) fun args r h => by
  unfold F52h at h
  split at h
  · rename_i p q
    split at h
    · rename_i l hl
      split at h
      · rename_i hne
        cases h
        have h1 := (at_len hl).1
        have h2 : aLen Y 30 (.pv (.hdr p)) = some p := rfl
        have c1 : ¬ ((p : Nat) : Int) = ((l.length : Nat) : Int) := by omega
        unfold XFn Tryz.f52
        rw [enter_2 _ (by decide)]
        simp [-aLen, h1, h2, c1, hne]
      · cases h
    · cases h
  · cases h
noncomputable def T28h : FuncId → Option Pm.Spec := tab [(52, .pure false F52h), (53, .pure false fun _ => none)]
theorem T28h_eq (g : Nat) : T28h g = tab [(52, .pure false F52h), (53, .pure false fun _ => none)] g := rfl
theorem tok28h (W0 : World) : TOk Tryz.prog W0 T28h := tok_cons (meets52h W0) (tok_cons (OkAt.none (W0 := W0) (enterable_of Tryz.func53 (by kernel_rfl)) fun _ _ h => by cases h) tok_nil)
noncomputable def E28h : List SV → Option SV
  | [.agg [.pv (.str nm), .pv (.hdr p), .pv (.str tx), .pv k], w] => match argN w with
    | some m => if p ≠ m.attrs.length then some (.bool false) else none
    | none => none
  | _ => none
theorem meets28h (W0 : World) : OkAt W0 28 E28h := meets_fn env (tok28h W0) mixed Tryz.func28 (by kernel_rfl) (by kernel_rfl) fun args r h => by
  unfold E28h at h
  split at h
  · rename_i nm p tx k w
    split at h
    · rename_i m hm
      split at h
      · rename_i hne
        cases h
        obtain ⟨a', k', rfl, ha', hk'⟩ := argN_or hm
        have f1 : F52h [.pv (.hdr p), .pv a'] = some (.bool false) := by simp only [F52h, ha']; rw [if_pos hne]
        unfold XFn Tryz.f28
        rw [nodeS, enter_2 _ (by decide)]
        by_cases e1 : nm = m.name
        · by_cases e2 : tx = m.text
          · simp [T28h_eq, f1, e1, e2]
          · simp [T28h_eq, f1, e1, e2]
        · simp [T28h_eq, f1, e1]
      · cases h
    · cases h
  · cases h
noncomputable def T9d : FuncId → Option Pm.Spec := tab [(28, .pure false E28h), (17, .pure false TO), (16, .pure false E16)]
theorem T9d_eq (g : Nat) : T9d g = tab [(28, .pure false E28h), (17, .pure false TO), (16, .pure false E16)] g := rfl
theorem tok9d (W0 : World) : TOk Tryz.prog W0 T9d := tok_cons (meets28h W0) (tok_cons (meets17 W0) (tok_cons (meets16 W0) tok_nil))
theorem t9D {n : Nd} {p : Nat} {k : PV} (hn : n.count ≤ 1000000) (hok : n.ok = true) (hp : p ≠ n.attrs.length) :
    X Y T9d [.tmp 4] [] c7 ⟨mk 63 .J [(2, .cptr (cls n)), (5, .cptr (cls n)), (6, .cptr [.str n.name, .hdr p, .str n.text, k])], []⟩ (Is (.bool true)) := by
  have f1 : E28h [.agg [.pv (.str n.name), .pv (.hdr p), .pv (.str n.text), .pv k], encS n] = some (.bool false) := by
    simp only [E28h, encS_ok]; rw [if_pos hp]
  have f2 : TO [encS n] = some (encS n) := TO_ok (encS_ok n) hn hok
  have f3 : E16 [encS n, encS n] = some (.bool true) := by rw [E16_ok (encS_ok n) (encS_ok n) hn hok, eqB_t rfl]
  rw [encS_agg] at f1 f2 f3
  simp only [c7, c0, restN, Tryz.f9, Option.getD_some]
  simp [T9d_eq, f1, f2, f3]
end Go.Proofs.YtkckpmcpmngiiaaGreatDoor
