/- The law Equals: the part with the store. -/
import Derived.Test.YtkckpmcpmngiiaaGreatDoorLawO
set_option linter.unusedSimpArgs false
set_option linter.unusedVariables false
set_option maxRecDepth 1000000
set_option maxHeartbeats 1000000
namespace Go.Proofs.YtkckpmcpmngiiaaGreatDoor
open Go Go.Pm Go.RowKit
theorem rest67 : glue 1 c6 c7 = c6 := by unfold c6 c7; exact glue_rest 1 (restN 6 c0)
theorem ok6 : codeOk T9 (glue 1 c6 .skip) = true := by kernel_rfl
theorem sp6 : spineOk 1 c6 = true := by kernel_rfl
theorem hdr_of {D : Cf} {A : SV} {es : List (List PV)} {u : Value} {H : List Blk} (hA : Acc 48 2 H es A) (hne : es ≠ []) (h : RelS D A u) : ∀ C : Cf, RelS C (.pv (.hdr es.length)) u := by
  rcases hA with ⟨h1, -⟩ | ⟨-, k, v, rfl, -⟩
  · exact absurd h1 hne
  · cases h with | own _ _ _ _ vc e g val hH hG hv h hcur =>
    cases h with | slice _ _ b off cap u hcap hs hS hc hr => exact fun C => .pv _ _ (.hdr _ _ _)
theorem partC {W w1 : World} {D : Cf} {s : St} {a : Act} {n : Nd} {k b2 b5 : Nat} {A K : SV} {v2 v5 : Value} (hT : TOk Tryz.prog W T9) (J : InvJ W D) (hb : Below W.heap.size W D.w) (R : StRel D s a) (hl : s.tm.length = 63)
    (EV : Evo (Pm.start w1) D) (hW : W.heap.size ≤ w1.heap.size) (hCp : Copied n k s.H A K) (hn : n.count ≤ 1000) (hok : n.ok = true) (hnm : ∀ c ∈ n.kids, c.name.length ≤ 1000)
    (e2 : RelS (Pm.start w1) (.cadr b2 0 (cls n)) v2) (e5 : RelS (Pm.start w1) (.cadr b5 0 (cls n)) v5)
    (h2 : s.tm[2]? = some (.cadr b2 0 (cls n))) (h5 : s.tm[5]? = some (.cadr b5 0 (cls n))) (h6 : s.tm[6]? = some (.ptr k 0)) (h4 : s.tm[4]? = some (.bool false)) : c6.wp Tryz.prog (Post9 W) a D.w := by
  obtain ⟨u2, q2, r2⟩ := R.tm.get h2
  obtain ⟨u5, q5, r5⟩ := R.tm.get h5
  obtain ⟨u6, q6, r6⟩ := R.tm.get h6
  obtain ⟨u4, q4, r4⟩ := R.tm.get h4
  have hsz1 : w1.heap.size ≤ D.w.heap.size := EV.size
  have z2 : u2 = v2 := by cases r2; cases e2; rfl
  have z5 : u5 = v5 := by cases r5; cases e5; rfl
  subst z2 z5
  have bH := hCp.box
  rw [← R.H] at bH
  cases r6 with | ptr _ _ cs g hH2 hG2 =>
  rw [bH] at hH2
  cases hH2
  have new : ∀ (i : Nat) (gi : GB), D.G[i]? = some gi → w1.heap.size ≤ gi.blk := fun i gi hi => by
    rcases EV.blks i gi hi with h | ⟨k0, g0, h, -⟩
    · exact h
    · simp at h
  have gge := new k g hG2
  obtain ⟨arr, hg, hsz⟩ := J.1.boxT k 33 _ g bH hG2
  obtain ⟨arr', T', hg', hsz', hrel, -⟩ := J.1.box k _ g bH hG2
  rw [hg] at hg'
  cases hg'
  have hget : ∀ (j : Nat) (c : SV), ([.pv (.str n.name), A, .pv (.str n.text), K] : List SV)[j]? = some c → ∃ u, arr[j]? = some u ∧ RelS D c u := fun j c hj => by
    have h2 : j < arr.size := by have := (List.getElem?_eq_some_iff.1 hj).1; omega
    have h3 : arr[j]? = some arr[j] := by simp [h2]
    exact ⟨_, h3, hrel j c _ hj h3⟩
  obtain ⟨g0, ga, gb⟩ := hget 0 _ rfl
  obtain ⟨g1, gc, gd⟩ := hget 1 _ rfl
  obtain ⟨g2, ge, gf⟩ := hget 2 _ rfl
  obtain ⟨g3, gg, gh⟩ := hget 3 _ rfl
  have hd := hdr_of hCp.at' (by simp) gd
  have hp : ((n.attrs ++ [newA]).map atRow).length = n.attrs.length + 1 := by simp
  rw [hp] at hd
  have b0 := rel_pv gb
  have b2' := rel_pv gf
  have hcell : ∀ x y, x < w1.heap.size → D.w.cell? ⟨x, y, none⟩ = w1.cell? ⟨x, y, none⟩ := fun x y h => EV.cell x y h
  obtain ⟨tm, t1, t2⟩ := relL_any R.tm
  rw [hl] at t1
  have kid := hCp.kid
  rw [← R.H] at kid
  rcases kid with ⟨hk0, rfl⟩ | ⟨hk0, kK, vK, rfl, hKt⟩
  · obtain ⟨C, hC⟩ : ∃ C : Cf, C = ⟨D.w, fun b _ => b < w1.heap.size, [cpK n (n.attrs.length + 1) (.pv .nilSlice)], [⟨g.blk, 0, 0, 0⟩]⟩ := ⟨_, rfl⟩
    have I : Inv C := by
      rw [hC]
      refine one_box (fun x o h => ⟨Nat.lt_of_lt_of_le h hsz1, by omega⟩) hg (by simpa using hsz) (fun j c u hj hu => ?_) (fun j c hj => ?_)
      · rcases j with _ | _ | _ | _ | j
        · simp at hj; subst hj; rw [ga] at hu; cases hu; cases b0; exact .pv _ _ (.str _)
        · simp at hj; subst hj; rw [gc] at hu; cases hu; exact hd _
        · simp at hj; subst hj; rw [ge] at hu; cases hu; cases b2'; exact .pv _ _ (.str _)
        · simp at hj; subst hj; rw [gg] at hu; cases hu; have := rel_pv gh; cases this; exact .pv _ _ .nilSlice
        · simp at hj
      · rcases j with _ | _ | _ | _ | j <;> simp at hj <;> subst hj <;> rfl
    have IJ : InvJ W C := by
      refine ⟨I, ?_⟩
      rw [hC]
      exact ⟨J.2.size, J.2.heap, fun b o h => Nat.lt_of_lt_of_le h hW, fun i gi hi => by
        rcases i with _ | i
        · simp at hi; subst hi; exact Nat.le_trans hW gge
        · simp at hi⟩
    have hw : D.w = C.w := by rw [hC]
    have x2 := (cptr_of_cadr (D := C) e2 (fun x y h => by rw [hC]; exact h) (fun x y h => by rw [hC]; exact hcell x y h)).2.2
    have x5 := (cptr_of_cadr (D := C) e5 (fun x y h => by rw [hC]; exact h) (fun x y h => by rw [hC]; exact hcell x y h)).2.2
    have x6 : RelS C (.ptr 0 0) (.pointer (some ⟨g.blk, 0, none⟩)) := by rw [hC]; exact .ptr 0 0 _ ⟨g.blk, 0, 0, 0⟩ rfl rfl
    have x4 : RelS C (.bool false) u4 := by have := rel_pv r4; cases this; exact .pv _ _ (.bool _)
    have hR : RelL C ((((tm.set 2 (.cadr b2 0 (cls n))).set 5 (.cadr b5 0 (cls n))).set 6 (.ptr 0 0)).set 4 (.bool false)) a.tmps.toList :=
      relL_set (relL_set (relL_set (relL_set (t2 _) q2 x2) q5 x5) q6 x6) q4 x4
    obtain ⟨s1, y1, y2, y3, y4, y5⟩ := runE (n := n) (b2 := b2) (b5 := b5) (p := n.attrs.length + 1) (tm := (((tm.set 2 (.cadr b2 0 (cls n))).set 5 (.cadr b5 0 (cls n))).set 6 (.ptr 0 0)).set 4 (.bool false)) (by simp [t1]) (by simp [List.getElem?_set, t1]) (by simp [List.getElem?_set, t1]) (by simp [List.getElem?_set, t1]) (by simp [List.getElem?_set, t1])
    rw [← rest67, hw]
    refine glue_sound hT 1 c6 sp6 ok6 y1 IJ ⟨by rw [hC], hR, R.defers⟩ (fun D4 a4 J4 EV4 R4 => ?_)
    have hs4 : w1.heap.size ≤ D4.w.heap.size := Nat.le_trans hsz1 (by have := EV4.size; rw [hC] at this; exact this)
    refine partE (p := n.attrs.length + 1) (K := .pv .nilSlice) (len := 0) J4 ((by rw [← hw]; exact hb : Below W.heap.size W C.w).trans (below_evo IJ.2 EV4)) R4 (by rw [runs_len y1]; simp [t1]) hs4 (fun x y h => ?_) (by omega) hok (by omega) (.inl rfl) (by rw [R4.H, y2]; rfl) e2 e5 y3 y4 y5
    rw [EV4.cell x y (by rw [hC]; exact h), hC]
    exact hcell x y h
  · cases gh with | own _ _ _ _ vc e gK val hHK hGK hv hs hcur =>
    rw [hKt] at hHK
    cases hHK
    obtain ⟨rfl, hgl, hgs⟩ := hcur rfl
    obtain ⟨arrK, ⟨fz, hgK, -, hz⟩, hasz, hglc, -⟩ := J.1.tok kK _ _ gK hKt hGK
    have hz0 : fz = (0, 0) := hz (by decide)
    subst hz0
    have geK := new kK gK hGK
    have hne : g.blk ≠ gK.blk := J.1.dis k kK g gK (by intro e; subst e; rw [bH] at hKt; cases hKt) (by rw [bH]; simp) (by rw [hKt]; simp) hG2 hGK
    obtain ⟨c, r, hkids⟩ : ∃ c r, n.kids = c :: r := by
      cases hq : n.kids with
      | nil => rw [hq] at hk0; simp [encL] at hk0
      | cons c r => exact ⟨c, r, rfl⟩
    have hel : (encL n.kids)[0]? = some c.enc := encL_at (by rw [hkids]; rfl)
    have hlen : (encL n.kids).length = n.kids.length := encL_len _
    have hkl : 0 < n.kids.length := by rw [hkids]; simp
    have hkl2 : n.kids.length ≤ 1000 := by have := countL_ge n.kids; have := count_eq n; omega
    rw [hlen] at gg
    cases hs with | slice _ _ _ _ _ u hcap hs1 hS1 hc1 hr1 =>
    have w0 := hc1 0 c.enc 0 (.str c.name) hel (by rw [enc_eq]; rfl)
    have w1' := hr1 0 c.enc 0 (.str c.name) hel (by rw [enc_eq]; rfl)
    have hcn := hnm c (by rw [hkids]; exact List.mem_cons_self ..)
    have aK0 : arrK[0]? = some (u 0 0) := by
      rw [← w0]; simp only [Nat.zero_mul, Nat.add_zero]; rw [cell_of_row _ _ _ _ _ _ hgK]
    obtain ⟨C, hC⟩ : ∃ C : Cf, C = ⟨D.w, fun b _ => b < w1.heap.size, [cpK n (n.attrs.length + 1) (.bsl 1 0 n.kids.length 4), .box none [.pv (.str c.name)]], [⟨g.blk, 0, 0, 0⟩, ⟨gK.blk, 0, 0, 0⟩]⟩ := ⟨_, rfl⟩
    have I : Inv C := by
      rw [hC]
      refine two_box hne (fun x o h => ⟨Nat.lt_of_lt_of_le h hsz1, by omega, by omega⟩) hg (by simpa using hsz) hgK (by have := (Array.getElem?_eq_some_iff.1 aK0).1; simp; omega) (fun j c' u' hj hu => ?_) (fun j c' hj => ?_) (fun j c' u' hj hu => ?_) (fun j c' hj => ?_)
      · rcases j with _ | _ | _ | _ | j
        · simp at hj; subst hj; rw [ga] at hu; cases hu; cases b0; exact .pv _ _ (.str _)
        · simp at hj; subst hj; rw [gc] at hu; cases hu; exact hd _
        · simp at hj; subst hj; rw [ge] at hu; cases hu; cases b2'; exact .pv _ _ (.str _)
        · simp at hj; subst hj; rw [gg] at hu; cases hu; exact .bsl 1 0 _ 4 _ [.pv (.str c.name)] ⟨gK.blk, 0, 0, 0⟩ rfl rfl (by rw [← hlen]; exact hcap)
        · simp at hj
      · rcases j with _ | _ | _ | _ | j <;> simp at hj <;> subst hj <;> rfl
      · rcases j with _ | j
        · simp at hj; subst hj; rw [aK0] at hu; cases hu
          generalize u 0 0 = uu at *
          cases w1'; exact .pv _ _ (.str _)
        · simp at hj
      · rcases j with _ | j
        · simp at hj; subst hj; rfl
        · simp at hj
    have IJ : InvJ W C := by
      refine ⟨I, ?_⟩
      rw [hC]
      exact ⟨J.2.size, J.2.heap, fun b o h => Nat.lt_of_lt_of_le h hW, fun i gi hi => by
        rcases i with _ | _ | i
        · simp at hi; subst hi; exact Nat.le_trans hW gge
        · simp at hi; subst hi; exact Nat.le_trans hW geK
        · simp at hi⟩
    have hw : D.w = C.w := by rw [hC]
    have x2 := (cptr_of_cadr (D := C) e2 (fun x y h => by rw [hC]; exact h) (fun x y h => by rw [hC]; exact hcell x y h)).2.2
    have x5 := (cptr_of_cadr (D := C) e5 (fun x y h => by rw [hC]; exact h) (fun x y h => by rw [hC]; exact hcell x y h)).2.2
    have x6 : RelS C (.ptr 0 0) (.pointer (some ⟨g.blk, 0, none⟩)) := by rw [hC]; exact .ptr 0 0 _ ⟨g.blk, 0, 0, 0⟩ rfl rfl
    have x4 : RelS C (.bool false) u4 := by have := rel_pv r4; cases this; exact .pv _ _ (.bool _)
    have hR : RelL C ((((tm.set 2 (.cadr b2 0 (cls n))).set 5 (.cadr b5 0 (cls n))).set 6 (.ptr 0 0)).set 4 (.bool false)) a.tmps.toList :=
      relL_set (relL_set (relL_set (relL_set (t2 _) q2 x2) q5 x5) q6 x6) q4 x4
    obtain ⟨s1, y1, y2, y3, y4, y5⟩ := runC (n := n) (b2 := b2) (b5 := b5) (p := n.attrs.length + 1) (s0 := c.name) hcn hkl hkl2 (tm := (((tm.set 2 (.cadr b2 0 (cls n))).set 5 (.cadr b5 0 (cls n))).set 6 (.ptr 0 0)).set 4 (.bool false)) (by simp [t1]) (by simp [List.getElem?_set, t1]) (by simp [List.getElem?_set, t1]) (by simp [List.getElem?_set, t1]) (by simp [List.getElem?_set, t1])
    rw [← rest67, hw]
    refine glue_sound hT 1 c6 sp6 ok6 y1 IJ ⟨by rw [hC], hR, R.defers⟩ (fun D4 a4 J4 EV4 R4 => ?_)
    have hs4 : w1.heap.size ≤ D4.w.heap.size := Nat.le_trans hsz1 (by have := EV4.size; rw [hC] at this; exact this)
    refine partE (p := n.attrs.length + 1) (K := .bsl 1 0 n.kids.length 4) (len := n.kids.length) J4 ((by rw [← hw]; exact hb : Below W.heap.size W C.w).trans (below_evo IJ.2 EV4)) R4 (by rw [runs_len y1]; simp [t1]) hs4 (fun x y h => ?_) (by omega) hok (by omega) (.inr rfl) (by rw [R4.H, y2]; rfl) e2 e5 y3 y4 y5
    rw [EV4.cell x y (by rw [hC]; exact h), hC]
    exact hcell x y h
end Go.Proofs.YtkckpmcpmngiiaaGreatDoor
