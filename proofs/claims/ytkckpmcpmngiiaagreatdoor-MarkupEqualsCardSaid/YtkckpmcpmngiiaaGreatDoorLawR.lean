/- The law Equals: all of it. -/
import Derived.Test.YtkckpmcpmngiiaaGreatDoorLawQ
set_option linter.unusedSimpArgs false
set_option linter.unusedVariables false
set_option maxRecDepth 1000000
set_option maxHeartbeats 1000000
namespace Go.Proofs.YtkckpmcpmngiiaaGreatDoor
open Go Go.Pm Go.RowKit
theorem rest36 : glue 3 c3 c6 = c3 := by unfold c3 c6; exact glue_rest 3 (restN 3 c0)
theorem rest03 : glue 3 c0 c3 = c0 := by unfold c3; exact glue_rest 3 c0
theorem ok3 : codeOk T9 (glue 3 c3 .skip) = true := by kernel_rfl
theorem sp3 : spineOk 3 c3 = true := by kernel_rfl
theorem ok0 : codeOk T9 (glue 3 c0 .skip) = true := by kernel_rfl
theorem sp0 : spineOk 3 c0 = true := by kernel_rfl
theorem partB {W : World} {D : Cf} {s : St} {a : Act} {n b : Nd} (hT : TOk Tryz.prog W T9) (J : InvJ W D) (hb : Below W.heap.size W D.w) (R : StRel D s a) (hl : s.tm.length = 63) (hH : s.H = [bxN25 n, bxN25 b, bxN33 n])
    (hn : n.count ≤ 1000) (hbc : b.count ≤ 1000000) (hon : n.ok = true) (hob : b.ok = true) (hal : n.attrs.length ≤ 100) (hnm : ∀ c ∈ n.kids, c.name.length ≤ 1000)
    (h2 : s.tm[2]? = some (.ptr 0 0)) (h3 : s.tm[3]? = some (.ptr 1 0)) (h5 : s.tm[5]? = some (.ptr 2 0)) (h4 : s.tm[4]? = some (.bool false)) : c3.wp Tryz.prog (Post9 W) a D.w := by
  obtain ⟨u2, q2, r2⟩ := R.tm.get h2
  obtain ⟨u3, q3, r3⟩ := R.tm.get h3
  obtain ⟨u5, q5, r5⟩ := R.tm.get h5
  obtain ⟨u4, q4, r4⟩ := R.tm.get h4
  have eH : D.H = [bxN25 n, bxN25 b, bxN33 n] := R.H.trans hH
  cases r2 with | ptr _ _ cs2 g2 hH2 hG2 =>
  cases r3 with | ptr _ _ cs3 g3 hH3 hG3 =>
  cases r5 with | ptr _ _ cs5 g5 hH5 hG5 =>
  have x2 := cadr_of_box J.1 (k := 0) (t := some 25) (ps := cls n) (by rw [eH]; rfl) hG2
  have x3 := cadr_of_box J.1 (k := 1) (t := some 25) (ps := cls b) (by rw [eH]; rfl) hG3
  have x5 := cadr_of_box J.1 (k := 2) (t := some 33) (ps := cls n) (by rw [eH]; rfl) hG5
  have x4 : RelS (Pm.start D.w) (.bool false) u4 := by have := rel_pv r4; cases this; exact .pv _ _ (.bool _)
  obtain ⟨tm, t1, t2⟩ := relL_any R.tm
  rw [hl] at t1
  have hR : RelL (Pm.start D.w) ((((tm.set 2 (.cadr g2.blk 0 (cls n))).set 3 (.cadr g3.blk 0 (cls b))).set 5 (.cadr g5.blk 0 (cls n))).set 4 (.bool false)) a.tmps.toList :=
    relL_set (relL_set (relL_set (relL_set (t2 _) q2 x2) q3 x3) q5 x5) q4 x4
  obtain ⟨s1, k, A, K, y1, y2, y3, y4, y5, y6⟩ := runB (n := n) (b := b) (b2 := g2.blk) (b3 := g3.blk) (b5 := g5.blk) hn hbc hon hob hal (tm := (((tm.set 2 (.cadr g2.blk 0 (cls n))).set 3 (.cadr g3.blk 0 (cls b))).set 5 (.cadr g5.blk 0 (cls n))).set 4 (.bool false)) (by simp [t1]) (by simp [List.getElem?_set, t1]) (by simp [List.getElem?_set, t1]) (by simp [List.getElem?_set, t1]) (by simp [List.getElem?_set, t1])
  have IJ := start_inj J.2
  rw [← rest36]
  refine glue_sound (C := Pm.start D.w) hT 3 c3 sp3 ok3 y1 IJ ⟨rfl, hR, R.defers⟩ (fun D3 a3 J3 EV3 R3 => ?_)
  exact partC hT J3 (hb.trans (below_evo (C := Pm.start D.w) IJ.2 EV3)) R3 (by rw [runs_len y1]; simp [t1]) EV3 J.2.size y2 hn hon hnm x2 x5 y3 y4 y5 y6
theorem x9 {W : World} (L : Laid W) {a0 k0 a1 k1 : PV} {n0 n1 : Nd} {v0 v1 : Value} (ha0 : atP a0 = some n0.attrs) (hk0 : kidP k0 = some n0.kids) (ha1 : atP a1 = some n1.attrs) (hk1 : kidP k1 = some n1.kids)
    (e0 : RelS (Pm.start W) (nodeS n0.name a0 n0.text k0) v0) (e1 : RelS (Pm.start W) (nodeS n1.name a1 n1.text k1) v1) : Calls Tryz.prog 9 #[v0, v1] W fun e w' => e = .returned (.bool true) ∧ Below W.heap.size W w' := by
  have hr : RelL (Pm.start W) [nodeS n0.name a0 n0.text k0, nodeS n1.name a1 n1.text k1] [v0, v1] := RelL.cons e0 (RelL.cons e1 (RelL.nil _))
  obtain ⟨s1, y1, y2, y3, y4, y5, y6⟩ := runA ha0 hk0 ha1 hk1
  have hbody : Tryz.f9.body = some c0 := rfl
  refine calls_of_wp Tryz.func9 hbody ?_
  have R : StRel (Pm.start W) (enter 63 [nodeS n0.name a0 n0.text k0, nodeS n1.name a1 n1.text k1] []) { tmps := #[v0, v1] ++ Array.replicate (Tryz.f9.ntmps - (#[v0, v1] : Array Value).size) Go.undef, defers := [] } := by
    refine ⟨rfl, ?_, rfl⟩
    simp only [enter, Array.toList_append, Array.toList_replicate]
    refine hr.append ⟨by simp, fun j c u hj hu => ?_⟩
    have h1 := List.eq_of_mem_replicate (List.mem_of_getElem? hj)
    have h2 := List.eq_of_mem_replicate (List.mem_of_getElem? hu)
    rw [h1, h2]; exact undef_rel _
  rw [← rest03]
  have f := cut_facts 4 n0
  refine glue_sound (C := Pm.start W) (tok9 L) 3 c0 sp0 ok0 y1 ⟨start_inv W, start_j0 W⟩ R (fun D a J EV RD => ?_)
  refine partB (n := cutN 4 n0) (b := cutN 4 n1) (tok9 L) J (start_below EV) RD (by rw [runs_len y1]; rfl) y2 (Nat.le_trans (cut_count 4 n0) (by decide)) (Nat.le_trans (cut_count 4 n1) (by decide)) (cut_ok 4 n0) (cut_ok 4 n1) (by have := f.an; omega) (fun c hc => ?_) y3 y4 y5 y6
  obtain ⟨l, m0, -, rfl⟩ := f.kid c hc
  have := (cut_facts l m0).nm
  omega
end Go.Proofs.YtkckpmcpmngiiaaGreatDoor
