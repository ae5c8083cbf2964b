/- The law MetreSums: the row and the tied card, proved. -/
import Derived.Test.YtooajpojikkkdaaDoorMetreW
import Derived.Test.YtooajpojikkkdaaDoorFrame
set_option linter.unusedVariables false
set_option maxRecDepth 100000
namespace Go.Proofs.YtooajpojikkkdaaDoor
open Go Go.ChangeShapes Go.WideShapes Go.ChangeAt Go.RowKit Go.Joins
open Go.ChangeMaps (open_string shut_string)

theorem sums_law (c u g0 g1 g2 g3 g4 g5 : Int) (a1 : Int) (a2 : Int) (q1 : (Lit.int .u16 a1).wf = true) (q2 : (Lit.int .u16 a2).wf = true) {W : World} : Calls Tryd.prog 8 #[vM c u g0 g1 g2 g3 g4 g5, .int .u16 a1, .int .u16 a2] W fun e w' => e = .returned (.bool true) ∧ Below W.heap.size W w' := by
  have h := Pm.law_X env (tok8 W) mixed Tryd.func8 (by kernel_rfl) (by kernel_rfl) (x8 c u g0 g1 g2 g3 g4 g5 a1 a2 q1 q2) (Pm.RelL.cons (rel_M _ c u g0 g1 g2 g3 g4 g5) (Pm.RelL.cons (rel_I _ .u16 a1) (Pm.RelL.cons (rel_I _ .u16 a2) (Pm.RelL.nil _))))
  simpa using h

theorem sums_lifted (os : Os) (started : os.Started) (H : Type) (enc : TypeId × Value → H) :
    ReturnsInHanded {} Tryd.checked os 8 .any (fun w args => (Rows.metreSumsSpec.pre enc Tryd.prog Tryd.f8 [] false w args ∧ laidMet Tryd.prog laidL w) ∧ sizedMet enc Tryd.prog Tryd.f8 (OpenSpec.ofChange Rows.metreSumsSpec) false w args)
      (Rows.metreSumsSpec.post enc Tryd.prog Tryd.f8 false true false false) := by
  refine returnsInHanded_of_change_and (C := Tryd.checked) (X := fun w _ => laidMet Tryd.prog laidL w) (fun _ _ _ hh h => h.of_heap hh) own started (by kernel_rfl) Tryd.func8
    (ChangeSpec.witness_shaped (enc := enc) (C := Tryd.checked) (os := os) (X := fun w _ => laidMet Tryd.prog laidL w) false (World.laidAll Tryd.prog os laidL) #[.agg #[.int .i64 0, .int .i64 0, .int .i64 0, .int .i64 0, .int .i64 0, .int .i64 0, .int .i64 0, .int .i64 0], .int .u16 0, .int .u16 0] 8 (World.laidAll_os _ _ _)
      (World.shaped_of_ZipB (by kernel_rfl) (by kernel_rfl)) (by kernel_rfl) (by kernel_rfl) (by kernel_rfl) (laidL_met os _)) ?_
  intro W base args ds gs before hval0 hW _ _ hL _
  have hval : ∀ (j : Nat) t v, Tryd.f8.params[j]? = some t → args[j]? = some v → Value.okWide Tryd.prog W .any base t v := hval0
  have hW' := hW
  obtain ⟨p, q, hA0, hV, rfl, _, _⟩ := hW
  have hA : DataW.TrodAll enc Tryd.prog W 0 (fun _ => true) true Tryd.f8.params.toList args.toList ds p := hA0
  rw [Tryd.params8] at hA hval
  obtain ⟨v0, v1, v2, d0, d1, d2, p0, p1, p2, rfl, rfl, rfl, k0, k1, k2⟩ := trodAll_three hA
  obtain ⟨rfl, rfl⟩ := trodVars_none hV
  obtain ⟨c, u, g0, g1, g2, g3, g4, g5, rfl, rfl, rfl, wc, wu, w0, w1, w2, w3, w4, w5⟩ := openM (hval 0 24 v0 rfl rfl) k0
  obtain ⟨a1, rfl, rfl, rfl, x1⟩ := open_int Tryd.underlying32 (hval 1 32 v1 rfl rfl) k1
  obtain ⟨a2, rfl, rfl, rfl, x2⟩ := open_int Tryd.underlying32 (hval 2 32 v2 rfl rfl) k2
  simp only [List.append_nil] at hW'
  refine (sums_law _ _ _ _ _ _ _ _ _ _ x1 x2).mono fun e W' ⟨he, hb⟩ => ?_
  subst he
  exact ⟨_, rfl, _, _, _, [], [], [], hW', trodAll_mk1 (shut_bool Tryd.underlying4 _), trodAll_mk3 (readsM _ _ _ _ wc wu w0 w1 w2 w3 w4 w5) (shut_int Tryd.underlying32 x1) (shut_int Tryd.underlying32 x2), rfl, hb.frame _, fun h => by cases h⟩

theorem sums_holds : Rows.MetreSumsSaid :=
  OpenClaim.holds_of_wide 8 Tryd.f8 rfl rfl rfl rfl rfl rfl rfl ⟨rfl, rfl, rfl, rfl, rfl⟩ rfl rfl rfl rfl rfl (by kernel_rfl) Tryd.func8 (by kernel_rfl)
    (of_decide_eq_true (by kernel_rfl)) (by unfold Func.isWrapper; first | (rw [if_pos (by decide +kernel)]; kernel_rfl) | (rw [if_neg (by decide +kernel)]; exact ⟨rfl, rfl⟩))
    (fun os started H enc _ => sums_lifted os started H enc)

theorem sums_card : Rows.MetreSumsCardSaid :=
  Claim7.holds_tied_plain_at .later [] kindsL true (true, "497fd3f260c736cf6be963d4045bd170275cbb7384d77385af36a390f248ac06") true sums_holds (fun _ h => by cases h) (by kernel_rfl) (fun _ h => by cases h) metreSums_row_tie rfl ⟨rfl, rfl⟩ (by kernel_rfl) rfl
    (fun f fn hf hfn => by
      obtain rfl : f = 8 := Option.some.inj ((show Tryd.prog.funcNamed Tryd.f8.name = some 8 by kernel_rfl).symm.trans hf) |>.symm
      obtain rfl : fn = Tryd.f8 := (Option.some.inj (Tryd.func8.symm.trans hfn)).symm
      exact ⟨by kernel_rfl, fun j t ht => by
        rw [Tryd.params8] at ht
        have hm : t ∈ [24, 32, 32] := by simpa using Array.mem_of_getElem? ht
        have hall : ([24, 32, 32].all fun u => !Tryd.prog.wantsStandIn u) = true := by kernel_rfl
        exact (show Tryd.prog.wantsStandIn t = false by simpa using List.all_eq_true.1 hall t hm)⟩)
    (by kernel_rfl)
#print axioms sums_card
end Go.Proofs.YtooajpojikkkdaaDoor
