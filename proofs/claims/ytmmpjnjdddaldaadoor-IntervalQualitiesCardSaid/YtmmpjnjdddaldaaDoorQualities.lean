/- The law IntervalQualities: the row and the tied card, proved. -/
import Derived.Test.YtmmpjnjdddaldaaDoorIntV
import Derived.Test.YtmmpjnjdddaldaaDoorFrame
set_option linter.unusedVariables false
set_option maxRecDepth 100000
namespace Go.Proofs.YtmmpjnjdddaldaaDoor
open Go Go.ChangeShapes Go.WideShapes Go.ChangeAt Go.RowKit Go.Joins
open Go.ChangeMaps (open_string shut_string)

theorem qualities_law (x0 y0 : Int)  {W : World} : Calls Tryd.prog 10 #[vI x0 y0] W fun e w' => e = .returned (.bool true) ∧ Below W.heap.size W w' := by
  have h := Pm.law_X env (tok10 W) mixed Tryd.func10 (by kernel_rfl) (by kernel_rfl) (x10 x0 y0 ) (Pm.RelL.cons (rel_I2 _ x0 y0) (Pm.RelL.nil _))
  simpa using h

theorem qualities_lifted (os : Os) (started : os.Started) (H : Type) (enc : TypeId × Value → H) :
    ReturnsInHanded {} Tryd.checked os 10 .any (fun w args => (Rows.intervalQualitiesSpec.pre enc Tryd.prog Tryd.f10 [] false w args ∧ laidMet Tryd.prog laidL w) ∧ sizedMet enc Tryd.prog Tryd.f10 (OpenSpec.ofChange Rows.intervalQualitiesSpec) false w args)
      (Rows.intervalQualitiesSpec.post enc Tryd.prog Tryd.f10 false true false false) := by
  refine returnsInHanded_of_change_and (C := Tryd.checked) (X := fun w _ => laidMet Tryd.prog laidL w) (fun _ _ _ hh h => h.of_heap hh) own started (by kernel_rfl) Tryd.func10
    (ChangeSpec.witness_shaped (enc := enc) (C := Tryd.checked) (os := os) (X := fun w _ => laidMet Tryd.prog laidL w) false (World.laidAll Tryd.prog os laidL) #[.agg #[.int .i64 0, .int .i64 0]] 8 (World.laidAll_os _ _ _)
      (World.shaped_of_ZipB (by kernel_rfl) (by kernel_rfl)) (by kernel_rfl) (by kernel_rfl) (by kernel_rfl) (laidL_met os _)) ?_
  intro W base args ds gs before hval0 hW _ _ hL _
  have hval : ∀ (j : Nat) t v, Tryd.f10.params[j]? = some t → args[j]? = some v → Value.okWide Tryd.prog W .any base t v := hval0
  have hW' := hW
  obtain ⟨p, q, hA0, hV, rfl, _, _⟩ := hW
  have hA : DataW.TrodAll enc Tryd.prog W 0 (fun _ => true) true Tryd.f10.params.toList args.toList ds p := hA0
  rw [Tryd.params10] at hA hval
  obtain ⟨v0, d0, rfl, rfl, k0⟩ := trodAll_one hA
  obtain ⟨rfl, rfl⟩ := trodVars_none hV
  obtain ⟨x0, y0, rfl, rfl, rfl, wx0, wy0⟩ := openI (hval 0 25 v0 rfl rfl) k0
  simp only [List.append_nil] at hW'
  refine (qualities_law _ _ ).mono fun e W' ⟨he, hb⟩ => ?_
  subst he
  exact ⟨_, rfl, _, _, _, [], [], [], hW', trodAll_mk1 (shut_bool Tryd.underlying4 _), trodAll_mk1 (readsI _ _ _ _ wx0 wy0), rfl, hb.frame _, fun h => by cases h⟩

theorem qualities_holds : Rows.IntervalQualitiesSaid :=
  OpenClaim.holds_of_wide 10 Tryd.f10 rfl rfl rfl rfl rfl rfl rfl ⟨rfl, rfl, rfl, rfl, rfl⟩ rfl rfl rfl rfl rfl (by kernel_rfl) Tryd.func10 (by kernel_rfl)
    (of_decide_eq_true (by kernel_rfl)) (by unfold Func.isWrapper; first | (rw [if_pos (by decide +kernel)]; kernel_rfl) | (rw [if_neg (by decide +kernel)]; exact ⟨rfl, rfl⟩))
    (fun os started H enc _ => qualities_lifted os started H enc)

theorem qualities_card : Rows.IntervalQualitiesCardSaid :=
  Claim7.holds_tied_plain_at .later [] kindsL true (true, "37dbcdbe293f4c9e6d83a2fb54125cf61ce7055996eae6a7a73bff66c2c8918c") false qualities_holds (fun _ h => by cases h) (by kernel_rfl) (fun _ h => by cases h) intervalQualities_row_tie rfl ⟨rfl, rfl⟩ (by kernel_rfl) rfl
    (fun f fn hf hfn => by
      obtain rfl : f = 10 := Option.some.inj ((show Tryd.prog.funcNamed Tryd.f10.name = some 10 by kernel_rfl).symm.trans hf) |>.symm
      obtain rfl : fn = Tryd.f10 := (Option.some.inj (Tryd.func10.symm.trans hfn)).symm
      exact ⟨by kernel_rfl, fun j t ht => by
        rw [Tryd.params10] at ht
        have hm : t ∈ [25] := by simpa using Array.mem_of_getElem? ht
        have hall : ([25].all fun u => !Tryd.prog.wantsStandIn u) = true := by kernel_rfl
        exact (show Tryd.prog.wantsStandIn t = false by simpa using List.all_eq_true.1 hall t hm)⟩)
    (by kernel_rfl)
#print axioms qualities_card
end Go.Proofs.YtmmpjnjdddaldaaDoor
