/- The law IntervalActs: the row and the tied card, proved. -/
import Derived.Test.YtmmpjnjdddaldaaDoorIntV
import Derived.Test.YtmmpjnjdddaldaaDoorFrame
set_option linter.unusedVariables false
set_option maxRecDepth 100000
namespace Go.Proofs.YtmmpjnjdddaldaaDoor
open Go Go.ChangeShapes Go.WideShapes Go.ChangeAt Go.RowKit Go.Joins
open Go.ChangeMaps (open_string shut_string)

theorem acts_law (x0 y0 z0 : Int) (x1 y1 : Int) (x2 y2 : Int)  {W : World} : Calls Tryd.prog 9 #[vP x0 y0 z0, vI x1 y1, vI x2 y2] W fun e w' => e = .returned (.bool true) ∧ Below W.heap.size W w' := by
  have h := Pm.law_X env (tok9 W) mixed Tryd.func9 (by kernel_rfl) (by kernel_rfl) (x9 x0 y0 z0 x1 y1 x2 y2 ) (Pm.RelL.cons (rel_P _ x0 y0 z0) (Pm.RelL.cons (rel_I2 _ x1 y1) (Pm.RelL.cons (rel_I2 _ x2 y2) (Pm.RelL.nil _))))
  simpa using h

theorem acts_lifted (os : Os) (started : os.Started) (H : Type) (enc : TypeId × Value → H) :
    ReturnsInHanded {} Tryd.checked os 9 .any (fun w args => (Rows.intervalActsSpec.pre enc Tryd.prog Tryd.f9 [] false w args ∧ laidMet Tryd.prog laidL w) ∧ sizedMet enc Tryd.prog Tryd.f9 (OpenSpec.ofChange Rows.intervalActsSpec) false w args)
      (Rows.intervalActsSpec.post enc Tryd.prog Tryd.f9 false true false false) := by
  refine returnsInHanded_of_change_and (C := Tryd.checked) (X := fun w _ => laidMet Tryd.prog laidL w) (fun _ _ _ hh h => h.of_heap hh) own started (by kernel_rfl) Tryd.func9
    (ChangeSpec.witness_shaped (enc := enc) (C := Tryd.checked) (os := os) (X := fun w _ => laidMet Tryd.prog laidL w) false (World.laidAll Tryd.prog os laidL) #[.agg #[.int .i64 0, .int .i64 0, .int .i64 0], .agg #[.int .i64 0, .int .i64 0], .agg #[.int .i64 0, .int .i64 0]] 8 (World.laidAll_os _ _ _)
      (World.shaped_of_ZipB (by kernel_rfl) (by kernel_rfl)) (by kernel_rfl) (by kernel_rfl) (by kernel_rfl) (laidL_met os _)) ?_
  intro W base args ds gs before hval0 hW _ _ hL _
  have hval : ∀ (j : Nat) t v, Tryd.f9.params[j]? = some t → args[j]? = some v → Value.okWide Tryd.prog W .any base t v := hval0
  have hW' := hW
  obtain ⟨p, q, hA0, hV, rfl, _, _⟩ := hW
  have hA : DataW.TrodAll enc Tryd.prog W 0 (fun _ => true) true Tryd.f9.params.toList args.toList ds p := hA0
  rw [Tryd.params9] at hA hval
  obtain ⟨v0, v1, v2, d0, d1, d2, p0, p1, p2, rfl, rfl, rfl, k0, k1, k2⟩ := trodAll_three hA
  obtain ⟨rfl, rfl⟩ := trodVars_none hV
  obtain ⟨x0, y0, z0, rfl, rfl, rfl, wx0, wy0, wz0⟩ := openP (hval 0 23 v0 rfl rfl) k0
  obtain ⟨x1, y1, rfl, rfl, rfl, wx1, wy1⟩ := openI (hval 1 25 v1 rfl rfl) k1
  obtain ⟨x2, y2, rfl, rfl, rfl, wx2, wy2⟩ := openI (hval 2 25 v2 rfl rfl) k2
  simp only [List.append_nil] at hW'
  refine (acts_law _ _ _ _ _ _ _ ).mono fun e W' ⟨he, hb⟩ => ?_
  subst he
  exact ⟨_, rfl, _, _, _, [], [], [], hW', trodAll_mk1 (shut_bool Tryd.underlying4 _), trodAll_mk3 (readsP _ _ _ _ wx0 wy0 wz0) (readsI _ _ _ _ wx1 wy1) (readsI _ _ _ _ wx2 wy2), rfl, hb.frame _, fun h => by cases h⟩

theorem acts_holds : Rows.IntervalActsSaid :=
  OpenClaim.holds_of_wide 9 Tryd.f9 rfl rfl rfl rfl rfl rfl rfl ⟨rfl, rfl, rfl, rfl, rfl⟩ rfl rfl rfl rfl rfl (by kernel_rfl) Tryd.func9 (by kernel_rfl)
    (of_decide_eq_true (by kernel_rfl)) (by unfold Func.isWrapper; first | (rw [if_pos (by decide +kernel)]; kernel_rfl) | (rw [if_neg (by decide +kernel)]; exact ⟨rfl, rfl⟩))
    (fun os started H enc _ => acts_lifted os started H enc)

theorem acts_card : Rows.IntervalActsCardSaid :=
  Claim7.holds_tied_plain_at .later [] kindsL true (true, "37dbcdbe293f4c9e6d83a2fb54125cf61ce7055996eae6a7a73bff66c2c8918c") false acts_holds (fun _ h => by cases h) (by kernel_rfl) (fun _ h => by cases h) intervalActs_row_tie rfl ⟨rfl, rfl⟩ (by kernel_rfl) rfl
    (fun f fn hf hfn => by
      obtain rfl : f = 9 := Option.some.inj ((show Tryd.prog.funcNamed Tryd.f9.name = some 9 by kernel_rfl).symm.trans hf) |>.symm
      obtain rfl : fn = Tryd.f9 := (Option.some.inj (Tryd.func9.symm.trans hfn)).symm
      exact ⟨by kernel_rfl, fun j t ht => by
        rw [Tryd.params9] at ht
        have hm : t ∈ [23, 25, 25] := by simpa using Array.mem_of_getElem? ht
        have hall : ([23, 25, 25].all fun u => !Tryd.prog.wantsStandIn u) = true := by kernel_rfl
        exact (show Tryd.prog.wantsStandIn t = false by simpa using List.all_eq_true.1 hall t hm)⟩)
    (by kernel_rfl)
#print axioms acts_card
end Go.Proofs.YtmmpjnjdddaldaaDoor
