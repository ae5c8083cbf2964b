/- The law PitchCompares: the row and the tied card, proved. -/
import Derived.Test.YthoampbpeiehhaaDoorComparesX
import Derived.Test.YthoampbpeiehhaaDoorFrame
set_option linter.unusedVariables false
set_option maxRecDepth 100000
namespace Go.Proofs.YthoampbpeiehhaaDoor
open Go Go.ChangeShapes Go.WideShapes Go.ChangeAt Go.RowKit Go.Joins
open Go.ChangeMaps (open_string shut_string)

theorem compares_law (x0 y0 z0 : Int) (x1 y1 z1 : Int) (x2 y2 z2 : Int) (h0 : (-9223372036854775808 ≤ x0 ∧ x0 ≤ 9223372036854775807) ∧ (-9223372036854775808 ≤ y0 ∧ y0 ≤ 9223372036854775807) ∧ (-9223372036854775808 ≤ z0 ∧ z0 ≤ 9223372036854775807)) (h1 : (-9223372036854775808 ≤ x1 ∧ x1 ≤ 9223372036854775807) ∧ (-9223372036854775808 ≤ y1 ∧ y1 ≤ 9223372036854775807) ∧ (-9223372036854775808 ≤ z1 ∧ z1 ≤ 9223372036854775807)) (h2 : (-9223372036854775808 ≤ x2 ∧ x2 ≤ 9223372036854775807) ∧ (-9223372036854775808 ≤ y2 ∧ y2 ≤ 9223372036854775807) ∧ (-9223372036854775808 ≤ z2 ∧ z2 ≤ 9223372036854775807)) {W : World} (L : Laid W) : Calls Tryd.prog 11 #[.agg #[.int .i64 x0, .int .i64 y0, .int .i64 z0], .agg #[.int .i64 x1, .int .i64 y1, .int .i64 z1], .agg #[.int .i64 x2, .int .i64 y2, .int .i64 z2]] W fun e w' => e = .returned (.bool true) ∧ Below W.heap.size W w' := by
  have h := Pm.law_X env (tok11 L) mixed Tryd.func11 (by kernel_rfl) (by kernel_rfl) (run11 x0 y0 z0 x1 y1 z1 x2 y2 z2 h0 h1 h2) (Pm.RelL.cons (Pm.rel_agg3 _ x0 y0 z0) (Pm.RelL.cons (Pm.rel_agg3 _ x1 y1 z1) (Pm.RelL.cons (Pm.rel_agg3 _ x2 y2 z2) (Pm.RelL.nil _))))
  simpa using h

theorem compares_lifted (os : Os) (started : os.Started) (H : Type) (enc : TypeId × Value → H) :
    ReturnsInHanded {} Tryd.checked os 11 .any (fun w args => (Rows.pitchComparesSpec.pre enc Tryd.prog Tryd.f11 [] false w args ∧ laidMet Tryd.prog laidL w) ∧ sizedMet enc Tryd.prog Tryd.f11 (OpenSpec.ofChange Rows.pitchComparesSpec) false w args)
      (Rows.pitchComparesSpec.post enc Tryd.prog Tryd.f11 false true false false) := by
  refine returnsInHanded_of_change_and (C := Tryd.checked) (X := fun w _ => laidMet Tryd.prog laidL w) (fun _ _ _ hh h => h.of_heap hh) own started (by kernel_rfl) Tryd.func11
    (ChangeSpec.witness_shaped (enc := enc) (C := Tryd.checked) (os := os) (X := fun w _ => laidMet Tryd.prog laidL w) false (World.laidAll Tryd.prog os laidL) #[.agg #[.int .i64 0, .int .i64 0, .int .i64 0], .agg #[.int .i64 0, .int .i64 0, .int .i64 0], .agg #[.int .i64 0, .int .i64 0, .int .i64 0]] 8 (World.laidAll_os _ _ _)
      (World.shaped_of_ZipB (by kernel_rfl) (by kernel_rfl)) (by kernel_rfl) (by kernel_rfl) (by kernel_rfl) (laidL_met os _)) ?_
  intro W base args ds gs before hval0 hW _ _ hL _
  have hval : ∀ (j : Nat) t v, Tryd.f11.params[j]? = some t → args[j]? = some v → Value.okWide Tryd.prog W .any base t v := hval0
  have hW' := hW
  obtain ⟨p, q, hA0, hV, rfl, _, _⟩ := hW
  have hA : DataW.TrodAll enc Tryd.prog W 0 (fun _ => true) true Tryd.f11.params.toList args.toList ds p := hA0
  rw [Tryd.params11] at hA hval
  obtain ⟨v0, v1, v2, d0, d1, d2, p0, p1, p2, rfl, rfl, rfl, k0, k1, k2⟩ := trodAll_three hA
  obtain ⟨rfl, rfl⟩ := trodVars_none hV
  obtain ⟨x0, y0, z0, rfl, rfl, rfl, wx0, wy0, wz0⟩ := openP (hval 0 29 v0 rfl rfl) k0
  obtain ⟨x1, y1, z1, rfl, rfl, rfl, wx1, wy1, wz1⟩ := openP (hval 1 29 v1 rfl rfl) k1
  obtain ⟨x2, y2, z2, rfl, rfl, rfl, wx2, wy2, wz2⟩ := openP (hval 2 29 v2 rfl rfl) k2
  simp only [List.append_nil] at hW'
  refine (compares_law _ _ _ _ _ _ _ _ _ ⟨wf_range wx0, wf_range wy0, wf_range wz0⟩ ⟨wf_range wx1, wf_range wy1, wf_range wz1⟩ ⟨wf_range wx2, wf_range wy2, wf_range wz2⟩ (laid_of hL)).mono fun e W' ⟨he, hb⟩ => ?_
  subst he
  exact ⟨_, rfl, _, _, _, [], [], [], hW', trodAll_mk1 (shut_bool Tryd.underlying4 _), trodAll_mk3 (readsP _ _ _ _ _ _ _ wx0 wy0 wz0) (readsP _ _ _ _ _ _ _ wx1 wy1 wz1) (readsP _ _ _ _ _ _ _ wx2 wy2 wz2), rfl, hb.frame _, fun h => by cases h⟩

theorem compares_holds : Rows.PitchComparesSaid :=
  OpenClaim.holds_of_wide 11 Tryd.f11 rfl rfl rfl rfl rfl rfl rfl ⟨rfl, rfl, rfl, rfl, rfl⟩ rfl rfl rfl rfl rfl (by kernel_rfl) Tryd.func11 (by kernel_rfl)
    (of_decide_eq_true (by kernel_rfl)) (by unfold Func.isWrapper; first | (rw [if_pos (by decide +kernel)]; kernel_rfl) | (rw [if_neg (by decide +kernel)]; exact ⟨rfl, rfl⟩))
    (fun os started H enc _ => compares_lifted os started H enc)

theorem compares_card : Rows.PitchComparesCardSaid :=
  Claim7.holds_tied_plain_at .later [] kindsL true (true, "cd41109a05fe96f081301e09fc7ff7d1befa49038c97fb4fbe7135d202aeb116") true compares_holds (fun _ h => by cases h) (by kernel_rfl) (fun _ h => by cases h) pitchCompares_row_tie rfl ⟨rfl, rfl⟩ (by kernel_rfl) rfl
    (fun f fn hf hfn => by
      obtain rfl : f = 11 := Option.some.inj ((show Tryd.prog.funcNamed Tryd.f11.name = some 11 by kernel_rfl).symm.trans hf) |>.symm
      obtain rfl : fn = Tryd.f11 := (Option.some.inj (Tryd.func11.symm.trans hfn)).symm
      exact ⟨by kernel_rfl, fun j t ht => by
        rw [Tryd.params11] at ht
        have hm : t ∈ [29, 29, 29] := by simpa using Array.mem_of_getElem? ht
        have hall : ([29, 29, 29].all fun u => !Tryd.prog.wantsStandIn u) = true := by kernel_rfl
        exact (show Tryd.prog.wantsStandIn t = false by simpa using List.all_eq_true.1 hall t hm)⟩)
    (by kernel_rfl)
#print axioms compares_card
end Go.Proofs.YthoampbpeiehhaaDoor
