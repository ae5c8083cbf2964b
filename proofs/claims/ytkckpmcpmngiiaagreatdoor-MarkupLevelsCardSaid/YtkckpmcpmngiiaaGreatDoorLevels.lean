/- The law MarkupLevels: the row and the tied card, proved. -/
import Derived.Test.YtkckpmcpmngiiaaGreatDoorLawJ
import Derived.Test.YtkckpmcpmngiiaaGreatDoorFrame
set_option linter.unusedVariables false
set_option maxRecDepth 100000
namespace Go.Proofs.YtkckpmcpmngiiaaGreatDoor
open Go Go.ChangeShapes Go.WideShapes Go.ChangeAt Go.RowKit Go.Joins
open Go.ChangeMaps (open_string shut_string)

theorem lvl_law (a0 : Int) {W : World} (q0 : (Lit.int .u8 a0).wf = true) (L : Laid W) : Calls Tryz.prog 8 #[.int .u8 a0] W fun e w' => e = .returned (.bool true) ∧ Below W.heap.size W w' := by
  have h := Pm.law_X env (tok8 L) mixed Tryz.func8 (by kernel_rfl) (by kernel_rfl) (x8 a0 q0) (Pm.RelL.cons (rel_I _ .u8 a0) (Pm.RelL.nil _))
  simpa using h

theorem lvl_lifted (os : Os) (started : os.Started) (H : Type) (enc : TypeId × Value → H) :
    ReturnsInHanded {} Tryz.checked os 8 .any (fun w args => (Rows.markupLevelsSpec.pre enc Tryz.prog Tryz.f8 [] false w args ∧ laidMet Tryz.prog laidP w) ∧ sizedMet enc Tryz.prog Tryz.f8 (OpenSpec.ofChange Rows.markupLevelsSpec) false w args)
      (Rows.markupLevelsSpec.post enc Tryz.prog Tryz.f8 false true false false) := by
  refine handed_and_shaped (C := Tryz.checked) (X := fun w _ => laidMet Tryz.prog laidP w) (fun _ _ _ hh h => h.of_heap hh) own started (by kernel_rfl) Tryz.func8
    (ChangeSpec.witness_shaped (enc := enc) (C := Tryz.checked) (os := os) (X := fun w _ => laidMet Tryz.prog laidP w) false (World.laidAll Tryz.prog os laidP) #[.int .u8 0] 8 (World.laidAll_os _ _ _)
      (World.shaped_of_ZipB (by kernel_rfl) (by kernel_rfl)) (by kernel_rfl) (by kernel_rfl) (by kernel_rfl) (laidP_met os _)) ?_
  intro W base args ds gs before hval0 hW hL hS
  have hval : ∀ (j : Nat) t v, Tryz.f8.params[j]? = some t → args[j]? = some v → Value.okWide Tryz.prog W .any base t v := hval0
  have hW' := hW
  obtain ⟨p, q, hA0, hV, rfl, _, _⟩ := hW
  have hA : DataW.TrodAll enc Tryz.prog W 0 (fun _ => true) true Tryz.f8.params.toList args.toList ds p := hA0
  rw [Tryz.params8] at hA hval
  obtain ⟨v0, d0, rfl, rfl, k0⟩ := trodAll_one hA
  obtain ⟨rfl, rfl⟩ := trodVars_none hV
  obtain ⟨a0, rfl, rfl, rfl, x0⟩ := open_int Tryz.underlying5 (hval 0 5 v0 rfl rfl) k0
  simp only [List.append_nil] at hW'
  refine (lvl_law _ x0 (laid_of hS)).mono fun e W' ⟨he, hb⟩ => ?_
  subst he
  exact ⟨_, rfl, _, _, _, [], _, [], hW', trodAll_mk1 (shut_bool Tryz.underlying4 _), trodAll_mk1 (shut_int Tryz.underlying5 x0), rfl, hb.frame _, fun h => by cases h⟩

theorem lvl_holds : Rows.MarkupLevelsSaid :=
  OpenClaim.holds_of_wide 8 Tryz.f8 rfl rfl rfl rfl rfl rfl rfl ⟨rfl, rfl, rfl, rfl, rfl⟩ rfl rfl rfl rfl rfl (by kernel_rfl) Tryz.func8 (by kernel_rfl)
    (of_decide_eq_true (by kernel_rfl)) (by unfold Func.isWrapper; first | (rw [if_pos (by decide +kernel)]; kernel_rfl) | (rw [if_neg (by decide +kernel)]; exact ⟨rfl, rfl⟩))
    (fun os started H enc _ => lvl_lifted os started H enc)

theorem lvl_card : Rows.MarkupLevelsCardSaid :=
  Claim7.holds_tied_plain_at .later [] kindsP true (true, "4c21963cec1fe7f0c942b3dc5ad7636798483e2201cc2ebc839da9cea2275151") true lvl_holds (fun _ h => by cases h) (by kernel_rfl) (fun _ h => by cases h) markupLevels_row_tie rfl ⟨rfl, rfl⟩ (by kernel_rfl) rfl
    (fun f fn hf hfn => by
      obtain rfl : f = 8 := Option.some.inj ((show Tryz.prog.funcNamed Tryz.f8.name = some 8 by kernel_rfl).symm.trans hf) |>.symm
      obtain rfl : fn = Tryz.f8 := (Option.some.inj (Tryz.func8.symm.trans hfn)).symm
      exact ⟨by kernel_rfl, fun j t ht => by
        rw [Tryz.params8] at ht
        have hm : t ∈ [5] := by simpa using Array.mem_of_getElem? ht
        have hall : ([5].all fun u => !Tryz.prog.wantsStandIn u) = true := by kernel_rfl
        exact (show Tryz.prog.wantsStandIn t = false by simpa using List.all_eq_true.1 hall t hm)⟩)
    (by kernel_rfl)
#print axioms lvl_card
end Go.Proofs.YtkckpmcpmngiiaaGreatDoor
