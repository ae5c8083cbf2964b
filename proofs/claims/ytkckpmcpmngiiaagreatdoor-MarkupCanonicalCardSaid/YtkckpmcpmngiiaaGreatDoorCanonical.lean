/- The law MarkupCanonical: the row and the tied card, proved. -/
import Derived.Test.YtkckpmcpmngiiaaGreatDoorLawH
import Derived.Test.YtkckpmcpmngiiaaGreatDoorFrame
set_option linter.unusedVariables false
set_option maxRecDepth 100000
namespace Go.Proofs.YtkckpmcpmngiiaaGreatDoor
open Go Go.ChangeShapes Go.WideShapes Go.ChangeAt Go.RowKit Go.Joins
open Go.ChangeMaps (open_string shut_string)

theorem can_law (s0 : ByteArray) {W : World} (q0 : s0.size ≤ maxLen) (L : Laid W) : Calls Tryz.prog 6 #[.string s0] W fun e w' => e = .returned (.bool true) ∧ Below W.heap.size W w' := by
  have h := Pm.law_X env (tok6 L) mixed Tryz.func6 (by kernel_rfl) (by kernel_rfl) (x6 s0.data.toList) (Pm.RelL.cons (Pm.rel_str _ s0) (Pm.RelL.nil _))
  simpa using h

theorem can_lifted (os : Os) (started : os.Started) (H : Type) (enc : TypeId × Value → H) :
    ReturnsInHanded {} Tryz.checked os 6 .any (fun w args => (Rows.markupCanonicalSpec.pre enc Tryz.prog Tryz.f6 [] false w args ∧ laidMet Tryz.prog laidP w) ∧ sizedMet enc Tryz.prog Tryz.f6 (OpenSpec.ofChange Rows.markupCanonicalSpec) false w args)
      (Rows.markupCanonicalSpec.post enc Tryz.prog Tryz.f6 false true false false) := by
  refine handed_and_shaped (C := Tryz.checked) (X := fun w _ => laidMet Tryz.prog laidP w) (fun _ _ _ hh h => h.of_heap hh) own started (by kernel_rfl) Tryz.func6
    (ChangeSpec.witness_shaped (enc := enc) (C := Tryz.checked) (os := os) (X := fun w _ => laidMet Tryz.prog laidP w) false (World.laidAll Tryz.prog os laidP) #[.string ⟨#[]⟩] 8 (World.laidAll_os _ _ _)
      (World.shaped_of_ZipB (by kernel_rfl) (by kernel_rfl)) (by kernel_rfl) (by kernel_rfl) (by kernel_rfl) (laidP_met os _)) ?_
  intro W base args ds gs before hval0 hW hL hS
  have hval : ∀ (j : Nat) t v, Tryz.f6.params[j]? = some t → args[j]? = some v → Value.okWide Tryz.prog W .any base t v := hval0
  have hW' := hW
  obtain ⟨p, q, hA0, hV, rfl, _, _⟩ := hW
  have hA : DataW.TrodAll enc Tryz.prog W 0 (fun _ => true) true Tryz.f6.params.toList args.toList ds p := hA0
  rw [Tryz.params6] at hA hval
  obtain ⟨v0, d0, rfl, rfl, k0⟩ := trodAll_one hA
  obtain ⟨rfl, rfl⟩ := trodVars_none hV
  obtain ⟨s0, rfl, rfl, rfl, x0⟩ := open_string Tryz.underlying9 (hval 0 9 v0 rfl rfl) k0
  simp only [List.append_nil] at hW'
  refine (can_law _ x0 (laid_of hS)).mono fun e W' ⟨he, hb⟩ => ?_
  subst he
  exact ⟨_, rfl, _, _, _, [], _, [], hW', trodAll_mk1 (shut_bool Tryz.underlying4 _), trodAll_mk1 (shut_string Tryz.underlying9 x0), rfl, hb.frame _, fun h => by cases h⟩

theorem can_holds : Rows.MarkupCanonicalSaid :=
  OpenClaim.holds_of_wide 6 Tryz.f6 rfl rfl rfl rfl rfl rfl rfl ⟨rfl, rfl, rfl, rfl, rfl⟩ rfl rfl rfl rfl rfl (by kernel_rfl) Tryz.func6 (by kernel_rfl)
    (of_decide_eq_true (by kernel_rfl)) (by unfold Func.isWrapper; first | (rw [if_pos (by decide +kernel)]; kernel_rfl) | (rw [if_neg (by decide +kernel)]; exact ⟨rfl, rfl⟩))
    (fun os started H enc _ => can_lifted os started H enc)

theorem can_card : Rows.MarkupCanonicalCardSaid :=
  Claim7.holds_tied_plain_at .later [] kindsP true (true, "4c21963cec1fe7f0c942b3dc5ad7636798483e2201cc2ebc839da9cea2275151") true can_holds (fun _ h => by cases h) (by kernel_rfl) (fun _ h => by cases h) markupCanonical_row_tie rfl ⟨rfl, rfl⟩ (by kernel_rfl) rfl
    (fun f fn hf hfn => by
      obtain rfl : f = 6 := Option.some.inj ((show Tryz.prog.funcNamed Tryz.f6.name = some 6 by kernel_rfl).symm.trans hf) |>.symm
      obtain rfl : fn = Tryz.f6 := (Option.some.inj (Tryz.func6.symm.trans hfn)).symm
      exact ⟨by kernel_rfl, fun j t ht => by
        rw [Tryz.params6] at ht
        have hm : t ∈ [9] := by simpa using Array.mem_of_getElem? ht
        have hall : ([9].all fun u => !Tryz.prog.wantsStandIn u) = true := by kernel_rfl
        exact (show Tryz.prog.wantsStandIn t = false by simpa using List.all_eq_true.1 hall t hm)⟩)
    (by kernel_rfl)
#print axioms can_card
end Go.Proofs.YtkckpmcpmngiiaaGreatDoor
