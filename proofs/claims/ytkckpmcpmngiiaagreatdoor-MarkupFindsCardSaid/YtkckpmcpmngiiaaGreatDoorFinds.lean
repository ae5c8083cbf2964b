/- The law MarkupFinds: the row and the tied card, proved. -/
import Derived.Test.YtkckpmcpmngiiaaGreatDoorLawF
import Derived.Test.YtkckpmcpmngiiaaGreatDoorFrame
set_option linter.unusedVariables false
set_option maxRecDepth 100000
namespace Go.Proofs.YtkckpmcpmngiiaaGreatDoor
open Go Go.ChangeShapes Go.WideShapes Go.ChangeAt Go.RowKit Go.Joins
open Go.ChangeMaps (open_string shut_string)

theorem fnd_law (v0 : Value) (n0 : Nd) (a0 k0 : Pm.PV) (s1 : ByteArray) {W : World} (ha0 : atP a0 = some n0.attrs) (hk0 : kidP k0 = some n0.kids) (q0 : Pm.RelS (Pm.start W) (nodeS n0.name a0 n0.text k0) v0) (q1 : s1.size ≤ maxLen) (L : Laid W) : Calls Tryz.prog 10 #[v0, .string s1] W fun e w' => e = .returned (.bool true) ∧ Below W.heap.size W w' := by
  have h := Pm.law_X env (tok10 L) mixed Tryz.func10 (by kernel_rfl) (by kernel_rfl) (x10 ha0 hk0 s1.data.toList) (Pm.RelL.cons (q0) (Pm.RelL.cons (Pm.rel_str _ s1) (Pm.RelL.nil _)))
  simpa using h

theorem fnd_lifted (os : Os) (started : os.Started) (H : Type) (enc : TypeId × Value → H) :
    ReturnsInHanded {} Tryz.checked os 10 .any (fun w args => (Rows.markupFindsSpec.pre enc Tryz.prog Tryz.f10 [] false w args ∧ laidMet Tryz.prog laidP w) ∧ sizedMet enc Tryz.prog Tryz.f10 (OpenSpec.ofChange Rows.markupFindsSpec) false w args)
      (Rows.markupFindsSpec.post enc Tryz.prog Tryz.f10 false true false false) := by
  refine handed_and_shaped (C := Tryz.checked) (X := fun w _ => laidMet Tryz.prog laidP w) (fun _ _ _ hh h => h.of_heap hh) own started (by kernel_rfl) Tryz.func10
    (ChangeSpec.witness_shaped (enc := enc) (C := Tryz.checked) (os := os) (X := fun w _ => laidMet Tryz.prog laidP w) false (World.laidAll Tryz.prog os laidP) #[.agg #[.string ⟨#[]⟩, .slice none 0 0, .string ⟨#[]⟩, .slice none 0 0], .string ⟨#[]⟩] 8 (World.laidAll_os _ _ _)
      (World.shaped_of_ZipB (by kernel_rfl) (by kernel_rfl)) (by kernel_rfl) (by kernel_rfl) (by kernel_rfl) (laidP_met os _)) ?_
  intro W base args ds gs before hval0 hW hL hS
  have hval : ∀ (j : Nat) t v, Tryz.f10.params[j]? = some t → args[j]? = some v → Value.okWide Tryz.prog W .any base t v := hval0
  have hW' := hW
  obtain ⟨p, q, hA0, hV, rfl, _, _⟩ := hW
  have hA : DataW.TrodAll enc Tryz.prog W 0 (fun _ => true) true Tryz.f10.params.toList args.toList ds p := hA0
  rw [Tryz.params10] at hA hval
  obtain ⟨v0, v1, d0, d1, p0, p1, rfl, rfl, rfl, k0, k1⟩ := trodAll_two hA
  obtain ⟨rfl, rfl⟩ := trodVars_none hV
  have t0 := k0
  obtain ⟨n0, a0, b0, y0, z0, w0⟩ := open_tree (hval 0 25 v0 rfl rfl) k0
  obtain ⟨s1, rfl, rfl, rfl, x1⟩ := open_string Tryz.underlying9 (hval 1 9 v1 rfl rfl) k1
  simp only [List.append_nil] at hW'
  refine (fnd_law _ _ _ _ _ y0 z0 w0 x1 (laid_of hS)).mono fun e W' ⟨he, hb⟩ => ?_
  subst he
  exact ⟨_, rfl, _, _, _, [], _, [], hW', trodAll_mk1 (shut_bool Tryz.underlying4 _), trodAll_mk2 (keep_tree t0 hb (fun x hx => by simpa using hW'.lt x (by simp [hx]))) (shut_string Tryz.underlying9 x1), rfl, hb.frame _, fun h => by cases h⟩

theorem fnd_holds : Rows.MarkupFindsSaid :=
  OpenClaim.holds_of_wide 10 Tryz.f10 rfl rfl rfl rfl rfl rfl rfl ⟨rfl, rfl, rfl, rfl, rfl⟩ rfl rfl rfl rfl rfl (by kernel_rfl) Tryz.func10 (by kernel_rfl)
    (of_decide_eq_true (by kernel_rfl)) (by unfold Func.isWrapper; first | (rw [if_pos (by decide +kernel)]; kernel_rfl) | (rw [if_neg (by decide +kernel)]; exact ⟨rfl, rfl⟩))
    (fun os started H enc _ => fnd_lifted os started H enc)

theorem fnd_card : Rows.MarkupFindsCardSaid :=
  Claim7.holds_tied_plain_at .later [] kindsP true (true, "4c21963cec1fe7f0c942b3dc5ad7636798483e2201cc2ebc839da9cea2275151") true fnd_holds (fun _ h => by cases h) (by kernel_rfl) (fun _ h => by cases h) markupFinds_row_tie rfl ⟨rfl, rfl⟩ (by kernel_rfl) rfl
    (fun f fn hf hfn => by
      obtain rfl : f = 10 := Option.some.inj ((show Tryz.prog.funcNamed Tryz.f10.name = some 10 by kernel_rfl).symm.trans hf) |>.symm
      obtain rfl : fn = Tryz.f10 := (Option.some.inj (Tryz.func10.symm.trans hfn)).symm
      exact ⟨by kernel_rfl, fun j t ht => by
        rw [Tryz.params10] at ht
        have hm : t ∈ [25, 9] := by simpa using Array.mem_of_getElem? ht
        have hall : ([25, 9].all fun u => !Tryz.prog.wantsStandIn u) = true := by kernel_rfl
        exact (show Tryz.prog.wantsStandIn t = false by simpa using List.all_eq_true.1 hall t hm)⟩)
    (by kernel_rfl)
#print axioms fnd_card
end Go.Proofs.YtkckpmcpmngiiaaGreatDoor
