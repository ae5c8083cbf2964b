/- The law MarkupEquals: the row and the tied card, proved. -/
import Derived.Test.YtkckpmcpmngiiaaGreatDoorLawR
import Derived.Test.YtkckpmcpmngiiaaGreatDoorFrame
set_option linter.unusedVariables false
set_option maxRecDepth 100000
namespace Go.Proofs.YtkckpmcpmngiiaaGreatDoor
open Go Go.ChangeShapes Go.WideShapes Go.ChangeAt Go.RowKit Go.Joins
open Go.ChangeMaps (open_string shut_string)

theorem eql_law (v0 : Value) (n0 : Nd) (a0 k0 : Pm.PV) (v1 : Value) (n1 : Nd) (a1 k1 : Pm.PV) {W : World} (ha0 : atP a0 = some n0.attrs) (hk0 : kidP k0 = some n0.kids) (q0 : Pm.RelS (Pm.start W) (nodeS n0.name a0 n0.text k0) v0) (ha1 : atP a1 = some n1.attrs) (hk1 : kidP k1 = some n1.kids) (q1 : Pm.RelS (Pm.start W) (nodeS n1.name a1 n1.text k1) v1) (L : Laid W) : Calls Tryz.prog 9 #[v0, v1] W fun e w' => e = .returned (.bool true) ∧ Below W.heap.size W w' := by
  exact x9 L ha0 hk0 ha1 hk1 q0 q1

theorem eql_lifted (os : Os) (started : os.Started) (H : Type) (enc : TypeId × Value → H) :
    ReturnsInHanded {} Tryz.checked os 9 .any (fun w args => (Rows.markupEqualsSpec.pre enc Tryz.prog Tryz.f9 [] false w args ∧ laidMet Tryz.prog laidP w) ∧ sizedMet enc Tryz.prog Tryz.f9 (OpenSpec.ofChange Rows.markupEqualsSpec) false w args)
      (Rows.markupEqualsSpec.post enc Tryz.prog Tryz.f9 false true false false) := by
  refine handed_and_shaped (C := Tryz.checked) (X := fun w _ => laidMet Tryz.prog laidP w) (fun _ _ _ hh h => h.of_heap hh) own started (by kernel_rfl) Tryz.func9
    (ChangeSpec.witness_shaped (enc := enc) (C := Tryz.checked) (os := os) (X := fun w _ => laidMet Tryz.prog laidP w) false (World.laidAll Tryz.prog os laidP) #[.agg #[.string ⟨#[]⟩, .slice none 0 0, .string ⟨#[]⟩, .slice none 0 0], .agg #[.string ⟨#[]⟩, .slice none 0 0, .string ⟨#[]⟩, .slice none 0 0]] 8 (World.laidAll_os _ _ _)
      (World.shaped_of_ZipB (by kernel_rfl) (by kernel_rfl)) (by kernel_rfl) (by kernel_rfl) (by kernel_rfl) (laidP_met os _)) ?_
  intro W base args ds gs before hval0 hW hL hS
  have hval : ∀ (j : Nat) t v, Tryz.f9.params[j]? = some t → args[j]? = some v → Value.okWide Tryz.prog W .any base t v := hval0
  have hW' := hW
  obtain ⟨p, q, hA0, hV, rfl, _, _⟩ := hW
  have hA : DataW.TrodAll enc Tryz.prog W 0 (fun _ => true) true Tryz.f9.params.toList args.toList ds p := hA0
  rw [Tryz.params9] at hA hval
  obtain ⟨v0, v1, d0, d1, p0, p1, rfl, rfl, rfl, k0, k1⟩ := trodAll_two hA
  obtain ⟨rfl, rfl⟩ := trodVars_none hV
  have t0 := k0
  obtain ⟨n0, a0, b0, y0, z0, w0⟩ := open_tree (hval 0 25 v0 rfl rfl) k0
  have t1 := k1
  obtain ⟨n1, a1, b1, y1, z1, w1⟩ := open_tree (hval 1 25 v1 rfl rfl) k1
  simp only [List.append_nil] at hW'
  refine (eql_law _ _ _ _ _ _ _ _ y0 z0 w0 y1 z1 w1 (laid_of hS)).mono fun e W' ⟨he, hb⟩ => ?_
  subst he
  exact ⟨_, rfl, _, _, _, [], _, [], hW', trodAll_mk1 (shut_bool Tryz.underlying4 _), trodAll_mk2 (keep_tree t0 hb (fun x hx => by simpa using hW'.lt x (by simp [hx]))) (keep_tree t1 hb (fun x hx => by simpa using hW'.lt x (by simp [hx]))), rfl, hb.frame _, fun h => by cases h⟩

theorem eql_holds : Rows.MarkupEqualsSaid :=
  OpenClaim.holds_of_wide 9 Tryz.f9 rfl rfl rfl rfl rfl rfl rfl ⟨rfl, rfl, rfl, rfl, rfl⟩ rfl rfl rfl rfl rfl (by kernel_rfl) Tryz.func9 (by kernel_rfl)
    (of_decide_eq_true (by kernel_rfl)) (by unfold Func.isWrapper; first | (rw [if_pos (by decide +kernel)]; kernel_rfl) | (rw [if_neg (by decide +kernel)]; exact ⟨rfl, rfl⟩))
    (fun os started H enc _ => eql_lifted os started H enc)

theorem eql_card : Rows.MarkupEqualsCardSaid :=
  Claim7.holds_tied_plain_at .later [] kindsP true (true, "4c21963cec1fe7f0c942b3dc5ad7636798483e2201cc2ebc839da9cea2275151") true eql_holds (fun _ h => by cases h) (by kernel_rfl) (fun _ h => by cases h) markupEquals_row_tie rfl ⟨rfl, rfl⟩ (by kernel_rfl) rfl
    (fun f fn hf hfn => by
      obtain rfl : f = 9 := Option.some.inj ((show Tryz.prog.funcNamed Tryz.f9.name = some 9 by kernel_rfl).symm.trans hf) |>.symm
      obtain rfl : fn = Tryz.f9 := (Option.some.inj (Tryz.func9.symm.trans hfn)).symm
      exact ⟨by kernel_rfl, fun j t ht => by
        rw [Tryz.params9] at ht
        have hm : t ∈ [25, 25] := by simpa using Array.mem_of_getElem? ht
        have hall : ([25, 25].all fun u => !Tryz.prog.wantsStandIn u) = true := by kernel_rfl
        exact (show Tryz.prog.wantsStandIn t = false by simpa using List.all_eq_true.1 hall t hm)⟩)
    (by kernel_rfl)
#print axioms eql_card
end Go.Proofs.YtkckpmcpmngiiaaGreatDoor
