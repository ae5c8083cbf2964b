/- The law DurationSums: the row and the tied card, proved. -/
import Derived.Test.YtngapiffgoignaaDoorFrame
set_option linter.unusedVariables false
set_option maxRecDepth 100000
namespace Go.Proofs.YtngapiffgoignaaDoor
open Go Go.ChangeShapes Go.WideShapes Go.ChangeAt Go.RowKit Go.Joins
open Go.ChangeMaps (open_string shut_string)

theorem sums_law (v0 : Value) (p0 : Pm.PV) (l0 : List (Int × Int)) (a1 : Int) {W : World} (z0 : lstP p0 = some l0) (q0 : Pm.RelS (Pm.start W) (.pv p0) v0) (q1 : (Lit.int .u8 a1).wf = true) (L : Laid W) : Calls Tryd.prog 10 #[v0, .int .u8 a1] W fun e w' => e = .returned (.bool true) ∧ Below W.heap.size W w' := by
  have h := Pm.law_X env (tok10 L) mixed Tryd.func10 (by kernel_rfl) (by kernel_rfl) (x10 p0 l0 z0 a1 q1) (Pm.RelL.cons (q0) (Pm.RelL.cons (rel_I _ .u8 a1) (Pm.RelL.nil _)))
  simpa using h

theorem sums_lifted (os : Os) (started : os.Started) (H : Type) (enc : TypeId × Value → H) :
    ReturnsInHanded {} Tryd.checked os 10 .any (fun w args => (Rows.durationSumsSpec.pre enc Tryd.prog Tryd.f10 [] false w args ∧ laidMet Tryd.prog laidL w) ∧ sizedMet enc Tryd.prog Tryd.f10 (OpenSpec.ofChange Rows.durationSumsSpec) false w args)
      (Rows.durationSumsSpec.post enc Tryd.prog Tryd.f10 false true false false) := by
  refine returnsInHanded_of_change_and (C := Tryd.checked) (X := fun w _ => laidMet Tryd.prog laidL w) (fun _ _ _ hh h => h.of_heap hh) own started (by kernel_rfl) Tryd.func10
    (ChangeSpec.witness_shaped (enc := enc) (C := Tryd.checked) (os := os) (X := fun w _ => laidMet Tryd.prog laidL w) false (World.laidAll Tryd.prog os laidL) #[.slice none 0 0, .int .u8 0] 8 (World.laidAll_os _ _ _)
      (World.shaped_of_ZipB (by kernel_rfl) (by kernel_rfl)) (by kernel_rfl) (by kernel_rfl) (by kernel_rfl) (laidL_met os _)) ?_
  intro W base args ds gs before hval0 hW _ _ hL _
  have hval : ∀ (j : Nat) t v, Tryd.f10.params[j]? = some t → args[j]? = some v → Value.okWide Tryd.prog W .any base t v := hval0
  have hW' := hW
  obtain ⟨p, q, hA0, hV, rfl, _, _⟩ := hW
  have hA : DataW.TrodAll enc Tryd.prog W 0 (fun _ => true) true Tryd.f10.params.toList args.toList ds p := hA0
  rw [Tryd.params10] at hA hval
  obtain ⟨v0, v1, d0, d1, p0, p1, rfl, rfl, rfl, k0, k1⟩ := trodAll_two hA
  obtain ⟨rfl, rfl⟩ := trodVars_none hV
  have t0 := k0
  obtain ⟨pv0, lv0, g0, h0⟩ := open_vals (hval 0 24 v0 rfl rfl) k0
  obtain ⟨a1, rfl, rfl, rfl, w1⟩ := open_int Tryd.underlying5 (hval 1 5 v1 rfl rfl) k1
  simp only [List.append_nil] at hW'
  refine (sums_law _ _ _ _ g0 h0 w1 (laid_of hL)).mono fun e W' ⟨he, hb⟩ => ?_
  subst he
  exact ⟨_, rfl, _, _, _, [], _, [], hW', trodAll_mk1 (shut_bool Tryd.underlying4 _), trodAll_mk2 (keep_vals t0 hb (fun x hx => by simpa using hW'.lt x (by simpa using hx))) (shut_int Tryd.underlying5 w1), rfl, hb.frame _, fun h => by cases h⟩

theorem sums_holds : Rows.DurationSumsSaid :=
  OpenClaim.holds_of_wide 10 Tryd.f10 rfl rfl rfl rfl rfl rfl rfl ⟨rfl, rfl, rfl, rfl, rfl⟩ rfl rfl rfl rfl rfl (by kernel_rfl) Tryd.func10 (by kernel_rfl)
    (of_decide_eq_true (by kernel_rfl)) (by unfold Func.isWrapper; first | (rw [if_pos (by decide +kernel)]; kernel_rfl) | (rw [if_neg (by decide +kernel)]; exact ⟨rfl, rfl⟩))
    (fun os started H enc _ => sums_lifted os started H enc)

theorem sums_card : Rows.DurationSumsCardSaid :=
  Claim7.holds_tied_plain_at .later [] kindsL true (true, "cb6de72c2a97eb703799e49d02d0afb434680271af7aa6a815773c476e74f040") false sums_holds (fun _ h => by cases h) (by kernel_rfl) (fun _ h => by cases h) durationSums_row_tie rfl ⟨rfl, rfl⟩ (by kernel_rfl) rfl
    (fun f fn hf hfn => by
      obtain rfl : f = 10 := Option.some.inj ((show Tryd.prog.funcNamed Tryd.f10.name = some 10 by kernel_rfl).symm.trans hf) |>.symm
      obtain rfl : fn = Tryd.f10 := (Option.some.inj (Tryd.func10.symm.trans hfn)).symm
      exact ⟨by kernel_rfl, fun j t ht => by
        rw [Tryd.params10] at ht
        have hm : t ∈ [24, 5] := by simpa using Array.mem_of_getElem? ht
        have hall : ([24, 5].all fun u => !Tryd.prog.wantsStandIn u) = true := by kernel_rfl
        exact (show Tryd.prog.wantsStandIn t = false by simpa using List.all_eq_true.1 hall t hm)⟩)
    (by kernel_rfl)
#print axioms sums_card
end Go.Proofs.YtngapiffgoignaaDoor
