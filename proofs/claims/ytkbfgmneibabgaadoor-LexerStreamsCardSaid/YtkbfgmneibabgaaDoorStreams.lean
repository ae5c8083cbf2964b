/- The law LexerStreams: the row and the tied card, proved. -/
import Derived.Test.YtkbfgmneibabgaaDoorStmB
import Derived.Test.YtkbfgmneibabgaaDoorOpsM
set_option linter.unusedVariables false
set_option maxRecDepth 100000
namespace Go.Proofs.YtkbfgmneibabgaaDoor
open Go Go.ChangeShapes Go.WideShapes Go.ChangeAt Go.RowKit Go.Joins
open Go.ChangeMaps (open_string shut_string)

theorem streams_law (s0 : ByteArray) (v1 : Value) (ov1 : Pm.SV) (os1 : List OpT) {W : World} (z1 : OpsR ov1 os1) (q1 : Pm.RelS (Pm.start W) ov1 v1) : Calls Tryd.prog 11 #[.string s0, v1] W fun e w' => e = .returned (.bool true) ∧ Below W.heap.size W w' := by
  have h := Pm.law_X env (tok11 W) mixed Tryd.func11 (by kernel_rfl) (by kernel_rfl) (x11 s0.data.toList ov1 os1 z1) (Pm.RelL.cons (Pm.rel_str _ s0) (Pm.RelL.cons (q1) (Pm.RelL.nil _)))
  simpa using h

theorem streams_lifted (os : Os) (started : os.Started) (H : Type) (enc : TypeId × Value → H) :
    ReturnsInHanded {} Tryd.checked os 11 .any (fun w args => (Rows.lexerStreamsSpec.pre enc Tryd.prog Tryd.f11 [] false w args ∧ laidMet Tryd.prog laidL w) ∧ sizedMet enc Tryd.prog Tryd.f11 (OpenSpec.ofChange Rows.lexerStreamsSpec) false w args)
      (Rows.lexerStreamsSpec.post enc Tryd.prog Tryd.f11 false true false false) := by
  refine returnsInHanded_of_change_and (C := Tryd.checked) (X := fun w _ => laidMet Tryd.prog laidL w) (fun _ _ _ hh h => h.of_heap hh) own started (by kernel_rfl) Tryd.func11
    (ChangeSpec.witness_shaped (enc := enc) (C := Tryd.checked) (os := os) (X := fun w _ => laidMet Tryd.prog laidL w) false (World.laidAll Tryd.prog os laidL) #[.string ⟨#[]⟩, .slice none 0 0] 8 (World.laidAll_os _ _ _)
      (World.shaped_of_ZipB (by kernel_rfl) (by kernel_rfl)) (by kernel_rfl) (by kernel_rfl) (by kernel_rfl) (laidL_met os _)) ?_
  intro W base args ds gs before hval0 hW _ _ hL _
  have hval : ∀ (j : Nat) t v, Tryd.f11.params[j]? = some t → args[j]? = some v → Value.okWide Tryd.prog W .any base t v := hval0
  have hW' := hW
  obtain ⟨p, q, hA0, hV, rfl, _, _⟩ := hW
  have hA : DataW.TrodAll enc Tryd.prog W 0 (fun _ => true) true Tryd.f11.params.toList args.toList ds p := hA0
  rw [Tryd.params11] at hA hval
  obtain ⟨v0, v1, d0, d1, p0, p1, rfl, rfl, rfl, k0, k1⟩ := trodAll_two hA
  obtain ⟨rfl, rfl⟩ := trodVars_none hV
  obtain ⟨s0, rfl, rfl, rfl, x0⟩ := open_string Tryd.underlying9 (hval 0 9 v0 rfl rfl) k0
  have t1 := k1
  obtain ⟨ov1, os1, x1, y1⟩ := open_ops (hval 1 64 v1 rfl rfl) k1
  simp only [List.append_nil] at hW'
  refine (streams_law _ _ _ _ x1 y1).mono fun e W' ⟨he, hb⟩ => ?_
  subst he
  exact ⟨_, rfl, _, _, _, [], _, [], hW', trodAll_mk1 (shut_bool Tryd.underlying4 _), trodAll_mk2 (shut_string Tryd.underlying9 x0) (keep_ops t1 hb (fun x hx => by simpa using hW'.lt x (by simpa using hx))), rfl, hb.frame _, fun h => by cases h⟩

theorem streams_holds : Rows.LexerStreamsSaid :=
  OpenClaim.holds_of_wide 11 Tryd.f11 rfl rfl rfl rfl rfl rfl rfl ⟨rfl, rfl, rfl, rfl, rfl⟩ rfl rfl rfl rfl rfl (by kernel_rfl) Tryd.func11 (by kernel_rfl)
    (of_decide_eq_true (by kernel_rfl)) (by unfold Func.isWrapper; first | (rw [if_pos (by decide +kernel)]; kernel_rfl) | (rw [if_neg (by decide +kernel)]; exact ⟨rfl, rfl⟩))
    (fun os started H enc _ => streams_lifted os started H enc)

theorem streams_card : Rows.LexerStreamsCardSaid :=
  Claim7.holds_tied_plain_at .later [] kindsL true (true, "a8f58efcd493430d9b62a510bdae641cba4ea38ed0ecc2525ff681a577160774") true streams_holds (fun _ h => by cases h) (by kernel_rfl) (fun _ h => by cases h) lexerStreams_row_tie rfl ⟨rfl, rfl⟩ (by kernel_rfl) rfl
    (fun f fn hf hfn => by
      obtain rfl : f = 11 := Option.some.inj ((show Tryd.prog.funcNamed Tryd.f11.name = some 11 by kernel_rfl).symm.trans hf) |>.symm
      obtain rfl : fn = Tryd.f11 := (Option.some.inj (Tryd.func11.symm.trans hfn)).symm
      exact ⟨by kernel_rfl, fun j t ht => by
        rw [Tryd.params11] at ht
        have hm : t ∈ [9, 64] := by simpa using Array.mem_of_getElem? ht
        have hall : ([9, 64].all fun u => !Tryd.prog.wantsStandIn u) = true := by kernel_rfl
        exact (show Tryd.prog.wantsStandIn t = false by simpa using List.all_eq_true.1 hall t hm)⟩)
    (by kernel_rfl)
#print axioms streams_card
end Go.Proofs.YtkbfgmneibabgaaDoor
