/- The law IntervalGroup: the row and the tied card, proved. -/
import Derived.Test.YtmmpjnjdddaldaaDoorIntW
import Derived.Test.YtmmpjnjdddaldaaDoorFrame
set_option linter.unusedVariables false
set_option maxRecDepth 100000
namespace Go.Proofs.YtmmpjnjdddaldaaDoor
open Go Go.ChangeShapes Go.WideShapes Go.ChangeAt Go.RowKit Go.Joins
open Go.ChangeMaps (open_string shut_string)

theorem cells46 : Tryd.prog.cellsOf 46 = 6 := by kernel_rfl
theorem cells45 : Tryd.prog.cellsOf 45 = 2 := by kernel_rfl
theorem cells44 : Tryd.prog.cellsOf 44 = 1 := by kernel_rfl
abbrev wf8 (n : Int) : Prop := (Lit.int .i8 n).wf = true
theorem wf8_range {n : Int} (h : (Lit.int .i8 n).wf = true) : -128 ≤ n ∧ n ≤ 127 := by
  simpa [Lit.wf, IntKind.min, IntKind.max, IntKind.signed, IntKind.bits] using h
abbrev dG {H : Type} (g0 g1 g2 g3 g4 g5 : Int) : DataW H := .agg [.agg [.lit (.int .i8 g0), .lit (.int .i8 g1)], .agg [.lit (.int .i8 g2), .lit (.int .i8 g3)], .agg [.lit (.int .i8 g4), .lit (.int .i8 g5)]]
abbrev vG (g0 g1 g2 g3 g4 g5 : Int) : Value := .agg #[.int .i8 g0, .int .i8 g1, .int .i8 g2, .int .i8 g3, .int .i8 g4, .int .i8 g5]
theorem trod8 {H : Type} {enc : TypeId × Value → H} {W' : World} {b : Nat} {sp : Nat → Bool} {hd : Bool} {n : Int} (w : wf8 n) (m : Nat) : DataW.trod enc Tryd.prog W' b sp hd (m + 1) 44 [.int .i8 n] = some (.lit (.int .i8 n), []) := by
  unfold DataW.trod
  rw [Tryd.underlying44]
  simp [w]
theorem trodPair {H : Type} {enc : TypeId × Value → H} {W' : World} {b : Nat} {sp : Nat → Bool} {hd : Bool} {x y : Int} (wx : wf8 x) (wy : wf8 y) (m : Nat) : DataW.trod enc Tryd.prog W' b sp hd (m + 2) 45 [.int .i8 x, .int .i8 y] = some (.agg [.lit (.int .i8 x), .lit (.int .i8 y)], []) := by
  unfold DataW.trod
  rw [Tryd.underlying45]
  simp only [cells45, cells44]
  have hr : List.range 2 = [0, 1] := rfl
  simp [hr, trod8 wx, trod8 wy]
theorem readsG {H : Type} {enc : TypeId × Value → H} (W' : World) (b : Nat) (sp : Nat → Bool) (hd : Bool) {g0 g1 g2 g3 g4 g5 : Int} (w0 : wf8 g0) (w1 : wf8 g1) (w2 : wf8 g2) (w3 : wf8 g3) (w4 : wf8 g4) (w5 : wf8 g5) :
    DataW.Trod enc Tryd.prog W' b sp hd 46 (vG g0 g1 g2 g3 g4 g5) (dG g0 g1 g2 g3 g4 g5) [] := by
  refine ⟨4, ?_⟩
  unfold DataW.trod
  rw [Tryd.underlying46]
  have hr : List.range 3 = [0, 1, 2] := rfl
  simp [Value.cells, cells46, cells45, hr, trodPair w0 w1, trodPair w2 w3, trodPair w4 w5]
theorem list3 {α : Type} {cs : List α} (h : cs.length = 3) : ∃ c0 c1 c2, cs = [c0, c1, c2] := by
  match cs, h with
  | [c0, c1, c2], _ => exact ⟨c0, c1, c2, rfl⟩
theorem list2 {α : Type} {cs : List α} (h : cs.length = 2) : ∃ c0 c1, cs = [c0, c1] := by
  match cs, h with
  | [c0, c1], _ => exact ⟨c0, c1, rfl⟩
theorem array6 {α : Type} {cs : Array α} (h : cs.size = 6) : ∃ c0 c1 c2 c3 c4 c5, cs = #[c0, c1, c2, c3, c4, c5] := by
  obtain ⟨l⟩ := cs
  match l, h with
  | [c0, c1, c2, c3, c4, c5], _ => exact ⟨c0, c1, c2, c3, c4, c5, rfl⟩
theorem openPair {H : Type} {enc : TypeId × Value → H} {W : World} {base : Nat} {spare : Nat → Bool} {held : Bool} {fuel : Nat} {c0 c1 : Value} {x : DataW H × List MemPlace}
    (h : DataW.trod enc Tryd.prog W base spare held fuel 45 [c0, c1] = some x) : ∃ a b : Int, c0 = .int .i8 a ∧ c1 = .int .i8 b ∧ x = (.agg [.lit (.int .i8 a), .lit (.int .i8 b)], []) ∧ wf8 a ∧ wf8 b := by
  obtain ⟨xs, m, rfl, rfl, _, hl, hi⟩ := DataW.trod_array Tryd.underlying45 h
  obtain ⟨x0, x1, rfl⟩ := list2 hl
  have k0 := hi 0 (by omega)
  have k1 := hi 1 (by omega)
  simp [cells44] at k0 k1
  obtain ⟨a, e0, rfl, w0⟩ := DataW.trod_int Tryd.underlying44 k0
  obtain ⟨b, e1, rfl, w1⟩ := DataW.trod_int Tryd.underlying44 k1
  simp at e0 e1
  exact ⟨a, b, e0, e1, rfl, w0, w1⟩
theorem openG {H : Type} {enc : TypeId × Value → H} {W : World} {base : Nat} {spare : Nat → Bool} {held : Bool} {b0 : Nat} {v : Value} {d : DataW H} {p : List MemPlace}
    (hv : Value.okWide Tryd.prog W .any b0 46 v) (h : DataW.Trod enc Tryd.prog W base spare held 46 v d p) :
    ∃ g0 g1 g2 g3 g4 g5 : Int, v = vG g0 g1 g2 g3 g4 g5 ∧ d = dG g0 g1 g2 g3 g4 g5 ∧ p = [] ∧ wf8 g0 ∧ wf8 g1 ∧ wf8 g2 ∧ wf8 g3 ∧ wf8 g4 ∧ wf8 g5 := by
  obtain ⟨cs, rfl, hsz⟩ : ∃ cs, v = .agg cs ∧ cs.size = Tryd.prog.cellsOf 46 := by
    simp only [Value.okWide, Tryd.underlying46] at hv
    obtain ⟨cs, h1, h2, _⟩ := hv
    exact ⟨cs, h1, h2⟩
  obtain ⟨c0, c1, c2, c3, c4, c5, rfl⟩ := array6 (hsz.trans cells46)
  obtain ⟨fuel, hf⟩ := h
  obtain ⟨xs, m, rfl, hx, _, hl, hi⟩ := DataW.trod_array Tryd.underlying46 hf
  obtain ⟨x0, x1, x2, rfl⟩ := list3 hl
  have k0 := hi 0 (by omega)
  have k1 := hi 1 (by omega)
  have k2 := hi 2 (by omega)
  simp [Value.cells, cells45] at k0 k1 k2
  obtain ⟨g0, g1, rfl, rfl, rfl, w0, w1⟩ := openPair k0
  obtain ⟨g2, g3, rfl, rfl, rfl, w2, w3⟩ := openPair k1
  obtain ⟨g4, g5, rfl, rfl, rfl, w4, w5⟩ := openPair k2
  simp at hx
  exact ⟨g0, g1, g2, g3, g4, g5, rfl, hx.1, hx.2, w0, w1, w2, w3, w4, w5⟩
theorem rel_G (C : Pm.Cf) (g0 g1 g2 g3 g4 g5 : Int) : Pm.RelS C (.agg [.int .i8 g0, .int .i8 g1, .int .i8 g2, .int .i8 g3, .int .i8 g4, .int .i8 g5]) (vG g0 g1 g2 g3 g4 g5) := by
  have h : Pm.RelL C [Pm.SV.int .i8 g0, .int .i8 g1, .int .i8 g2, .int .i8 g3, .int .i8 g4, .int .i8 g5] [.int .i8 g0, .int .i8 g1, .int .i8 g2, .int .i8 g3, .int .i8 g4, .int .i8 g5] :=
    Pm.RelL.cons (.pv _ _ (.int _ _)) (Pm.RelL.cons (.pv _ _ (.int _ _)) (Pm.RelL.cons (.pv _ _ (.int _ _)) (Pm.RelL.cons (.pv _ _ (.int _ _)) (Pm.RelL.cons (.pv _ _ (.int _ _)) (Pm.RelL.cons (.pv _ _ (.int _ _)) (Pm.RelL.nil _))))))
  refine .agg _ _ h.1 (fun j x hj => ?_) h.2
  have := List.mem_of_getElem? hj
  simp at this
  rcases this with rfl | rfl | rfl | rfl | rfl | rfl <;> rfl
theorem group_law (g0 g1 g2 g3 g4 g5 : Int) (q0 : (Lit.int .i8 g0).wf = true) (q1 : (Lit.int .i8 g1).wf = true) (q2 : (Lit.int .i8 g2).wf = true) (q3 : (Lit.int .i8 g3).wf = true) (q4 : (Lit.int .i8 g4).wf = true) (q5 : (Lit.int .i8 g5).wf = true) {W : World} : Calls Tryd.prog 6 #[vG g0 g1 g2 g3 g4 g5] W fun e w' => e = .returned (.bool true) ∧ Below W.heap.size W w' := by
  have h := Pm.law_X env (tok6 W) mixed Tryd.func6 (by kernel_rfl) (by kernel_rfl) (x6 g0 g1 g2 g3 g4 g5 (wf8_range q0) (wf8_range q1) (wf8_range q2) (wf8_range q3) (wf8_range q4) (wf8_range q5)) (Pm.RelL.cons (rel_G _ g0 g1 g2 g3 g4 g5) (Pm.RelL.nil _))
  simpa using h

theorem group_lifted (os : Os) (started : os.Started) (H : Type) (enc : TypeId × Value → H) :
    ReturnsInHanded {} Tryd.checked os 6 .any (fun w args => (Rows.intervalGroupSpec.pre enc Tryd.prog Tryd.f6 [] false w args ∧ laidMet Tryd.prog laidL w) ∧ sizedMet enc Tryd.prog Tryd.f6 (OpenSpec.ofChange Rows.intervalGroupSpec) false w args)
      (Rows.intervalGroupSpec.post enc Tryd.prog Tryd.f6 false true false false) := by
  refine returnsInHanded_of_change_and (C := Tryd.checked) (X := fun w _ => laidMet Tryd.prog laidL w) (fun _ _ _ hh h => h.of_heap hh) own started (by kernel_rfl) Tryd.func6
    (ChangeSpec.witness_shaped (enc := enc) (C := Tryd.checked) (os := os) (X := fun w _ => laidMet Tryd.prog laidL w) false (World.laidAll Tryd.prog os laidL) #[.agg #[.int .i8 0, .int .i8 0, .int .i8 0, .int .i8 0, .int .i8 0, .int .i8 0]] 8 (World.laidAll_os _ _ _)
      (World.shaped_of_ZipB (by kernel_rfl) (by kernel_rfl)) (by kernel_rfl) (by kernel_rfl) (by kernel_rfl) (laidL_met os _)) ?_
  intro W base args ds gs before hval0 hW _ _ hL _
  have hval : ∀ (j : Nat) t v, Tryd.f6.params[j]? = some t → args[j]? = some v → Value.okWide Tryd.prog W .any base t v := hval0
  have hW' := hW
  obtain ⟨p, q, hA0, hV, rfl, _, _⟩ := hW
  have hA : DataW.TrodAll enc Tryd.prog W 0 (fun _ => true) true Tryd.f6.params.toList args.toList ds p := hA0
  rw [Tryd.params6] at hA hval
  obtain ⟨v0, d0, rfl, rfl, k0⟩ := trodAll_one hA
  obtain ⟨rfl, rfl⟩ := trodVars_none hV
  obtain ⟨g0, g1, g2, g3, g4, g5, rfl, rfl, rfl, u0, u1, u2, u3, u4, u5⟩ := openG (hval 0 46 v0 rfl rfl) k0
  simp only [List.append_nil] at hW'
  refine (group_law _ _ _ _ _ _ u0 u1 u2 u3 u4 u5).mono fun e W' ⟨he, hb⟩ => ?_
  subst he
  exact ⟨_, rfl, _, _, _, [], [], [], hW', trodAll_mk1 (shut_bool Tryd.underlying4 _), trodAll_mk1 (readsG _ _ _ _ u0 u1 u2 u3 u4 u5), rfl, hb.frame _, fun h => by cases h⟩

theorem group_holds : Rows.IntervalGroupSaid :=
  OpenClaim.holds_of_wide 6 Tryd.f6 rfl rfl rfl rfl rfl rfl rfl ⟨rfl, rfl, rfl, rfl, rfl⟩ rfl rfl rfl rfl rfl (by kernel_rfl) Tryd.func6 (by kernel_rfl)
    (of_decide_eq_true (by kernel_rfl)) (by unfold Func.isWrapper; first | (rw [if_pos (by decide +kernel)]; kernel_rfl) | (rw [if_neg (by decide +kernel)]; exact ⟨rfl, rfl⟩))
    (fun os started H enc _ => group_lifted os started H enc)

theorem group_card : Rows.IntervalGroupCardSaid :=
  Claim7.holds_tied_plain_at .later [] kindsL true (true, "37dbcdbe293f4c9e6d83a2fb54125cf61ce7055996eae6a7a73bff66c2c8918c") false group_holds (fun _ h => by cases h) (by kernel_rfl) (fun _ h => by cases h) intervalGroup_row_tie rfl ⟨rfl, rfl⟩ (by kernel_rfl) rfl
    (fun f fn hf hfn => by
      obtain rfl : f = 6 := Option.some.inj ((show Tryd.prog.funcNamed Tryd.f6.name = some 6 by kernel_rfl).symm.trans hf) |>.symm
      obtain rfl : fn = Tryd.f6 := (Option.some.inj (Tryd.func6.symm.trans hfn)).symm
      exact ⟨by kernel_rfl, fun j t ht => by
        rw [Tryd.params6] at ht
        have hm : t ∈ [46] := by simpa using Array.mem_of_getElem? ht
        have hall : ([46].all fun u => !Tryd.prog.wantsStandIn u) = true := by kernel_rfl
        exact (show Tryd.prog.wantsStandIn t = false by simpa using List.all_eq_true.1 hall t hm)⟩)
    (by kernel_rfl)
#print axioms group_card
end Go.Proofs.YtmmpjnjdddaldaaDoor
