/- Symbols, and the law of words, by the machine. -/
import Derived.Test.YtkbfgmneibabgaaDoorWrdA
set_option linter.unusedSimpArgs false
set_option linter.unusedVariables false
set_option maxRecDepth 1000000
set_option maxHeartbeats 1000000
namespace Go.Proofs.YtkbfgmneibabgaaDoor
open Go Go.Pm Go.RowKit
open LexP hiding place Sep Run
abbrev symS : Bs := [33, 35, 36, 38, 39, 40, 41, 42, 43, 44, 45, 46, 47, 58, 59, 60, 61, 62, 63, 64, 91, 92, 93, 94, 95, 123, 124, 125, 126]
def symR : List (List PV) := symS.map fun c => [PV.str [c]]
theorem symR_len : symR.length = 29 := by simp [symR]
theorem sym_chars : (Lib.charsB ⟨symS.toArray⟩).map (·.data.toList) = symS.map fun c => [c] := by decide +kernel
theorem sym_len : (Lib.charsB ⟨symS.toArray⟩).length = 29 := by decide +kernel
theorem sym_ascii : ∀ (j : Nat) (b : UInt8), (⟨symS.toArray⟩ : ByteArray).data.toList[j]? = some b → b.toNat < 128 := fun j b h => by
  have : b ∈ symS := List.mem_of_getElem? h
  have hall : symS.all (fun b => decide (b.toNat < 128)) = true := by decide
  exact of_decide_eq_true (List.all_eq_true.1 hall b this)
def F64 : List SV → Option SV
  | [.pv (.str s), .pv (.str p)] => if s = symS ∧ p = [] then some (.pv (.slice 1 symR)) else none
  | _ => none
theorem meets64 (W0 : World) : OkAt W0 64 F64 := by
  refine ⟨enterable_of Tryd.func64 (by kernel_rfl), fun C args vs r H' hF I J hr => ?_⟩
  simp only [specFn] at hF
  split at hF
  · rename_i as1 has
    split at hF
    · rename_i r1 hr1
      unfold F64 at hr1
      split at hr1
      · rename_i s p
        split at hr1
        · rename_i hl
          obtain ⟨rfl, rfl⟩ := hl
          cases hr1
          have e1 : placeR false C.H (.pv (.slice 1 symR)) = some (.pv (.slice 1 symR), C.H) := rfl
          rw [e1] at hF
          cases hF
          have hr' := purL_rel has hr
          obtain ⟨u, us, rfl, h1, h2⟩ := hr'.uncons
          obtain ⟨u2, us2, rfl, h3, h4⟩ := h2.uncons
          have : us2 = [] := by simpa using h4.1
          subst this
          cases h1 with | pv _ _ h1 =>
          cases h1
          cases h3 with | pv _ _ h3 =>
          cases h3
          refine (Any.strings_Split_chars Tryd.lays146 (by kernel_rfl) ⟨symS.toArray⟩ ⟨([] : Bs).toArray⟩ C.w rfl (by decide) sym_ascii).mono ?_
          rintro e w' ⟨rfl, rfl⟩
          have hch := sym_chars
          have hln := sym_len
          generalize Lib.charsB ⟨symS.toArray⟩ = B at *
          have hsym : symR = B.map fun b => [PV.str b.data.toList] := by
            unfold symR
            have : symS.map (fun c => [PV.str [c]]) = (symS.map fun c => [c]).map fun t => [PV.str t] := by simp
            rw [this, ← hch, List.map_map]
            rfl
          have hRow : Row C.w C.S 1 symR (B.map Value.string) := by
            rw [hsym]
            refine ⟨by simp, fun i e h => ?_, fun q v h => ?_, fun i e j pp h h' => ?_⟩
            · simp only [List.getElem?_map, Option.map_eq_some_iff] at h
              obtain ⟨_, _, rfl⟩ := h; rfl
            · rw [List.getElem?_map, Option.map_eq_some_iff] at h
              obtain ⟨_, _, rfl⟩ := h; rfl
            · simp only [List.getElem?_map, Option.map_eq_some_iff] at h
              obtain ⟨b, hb, rfl⟩ := h
              cases j with
              | zero =>
                simp at h'
                subst h'
                exact ⟨.string b, by simp [hb], .str _⟩
              | succ j => simp at h'
          have hB1 : Below C.w.heap.size C.w (C.w.iter ⟨symS.toArray⟩ (⟨symS.toArray⟩ : ByteArray).size) := Below.alloc (Below.refl _ _) (Nat.le_refl _) _
          generalize C.w.iter ⟨symS.toArray⟩ (⟨symS.toArray⟩ : ByteArray).size = W1 at *
          have hB : Below C.w.heap.size C.w (W1.alloc (.cells (B.map Value.string).toArray 9)) := Below.alloc hB1 hB1.size _
          obtain ⟨C', hw, hg⟩ := row_below (g := W1.heap.size) (cap := 29) I hB (arr := (B.map Value.string).toArray) (T := 9) (Pushed.alloc W1 _).new hB1.size hRow (fun q v h => by simpa using h) (by rw [symR_len]; exact Nat.le_refl _)
          refine ⟨_, C', rfl, hw, hg.H, hg.inv, hg.evo, ?_⟩
          have := hg.rel
          rw [symR_len] at this
          exact this
        · cases hr1
      · cases hr1
    · cases hF
  · cases hF
noncomputable def T37 : FuncId → Option Pm.Spec := tab [(64, .pure false F64)]
theorem T37_eq (g : Nat) : T37 g = tab [(64, .pure false F64)] g := rfl
theorem tok37 (W0 : World) : TOk Tryd.prog W0 T37 := tok_cons (meets64 W0) tok_nil
def F37 : List SV → Option SV
  | [] => some (.pv (.slice 1 symR))
  | _ => none
theorem meets37 (W0 : World) : OkAt W0 37 F37 := meets_fn env (tok37 W0) mixed Tryd.func37 (by kernel_rfl) (by kernel_rfl) fun args r h => by
  unfold F37 at h
  split at h
  · cases h
    have q : F64 [.str symS, .str []] = some (.pv (.slice 1 symR)) := by simp only [F64]; rw [if_pos ⟨trivial, trivial⟩]
    unfold XFn Tryd.f37
    rw [enter_mk0]
    simp [T37_eq, q, Is_mk, outR, outP]
  · cases h
noncomputable def T12 : FuncId → Option Pm.Spec := tab [(15, .pure true F15), (16, .pure false F16), (37, .pure false F37), (38, .pure false F38)]
theorem T12_eq (g : Nat) : T12 g = tab [(15, .pure true F15), (16, .pure false F16), (37, .pure false F37), (38, .pure false F38)] g := rfl
theorem tok12 (W0 : World) : TOk Tryd.prog W0 T12 := tok_cons (meets15 W0) (tok_cons (meets16 W0) (tok_cons (meets37 W0) (tok_cons (meets38 W0) tok_nil)))
theorem sym_at {i : Nat} (h : i < 29) : ∃ c, symR[i]? = some [PV.str [c]] ∧ (symS.take (i + 1)).drop i = [c] := by
  have hi : i < symS.length := h
  refine ⟨symS[i], by simp only [symR, List.getElem?_map, List.getElem?_eq_getElem hi]; rfl, ?_⟩
  rw [List.drop_take, show i + 1 - i = 1 by omega, List.drop_eq_getElem_cons hi]
  rfl
theorem loop12 {F : List Fr} {P : SV × List Blk → Prop} {s : Bs} {tk er : SV} {H : List Blk} (hx : X Y T12 [.tmp 2] F (.exit 0) ⟨mk 67 .J [(0, .str s), (3, tk), (5, er)], H⟩ P) : ∀ (m i : Nat), i + m = 29 →
    X Y T12 [.tmp 2] F (.loop (loopN Tryd.f12 0)) ⟨mk 67 .J [(0, .str s), (3, tk), (5, er), (6, .pv (.slice 1 symR)), (7, .i i)], H⟩ P
  | 0, i, hm => by
    have hi : i = 29 := by omega
    subst hi
    apply X_loop_of
    · simp only [loopN, Tryd.f12, loopsOf, List.nil_append, List.append_nil, List.cons_append, List.getD_cons_succ, List.getD_cons_zero]; rfl
    simp [symR_len]
    refine X_keep hx ?_
    simp
  | m + 1, i, hm => by
    have ih := loop12 hx m (i + 1) (by omega)
    obtain ⟨c, hr, ht⟩ := sym_at (i := i) (by omega)
    have w1 : IntKind.i64.wrap ((i : Int) + 1) = ((i + 1 : Nat) : Int) := by rw [wrap64 (by omega) (by omega)]; omega
    have h1 : (i : Int) < 29 := by omega
    have h1n : i < 29 := by omega
    have e1 : ((i + 1 : Nat) : Int).toNat = i + 1 := by omega
    have e2 : (0 : Int) ≤ ((i + 1 : Nat) : Int) := by omega
    have e3 : i ≤ i + 1 := by omega
    have e4 : i + 1 ≤ 29 := by omega
    have e5 : i + 1 ≤ symS.length := e4
    generalize ((i + 1 : Nat) : Int) = E at *
    generalize hN : i + 1 = N at *
    apply X_loop_of
    · simp only [loopN, Tryd.f12, loopsOf, List.nil_append, List.append_nil, List.cons_append, List.getD_cons_succ, List.getD_cons_zero]; rfl
    simp [-getElem?_pos, List.getElem?_cons_zero, List.getElem?_cons_succ, symR_len, h1, h1n, hr, ht, w1, e1, e2, e3, e4]
    refine X_keep ih ?_
    simp
theorem x12 (s0 : Bs) : XFn Y T12 Tryd.f12 [.str s0] [] (Is (.bool true)) := by
  have aS := min_at s0 100
  have ts := take_min s0 100
  have hs : (s0.take 100).length ≤ 100 := by rw [List.length_take]; omega
  have es : ((min s0.length 100 : Nat) : Int).toNat = min s0.length 100 := by omega
  have es0 : (0 : Int) ≤ ((min s0.length 100 : Nat) : Int) := by omega
  have es1 : min s0.length 100 ≤ s0.length := by omega
  have aS : aMinMax false [.pv (.int .i64 (s0.length : Int)), .pv (.int .i64 100)] = some (.i ((min s0.length 100 : Nat) : Int)) := aS
  generalize ((min s0.length 100 : Nat) : Int) = Es at *
  generalize min s0.length 100 = ns at *
  generalize s0.take 100 = s at *
  have h15 := F15_at (s := s) (by omega)
  unfold refR at h15
  have h37 : F37 [] = some (.pv (.slice 1 symR)) := rfl
  have h38 : F38 [.str s] = some (.bool (isW s)) := by simp only [F38]; rw [if_pos (by omega)]
  unfold XFn Tryd.f12
  rw [enter_1 _ (by decide)]
  cases hsc : scan s with
  | ok m =>
    rw [hsc] at h15
    have hw := word_scan hsc
    have L := fun F P hx => loop12 (F := F) (P := P) (s := s) (tk := .own 0 0 6 (rfRow m)) (er := .i 0) (H := [.tok 0 38]) hx 29 0 rfl
    simp [-aMinMax, aS, ts, es, es0, es1, T12_eq, h15, h37, F16_at, symR_len]
    refine X_keep (L _ _ ?_) (by simp)
    by_cases hl : m.length = 2
    · obtain ⟨t1, t2, rfl⟩ : ∃ t1 t2, m = [t1, t2] := by
        cases m with
        | nil => simp at hl
        | cons a m =>
          cases m with
          | nil => simp at hl
          | cons b m =>
            have : m = [] := List.length_eq_zero_iff.1 (by simpa using hl)
            subst this; exact ⟨a, b, rfl⟩
      have hw : isW s = true ↔ t1.kind = 1 ∧ t1.text = s := by
        rw [hw]
        constructor
        · rintro ⟨a, b, e, h⟩; cases e; exact h
        · exact fun h => ⟨t1, t2, rfl, h⟩
      have hr : rfRow [t1, t2] = [rfC t1, rfC t2] := rfl
      by_cases hk : t1.kind = 1
      · by_cases ht : t1.text = s
        · rw [hw.2 ⟨hk, ht⟩] at h38
          simp [T12_eq, h38, hr, rfC, hk, ht, Is_mk, outR, outP]
        · have : isW s = false := by cases h : isW s with | false => rfl | true => exact absurd (hw.1 h).2 ht
          rw [this] at h38
          simp [T12_eq, h38, hr, rfC, hk, ht, Is_mk, outR, outP]
      · have : isW s = false := by cases h : isW s with | false => rfl | true => exact absurd (hw.1 h).1 hk
        rw [this] at h38
        simp [T12_eq, h38, hr, rfC, hk, Is_mk, outR, outP]
    · have : isW s = false := by
        cases h : isW s with
        | false => rfl
        | true => obtain ⟨a, b, rfl, _⟩ := hw.1 h; exact absurd rfl hl
      rw [this] at h38
      have hl' : ¬ (m.length : Int) = 2 := by omega
      simp [T12_eq, h38, rfRow_len, hl, hl', Is_mk, outR, outP]
  | error p =>
    obtain ⟨o, er⟩ := p
    rw [hsc] at h15
    have her := scan_err_ne hsc
    rw [word_err hsc] at h38
    have L := fun F P hx => loop12 (F := F) (P := P) (s := s) (tk := .pv .nilSlice) (er := .i er) (H := []) hx 29 0 rfl
    simp [-aMinMax, aS, ts, es, es0, es1, T12_eq, h15, h37, F16_at, symR_len]
    refine X_keep (L _ _ ?_) (by simp)
    simp [T12_eq, h38, her, Is_mk, outR, outP]
end Go.Proofs.YtkbfgmneibabgaaDoor
