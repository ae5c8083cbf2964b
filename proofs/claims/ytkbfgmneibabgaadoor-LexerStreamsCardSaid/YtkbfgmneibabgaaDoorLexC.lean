/- Bytes written into a builder, by the machine. -/
import Derived.Test.YtkbfgmneibabgaaDoorLexB
set_option linter.unusedSimpArgs false
set_option linter.unusedVariables false
set_option maxRecDepth 1000000
set_option maxHeartbeats 1000000
namespace Go.Proofs.YtkbfgmneibabgaaDoor
open Go Go.Pm Go.RowKit
open LexP hiding place Sep Run
/-- What a call leaves as it was: every box but one, every row but those of one type. -/
structure FrE (k : Nat) (e : TypeId) (H H' : List Blk) : Prop where
  box : ∀ (j : Nat) (t : Option TypeId) (cs : List SV), j ≠ k → H[j]? = some (.box t cs) → H'[j]? = some (.box t cs)
  tok : ∀ (j v : Nat) (e' : TypeId), e' ≠ e → H[j]? = some (.tok v e') → H'[j]? = some (.tok v e')
  len : H.length ≤ H'.length
theorem FrE.refl (k : Nat) (e : TypeId) (H : List Blk) : FrE k e H H := ⟨fun _ _ _ _ h => h, fun _ _ _ _ h => h, Nat.le_refl _⟩
theorem FrE.trans {k : Nat} {e : TypeId} {A B C : List Blk} (h : FrE k e A B) (h' : FrE k e B C) : FrE k e A C :=
  ⟨fun j t cs hj hh => h'.box j t cs hj (h.box j t cs hj hh), fun j v e' he hh => h'.tok j v e' he (h.tok j v e' he hh), Nat.le_trans h.len h'.len⟩
theorem FrE.setBox {k : Nat} {e : TypeId} {H : List Blk} {t : Option TypeId} {cs cs' : List SV} (h : H[k]? = some (.box t cs)) : FrE k e H (H.set k (.box t cs')) := by
  refine ⟨fun j t' cs1 hj hh => ?_, fun j v e' he hh => ?_, by simp⟩
  · rw [List.getElem?_set_ne (Ne.symm hj)]; exact hh
  · have : k ≠ j := by intro e; subst e; rw [h] at hh; cases hh
    rw [List.getElem?_set_ne this]; exact hh
theorem FrE.acc {k : Nat} {e e' : TypeId} {s : Nat} {H H' : List Blk} {es : List (List PV)} {out : SV} (h : FrE k e H H') (he : e' ≠ e) (ha : Acc e' s H es out) : Acc e' s H' es out := by
  rcases ha with ⟨rfl, rfl⟩ | ⟨hne, kt, v, rfl, hk⟩
  · exact .inl ⟨rfl, rfl⟩
  · exact .inr ⟨hne, kt, v, rfl, h.tok _ _ _ he hk⟩
/-- An append, and what it leaves as it was. -/
theorem app_fr {t e : TypeId} {y : Ty} {H : List Blk} {es : List (List PV)} {x : List PV} {out : SV} (k : Nat) (hk : kindOf Y t = some (.slice e)) (hy : Y e = some y) (h0 : 0 < y.size) (hb : y.bytes ≤ 32768) (hb0 : y.bytes ≠ 0)
    (hl : (es.length + 1) * y.bytes ≤ maxRow) (h : Acc e y.size H es out) :
    ∃ out' H', aAppend Y H t t out (.tight y.size [x]) = some (out', H') ∧ Acc e y.size H' (es ++ [x]) out' ∧ (∀ (j : Nat) (t : Option TypeId) (cs : List SV), H[j]? = some (.box t cs) → H'[j]? = some (.box t cs)) ∧ FrE k e H H' := by
  have hl2 : es.length + 1 ≤ maxRow := Nat.le_trans (Nat.le_mul_of_pos_right _ (Nat.pos_of_ne_zero hb0)) hl
  rcases h with ⟨rfl, rfl⟩ | ⟨hne, kt, v, rfl, hkv⟩
  · have key : ∀ (j : Nat) (b : Blk), H[j]? = some b → (H ++ [Blk.tok 0 e])[j]? = some b := fun j b hc => by
      rw [List.getElem?_append_left (List.getElem?_eq_some_iff.1 hc).1]; exact hc
    refine ⟨.own H.length 0 y.size [x], H ++ [.tok 0 e], ?_, .inr ⟨by simp, _, _, rfl, by simp⟩, fun j t cs h => key _ _ h, ⟨fun j t cs _ h => key _ _ h, fun j v e' _ h => key _ _ h, by simp⟩⟩
    simp [-maxRow] at hl hl2
    simp [-kindOf, -maxRow, aAppend, hk, hy, sliceElems, strideOk, h0, hb, hb0, hl, hl2]
  · have nb : ∀ (j : Nat) (t : Option TypeId) (cs : List SV), H[j]? = some (.box t cs) → (H.set kt (.tok (v + 1) e))[j]? = some (.box t cs) := fun j t cs hc => by
      have : kt ≠ j := by intro e; subst e; rw [hkv] at hc; cases hc
      rw [List.getElem?_set_ne this]; exact hc
    refine ⟨.own kt (v + 1) y.size (es ++ [x]), H.set kt (.tok (v + 1) e), ?_, .inr ⟨by simp, _, _, rfl, ?_⟩, nb, ⟨fun j t cs _ h => nb j t cs h, fun j v' e' he hc => ?_, by simp⟩⟩
    · simp [-kindOf, -maxRow, aAppend, hk, hy, sliceElems, strideOk, h0, hb, hb0, hl, hl2, hkv]
    · rw [List.getElem?_set_self (List.getElem?_eq_some_iff.1 hkv).1]
    · have : kt ≠ j := by intro e1; subst e1; rw [hkv] at hc; cases hc; exact he rfl
      rw [List.getElem?_set_ne this]; exact hc
theorem acc_cells {e : TypeId} {s : Nat} {H : List Blk} {es : List (List PV)} {out : SV} (h : Acc e s H es out) : cellsOf out = some [out] := by
  rcases h with ⟨_, rfl⟩ | ⟨_, k, v, rfl, _⟩ <;> rfl
theorem cells_pv (p : PV) : cellsOf (.pv p) = some [.pv p] := rfl
theorem cells_ptr (k o : Nat) : cellsOf (.ptr k o) = some [.ptr k o] := rfl
theorem cells_agg (cs : List SV) : cellsOf (.agg cs) = some cs := rfl
/-- A builder that holds some bytes. -/
def bRow (bs : Bs) : List (List PV) := bs.map fun c => [PV.int .u8 c.toNat]
structure Bld (k : Nat) (bs : Bs) (H : List Blk) : Prop where
  st : ∃ (a buf : SV), H[k]? = some (.box (some 86) [a, buf]) ∧ (a = .pv .nilPtr ∨ a = .ptr k 0) ∧ Acc 5 1 H (bRow bs) buf
theorem Bld.new (H : List Blk) : Bld H.length [] (H ++ [.box (some 86) [.pv .nilPtr, .pv .nilSlice]]) := ⟨_, _, by simp, .inl rfl, .inl ⟨rfl, rfl⟩⟩
theorem Bld.copy {k : Nat} {bs : Bs} {H : List Blk} (h : Bld k bs H) : ∃ (buf : SV) (H1 : List Blk), copyF 86 [.ptr k 0] H = some (.undef, H1) ∧ H1[k]? = some (.box (some 86) [.ptr k 0, buf]) ∧ Acc 5 1 H1 (bRow bs) buf ∧ FrE k 5 H H1 := by
  obtain ⟨a, buf, hk, ha, hacc⟩ := h.st
  have hlt := (List.getElem?_eq_some_iff.1 hk).1
  rcases ha with rfl | rfl
  · refine ⟨buf, H.set k (.box (some 86) [.ptr k 0, buf]), by simp [copyF, hk], by simp [hlt], hacc.box hk, FrE.setBox hk⟩
  · exact ⟨buf, H, by simp [copyF, hk], hk, hacc, FrE.refl _ _ _⟩
noncomputable def T49 : FuncId → Option Pm.Spec := tab [(80, .heap (copyF 86))]
theorem T49_eq (g : Nat) : T49 g = tab [(80, .heap (copyF 86))] g := rfl
theorem tok49 (W0 : World) : TOk Tryd.prog W0 T49 := tok_cons (meets80 W0) tok_nil
theorem meets49 (W0 : World) : Enterable Tryd.prog 49 ∧ Meets Tryd.prog W0 49 (specFn (.heap (arunAll Y T49 Tryd.f49))) := meets_heap env (tok49 W0) mixed Tryd.func49 (by kernel_rfl) (by kernel_rfl)
theorem all49 {k : Nat} {bs : Bs} {H : List Blk} (h : Bld k bs H) (c : Int) (hc : 0 ≤ c ∧ c ≤ 255) (hl : bs.length ≤ 10000000) :
    ∃ H', arunAll Y T49 Tryd.f49 [.ptr k 0, u8 c] H = some (.pv .nilIface, H') ∧ Bld k (bs ++ [UInt8.ofNat c.toNat]) H' ∧ FrE k 5 H H' := by
  obtain ⟨buf, H1, e1, hk1, ha1, f1⟩ := h.copy
  have hrow : bRow (bs ++ [UInt8.ofNat c.toNat]) = bRow bs ++ [[PV.int .u8 c]] := by
    unfold bRow
    rw [List.map_append]
    have : ((UInt8.ofNat c.toNat).toNat : Int) = c := by
      have : (UInt8.ofNat c.toNat).toNat = c.toNat := by simp; omega
      rw [this]; omega
    simp only [List.map_cons, List.map_nil, this]
  obtain ⟨out', H2, e2, ha2, nb, f2⟩ := app_fr (t := 36) (x := [PV.int .u8 c]) k (by rfl) Y_5 (by decide) (by decide) (by decide) (by simp [bRow, maxRow]; omega) ha1
  have hk2 := nb _ _ _ hk1
  have hlt := (List.getElem?_eq_some_iff.1 hk2).1
  have hx : XFn Y T49 Tryd.f49 [.ptr k 0, u8 c] H (fun x => x = (.pv .nilIface, H2.set k (.box (some 86) [.ptr k 0, out']))) := by
    unfold XFn Tryd.f49
    rw [enter_2 _ (by decide)]
    have ha2' : Pm.Acc 5 1 H2 (bRow bs ++ [[PV.int .u8 c]]) out' := ha2
    have e2 : aAppend Y H1 36 36 buf (.tight 1 [[.int .u8 c]]) = some (out', H2) := e2
    simp [-aAppend, -cellsOf, T49_eq, e1, hk1, e2, hk2, ha1.live, ha2'.live, acc_cells ha2', cells_pv]
  obtain ⟨r, H', h1, h2⟩ := all_of_XFn (by rfl) hx
  cases h2
  refine ⟨_, h1, ⟨⟨.ptr k 0, out', by simp [hlt], .inr rfl, ?_⟩⟩, (f1.trans f2).trans (FrE.setBox hk2)⟩
  rw [hrow]; exact ha2.box hk2
end Go.Proofs.YtkbfgmneibabgaaDoor
