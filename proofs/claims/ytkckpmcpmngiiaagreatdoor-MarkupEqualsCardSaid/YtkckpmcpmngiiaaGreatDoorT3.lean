/- Texts built; names, escapes, comments. -/
import Derived.Test.YtkckpmcpmngiiaaGreatDoorT2
import Derived.Test.YtkckpmcpmngiiaaGreatDoorPmBld
import Derived.Shelf.RegionOpenPlain
import Derived.Lib.Walk
import Derived.Lib.Builder
import Derived.Lib.UnsafeStr
import Derived.WalkKit
import Derived.Laws.Externs
/- The reader between elements, where no comment stands, by the machine. -/
set_option linter.unusedSimpArgs false
set_option linter.unusedVariables false
set_option maxRecDepth 1000000
set_option maxHeartbeats 400000
namespace Go.Proofs.YtkckpmcpmngiiaaGreatDoor
open Go Go.Pm Go.RowKit
/-- The text that begins a comment. -/
def com : Bs := [60, 33, 45, 45]
noncomputable def T38 : FuncId → Option Pm.Spec := tab [(56, .heap A56), (57, .heap A57), (58, .pure false (fun _ => none)), (37, .heap A37), (59, .heap A59)]
theorem T38_eq (g : Nat) : T38 g = tab [(56, .heap A56), (57, .heap A57), (58, .pure false (fun _ => none)), (37, .heap A37), (59, .heap A59)] g := rfl
theorem blanks_ok {s : Bs} {g : Rd} (hg : g.e = 0 → g.at' ≤ s.length) : (g.blanks s).e = 0 → (g.blanks s).at' ≤ s.length := by
  unfold Rd.blanks
  split
  · rename_i h; intro _; exact skip_le (hg h)
  · exact hg
theorem x38 {H : List Blk} {k : Nat} {s : Bs} {g : Rd} (hk : H[k]? = some (rb s g)) (hs : s.length ≤ 100000000) (hg : g.e = 0 → g.at' ≤ s.length) (hc : (g.blanks s).sees s com = false) :
    XFn Y T38 Tryz.f38 [.ptr k 0] H (fun x => x = (.tuple [], H.set k (rb s (g.blanks s)))) := by
  unfold XFn Tryz.f38
  rw [enter_1 _ (by decide)]
  have hlt := (List.getElem?_eq_some_iff.1 hk).1
  have f1 := all56 hk hs hg
  have f2 := all57 (get_setk hlt (rb s (g.blanks s))) (blanks_ok hg) com
  rw [hc] at f2
  simp [-getElem?_pos, List.getElem?_cons_zero, List.getElem?_cons_succ, T38_eq, f1]
  apply X_loop_of (b' := loopN Tryz.f38 0)
  · rfl
  simp only [loopN, Tryz.f38, loopsOf, List.nil_append, List.append_nil, List.cons_append, List.getD_cons_succ, List.getD_cons_zero]
  have f2 : A57 [.ptr k 0, .str [60, 33, 45, 45]] (H.set k (rb s (g.blanks s))) = _ := f2
  simp [-getElem?_pos, List.getElem?_cons_zero, List.getElem?_cons_succ, T38_eq, f2]
noncomputable def A38 : List SV → List Blk → Option (SV × List Blk) := arunAll Y T38 Tryz.f38
theorem meets38 (W0 : World) : Enterable Tryz.prog 38 ∧ Meets Tryz.prog W0 38 (specFn (.heap A38)) := meets_heap env (tok_cons (meets56 W0) (tok_cons (meets57 W0) (tok_cons (OkAt.none (W0 := W0) (enterable_of Tryz.func58 (by kernel_rfl)) fun _ _ h => by cases h) (tok_cons (meets37 W0) (tok_cons (meets59 W0) tok_nil))))) mixed Tryz.func38 (by kernel_rfl) (by kernel_rfl)
theorem all38 {H : List Blk} {k : Nat} {s : Bs} {g : Rd} (hk : H[k]? = some (rb s g)) (hs : s.length ≤ 100000000) (hg : g.e = 0 → g.at' ≤ s.length) (hc : (g.blanks s).sees s com = false) : A38 [.ptr k 0] H = some (.tuple [], H.set k (rb s (g.blanks s))) := by
  obtain ⟨r, H', h1, h2⟩ := all_of_XFn (by rfl) (x38 hk hs hg hc)
  cases h2; exact h1
end Go.Proofs.YtkckpmcpmngiiaaGreatDoor
/- strings.Builder, at this program: its check and its string by the kit's walk, a byte written by the machine. -/
set_option linter.unusedSimpArgs false
set_option linter.unusedVariables false
set_option maxRecDepth 1000000
set_option maxHeartbeats 1000000
namespace Go.Proofs.YtkckpmcpmngiiaaGreatDoor
open Go Go.Pm Go.RowKit
theorem size61 : (Tryz.prog.info? 61).map (·.size) = some 2 := by kernel_rfl
theorem lies61 : liesAt Tryz.prog Tryz.prog.depth 61 (2 / Tryz.prog.cellsOf 61) 0 61 1 = true := by kernel_rfl
theorem copy_used (b : Nat) (w : World) (h0 : w.cell? ⟨b, 0, none⟩ = some (.pointer (some ⟨b, 0, none⟩))) :
    Calls Tryz.prog 72 #[.pointer (some ⟨b, 0, none⟩)] w fun e w' => e = .returned (.tuple #[]) ∧ w' = w := by
  obtain ⟨j, hj, _⟩ := Option.map_eq_some_iff.1 size61
  go_enter Tryz.func72, Tryz.ntmps72
  go_wp2
  rw [Lib.run_neq_ptr_same w _ Tryz.underlying58 hj]
  go_wp2
  go_end0
  exact ⟨rfl, rfl⟩
theorem copy_fresh (b : Nat) (w : World) (h0 : w.cell? ⟨b, 0, none⟩ = some (.pointer none)) (hsh : w.shape? b = some (61, 2)) (hfz : w.frozen? ⟨b, 0, none⟩ = false) :
    Calls Tryz.prog 72 #[.pointer (some ⟨b, 0, none⟩)] w fun e w' => e = .returned (.tuple #[]) ∧ w' = w.setCell ⟨b, 0, none⟩ (.pointer (some ⟨b, 0, none⟩)) := by
  obtain ⟨j, hj, hjs⟩ := Option.map_eq_some_iff.1 size61
  go_enter Tryz.func72, Tryz.ntmps72
  go_wp2
  rw [Lib.run_to_unsafe w ⟨b, 0, none⟩ Tryz.underlying58 Tryz.underlying120 hj (by rw [hjs]; decide) hsh (Nat.zero_lt_succ 1)]
  simp only [Result.andThen]
  rw [Oper.upon_value]
  go_wp2
  rw [run_callFunc_extern Tryz.func84 (by kernel_rfl) (by kernel_rfl) (by kernel_rfl) (e := Extern.AbiNoEscape.same) (by kernel_rfl)]
  rw [Lib.run_noEscape]
  simp only [Result.andThen]
  rw [Oper.upon_value]
  go_wp2
  rw [Lib.run_from_unsafe w ⟨b, 0, none⟩ Tryz.underlying120 Tryz.underlying58 hj hsh lies61]
  simp only [Result.andThen]
  rw [Oper.upon_value]
  go_wp2
  go_end0
  exact ⟨rfl, rfl⟩
theorem meets72 (W0 : World) : Enterable Tryz.prog 72 ∧ Meets Tryz.prog W0 72 (specFn (.heap (copyF 61))) := ⟨enterable_of Tryz.func72 (by kernel_rfl), meets_copy copy_used copy_fresh⟩
theorem string_row (b g cap : Nat) (l : List UInt8) (w : World) (h0 : l ≠ []) (hc : w.cell? ⟨b, 1, none⟩ = some (.slice (some ⟨g, 0, none⟩) l.length cap)) (hcap : l.length ≤ cap) (hm : cap ≤ maxLen)
    (hcell : ∀ (j : Nat) (x : UInt8), l[j]? = some x → w.cell? ⟨g, j, none⟩ = some (.int .u8 x.toNat)) (hsh : ∃ n, w.shape? g = some (5, n) ∧ l.length ≤ n) :
    Calls Tryz.prog 35 #[.pointer (some ⟨b, 0, none⟩)] w fun e w' => e = .returned (.string ⟨l.toArray⟩) ∧ w' = w.drew.freeze ⟨g, 0, none⟩ l.length := by
  obtain ⟨n, hsh, hn⟩ := hsh
  have hl0 : l.length ≠ 0 := by simpa using h0
  have c1 : w.drew.cell? ⟨b, 1, none⟩ = some (.slice (some ⟨g, 0, none⟩) l.length cap) := hc
  have hSD : (Builtin.unsafeSliceData_ #[59] 85 #[.slice (some ⟨g, 0, none⟩) l.length cap]).run Tryz.prog w.drew = .ok (.pointer (some ⟨g, 0, none⟩)) w.drew :=
    Lib.run_unsafeSliceData_row _ _ _ _ _ _ (by omega)
  have hUS : (Builtin.unsafeString_ #[85, 3] 9 #[.pointer (some ⟨g, 0, none⟩), .int .i64 l.length]).run Tryz.prog w.drew = .ok (.string ⟨l.toArray⟩) (w.drew.freeze ⟨g, 0, none⟩ l.length) := by
    refine Lib.run_unsafeString_row w.drew 85 3 9 5 Tryz.underlying85 (by kernel_rfl) g n hsh l h0 hn (by unfold maxLen at hm; omega) ?_
    intro j x hx
    rw [Addr.add_lit, Nat.zero_add]
    exact hcell j x hx
  have mixed := mixed
  go_enter Tryz.func35, Tryz.ntmps35
  go_wp2
  go_region_o
  all_goals (go_wp2; go_ret; exact ⟨rfl, rfl⟩)
theorem string_nil (b : Nat) (w : World) (hc : w.cell? ⟨b, 1, none⟩ = some (.slice none 0 0)) :
    Calls Tryz.prog 35 #[.pointer (some ⟨b, 0, none⟩)] w fun e w' => e = .returned (.string ⟨#[]⟩) ∧ w' = w.drew := by
  have c1 : w.drew.cell? ⟨b, 1, none⟩ = some (.slice none 0 0) := hc
  have hUS : ∀ (W : World) (q : Option Addr), (Builtin.unsafeString_ #[85, 3] 9 #[.pointer q, .int .i64 0]).run Tryz.prog W = .ok (.string .empty) W := fun W q => Lib.run_unsafeString_none W _ _ _ q
  have hSD : (Builtin.unsafeSliceData_ #[59] 85 #[.slice none 0 0]).run Tryz.prog w.drew = .ok (.pointer none) w.drew := rfl
  have mixed := mixed
  go_enter Tryz.func35, Tryz.ntmps35
  go_wp2
  go_region_o
  all_goals (go_wp2; go_ret; exact ⟨rfl, rfl⟩)
theorem meets35 (W0 : World) : Enterable Tryz.prog 35 ∧ Meets Tryz.prog W0 35 (specFn (.heap (stringF 5))) := ⟨enterable_of Tryz.func35 (by kernel_rfl), meets_string rfl string_nil string_row⟩
end Go.Proofs.YtkckpmcpmngiiaaGreatDoor
/- Bytes and texts written into a builder, by the machine. -/
set_option linter.unusedSimpArgs false
set_option linter.unusedVariables false
set_option maxRecDepth 1000000
set_option maxHeartbeats 1000000
namespace Go.Proofs.YtkckpmcpmngiiaaGreatDoor
open Go Go.Pm Go.RowKit
/-- What a call leaves as it was: every box but one, every row but those of one type. -/
structure FrE (k : Nat) (e : TypeId) (H H' : List Blk) : Prop where
  box : ∀ (j : Nat) (t : Option TypeId) (cs : List SV), j ≠ k → H[j]? = some (.box t cs) → H'[j]? = some (.box t cs)
  tok : ∀ (j v : Nat) (e' : TypeId), e' ≠ e → H[j]? = some (.tok v e') → H'[j]? = some (.tok v e')
  len : H.length ≤ H'.length
theorem FrE.refl (k : Nat) (e : TypeId) (H : List Blk) : FrE k e H H := ⟨fun _ _ _ _ h => h, fun _ _ _ _ h => h, Nat.le_refl _⟩
theorem FrE.trans {k : Nat} {e : TypeId} {A B C : List Blk} (h : FrE k e A B) (h' : FrE k e B C) : FrE k e A C :=
  ⟨fun j t cs hj hh => h'.box j t cs hj (h.box j t cs hj hh), fun j v e' he hh => h'.tok j v e' he (h.tok j v e' he hh), Nat.le_trans h.len h'.len⟩
theorem FrE.setBox {k : Nat} {e : TypeId} {H : List Blk} {t : Option TypeId} {cs cs' : List SV} (h : H[k]? = some (.box t cs)) : FrE k e H (H.set k (.box t cs')) := by
  refine ⟨fun j t' cs1 hj hh => ?_, fun j v e' he hh => ?_, by simp⟩
  · rw [List.getElem?_set_ne (Ne.symm hj)]; exact hh
  · have : k ≠ j := by intro e; subst e; rw [h] at hh; cases hh
    rw [List.getElem?_set_ne this]; exact hh
theorem FrE.acc {k : Nat} {e e' : TypeId} {s : Nat} {H H' : List Blk} {es : List (List PV)} {out : SV} (h : FrE k e H H') (he : e' ≠ e) (ha : Acc e' s H es out) : Acc e' s H' es out := by
  rcases ha with ⟨rfl, rfl⟩ | ⟨hne, kt, v, rfl, hk⟩
  · exact .inl ⟨rfl, rfl⟩
  · exact .inr ⟨hne, kt, v, rfl, h.tok _ _ _ he hk⟩
/-- An append, and what it leaves as it was. -/
theorem app_fr {t e : TypeId} {y : Ty} {H : List Blk} {es : List (List PV)} {x : List PV} {out : SV} (k : Nat) (hk : kindOf Y t = some (.slice e)) (hy : Y e = some y) (h0 : 0 < y.size) (hb : y.bytes ≤ 32768) (hb0 : y.bytes ≠ 0)
    (hl : (es.length + 1) * y.bytes ≤ maxRow) (h : Acc e y.size H es out) :
    ∃ out' H', aAppend Y H t t out (.tight y.size [x]) = some (out', H') ∧ Acc e y.size H' (es ++ [x]) out' ∧ (∀ (j : Nat) (t : Option TypeId) (cs : List SV), H[j]? = some (.box t cs) → H'[j]? = some (.box t cs)) ∧ FrE k e H H' := by
  have hl2 : es.length + 1 ≤ maxRow := Nat.le_trans (Nat.le_mul_of_pos_right _ (Nat.pos_of_ne_zero hb0)) hl
  rcases h with ⟨rfl, rfl⟩ | ⟨hne, kt, v, rfl, hkv⟩
  · have key : ∀ (j : Nat) (b : Blk), H[j]? = some b → (H ++ [Blk.tok 0 e])[j]? = some b := fun j b hc => by
      rw [List.getElem?_append_left (List.getElem?_eq_some_iff.1 hc).1]; exact hc
    refine ⟨.own H.length 0 y.size [x], H ++ [.tok 0 e], ?_, .inr ⟨by simp, _, _, rfl, by simp⟩, fun j t cs h => key _ _ h, ⟨fun j t cs _ h => key _ _ h, fun j v e' _ h => key _ _ h, by simp⟩⟩
    simp [-maxRow] at hl hl2
    simp [-kindOf, -maxRow, aAppend, hk, hy, sliceElems, strideOk, h0, hb, hb0, hl, hl2]
  · have nb : ∀ (j : Nat) (t : Option TypeId) (cs : List SV), H[j]? = some (.box t cs) → (H.set kt (.tok (v + 1) e))[j]? = some (.box t cs) := fun j t cs hc => by
      have : kt ≠ j := by intro e; subst e; rw [hkv] at hc; cases hc
      rw [List.getElem?_set_ne this]; exact hc
    refine ⟨.own kt (v + 1) y.size (es ++ [x]), H.set kt (.tok (v + 1) e), ?_, .inr ⟨by simp, _, _, rfl, ?_⟩, nb, ⟨fun j t cs _ h => nb j t cs h, fun j v' e' he hc => ?_, by simp⟩⟩
    · simp [-kindOf, -maxRow, aAppend, hk, hy, sliceElems, strideOk, h0, hb, hb0, hl, hl2, hkv]
    · rw [List.getElem?_set_self (List.getElem?_eq_some_iff.1 hkv).1]
    · have : kt ≠ j := by intro e1; subst e1; rw [hkv] at hc; cases hc; exact he rfl
      rw [List.getElem?_set_ne this]; exact hc
theorem cells_ptr (k o : Nat) : cellsOf (.ptr k o) = some [.ptr k o] := rfl
/-- A builder that holds some bytes. -/
def bRow (bs : Bs) : List (List PV) := bs.map fun c => [PV.int .u8 c.toNat]
structure Bld (k : Nat) (bs : Bs) (H : List Blk) : Prop where
  st : ∃ (a buf : SV), H[k]? = some (.box (some 61) [a, buf]) ∧ (a = .pv .nilPtr ∨ a = .ptr k 0) ∧ Acc 5 1 H (bRow bs) buf
theorem Bld.new (H : List Blk) : Bld H.length [] (H ++ [.box (some 61) [.pv .nilPtr, .pv .nilSlice]]) := ⟨_, _, by simp, .inl rfl, .inl ⟨rfl, rfl⟩⟩
theorem Bld.copy {k : Nat} {bs : Bs} {H : List Blk} (h : Bld k bs H) : ∃ (buf : SV) (H1 : List Blk), copyF 61 [.ptr k 0] H = some (.undef, H1) ∧ H1[k]? = some (.box (some 61) [.ptr k 0, buf]) ∧ Acc 5 1 H1 (bRow bs) buf ∧ FrE k 5 H H1 := by
  obtain ⟨a, buf, hk, ha, hacc⟩ := h.st
  have hlt := (List.getElem?_eq_some_iff.1 hk).1
  rcases ha with rfl | rfl
  · refine ⟨buf, H.set k (.box (some 61) [.ptr k 0, buf]), by simp [copyF, hk], by simp [hlt], hacc.box hk, FrE.setBox hk⟩
  · exact ⟨buf, H, by simp [copyF, hk], hk, hacc, FrE.refl _ _ _⟩
noncomputable def T97 : FuncId → Option Pm.Spec := tab [(72, .heap (copyF 61))]
theorem T97_eq (g : Nat) : T97 g = tab [(72, .heap (copyF 61))] g := rfl
theorem tok97 (W0 : World) : TOk Tryz.prog W0 T97 := tok_cons (meets72 W0) tok_nil
theorem meets97 (W0 : World) : Enterable Tryz.prog 97 ∧ Meets Tryz.prog W0 97 (specFn (.heap (arunAll Y T97 Tryz.f97))) := meets_heap env (tok97 W0) mixed Tryz.func97 (by kernel_rfl) (by kernel_rfl)
theorem all97 {k : Nat} {bs : Bs} {H : List Blk} (h : Bld k bs H) (c : Int) (hc : 0 ≤ c ∧ c ≤ 255) (hl : bs.length ≤ 200000000) :
    ∃ H', arunAll Y T97 Tryz.f97 [.ptr k 0, u8 c] H = some (.pv .nilIface, H') ∧ Bld k (bs ++ [UInt8.ofNat c.toNat]) H' ∧ FrE k 5 H H' := by
  obtain ⟨buf, H1, e1, hk1, ha1, f1⟩ := h.copy
  have hrow : bRow (bs ++ [UInt8.ofNat c.toNat]) = bRow bs ++ [[PV.int .u8 c]] := by
    unfold bRow
    rw [List.map_append]
    have : ((UInt8.ofNat c.toNat).toNat : Int) = c := by
      have : (UInt8.ofNat c.toNat).toNat = c.toNat := by simp; omega
      rw [this]; omega
    simp only [List.map_cons, List.map_nil, this]
  obtain ⟨out', H2, e2, ha2, nb, f2⟩ := app_fr (t := 59) (x := [PV.int .u8 c]) k (by rfl) Y_5 (by decide) (by decide) (by decide) (by simp [bRow, maxRow]; omega) ha1
  have hk2 := nb _ _ _ hk1
  have hlt := (List.getElem?_eq_some_iff.1 hk2).1
  have hx : XFn Y T97 Tryz.f97 [.ptr k 0, u8 c] H (fun x => x = (.pv .nilIface, H2.set k (.box (some 61) [.ptr k 0, out']))) := by
    unfold XFn Tryz.f97
    rw [enter_2 _ (by decide)]
    have ha2' : Pm.Acc 5 1 H2 (bRow bs ++ [[PV.int .u8 c]]) out' := ha2
    have e2 : aAppend Y H1 59 59 buf (.tight 1 [[.int .u8 c]]) = some (out', H2) := e2
    simp [-aAppend, -cellsOf, T97_eq, e1, hk1, e2, hk2, ha1.live, ha2'.live, acc_cells ha2', cells_pv]
  obtain ⟨r, H', h1, h2⟩ := all_of_XFn (by rfl) hx
  cases h2
  refine ⟨_, h1, ⟨⟨.ptr k 0, out', by simp [hlt], .inr rfl, ?_⟩⟩, (f1.trans f2).trans (FrE.setBox hk2)⟩
  rw [hrow]; exact ha2.box hk2
/-- A text appended to a row of bytes. -/
theorem app_text {H : List Blk} {buf : SV} {bs : Bs} (k : Nat) (h : Acc 5 1 H (bRow bs) buf) (l : Bs) (hl : bs.length + l.length ≤ 400000000) :
    ∃ out' H', aAppend Y H 59 59 buf (.tight 1 (byteRow l)) = some (out', H') ∧ Acc 5 1 H' (bRow (bs ++ l)) out' ∧ (∀ (j : Nat) (t : Option TypeId) (cs : List SV), H[j]? = some (.box t cs) → H'[j]? = some (.box t cs)) ∧ FrE k 5 H H' := by
  cases l with
  | nil =>
    refine ⟨buf, H, ?_, by simpa using h, fun j t cs h => h, FrE.refl _ _ _⟩
    rcases h with ⟨h1, rfl⟩ | ⟨h1, kt, v, rfl, hkv⟩ <;> simp [aAppend, sliceElems, byteRow]
  | cons c l =>
    have hlen : (byteRow (c :: l)).length = l.length + 1 := by simp [byteRow]
    have hne : byteRow (c :: l) ≠ [] := by simp [byteRow]
    have hemp : (byteRow (c :: l)).isEmpty = false := by simp [byteRow]
    have hb : bRow (bs ++ c :: l) = bRow bs ++ byteRow (c :: l) := by simp [bRow, byteRow]
    have hm : (bRow bs).length + (byteRow (c :: l)).length ≤ maxRow := by simp [bRow, byteRow, maxRow] at hl ⊢; omega
    simp only [maxRow] at hm
    have hm2 : (byteRow (c :: l)).length ≤ 70368744177664 := by omega
    rw [hb]
    generalize byteRow (c :: l) = xs at *
    rcases h with ⟨h1, rfl⟩ | ⟨h1, kt, v, rfl, hkv⟩
    · rw [h1]
      have key : ∀ (j : Nat) (b : Blk), H[j]? = some b → (H ++ [Blk.tok 0 5])[j]? = some b := fun j b hc => by
        rw [List.getElem?_append_left (List.getElem?_eq_some_iff.1 hc).1]; exact hc
      refine ⟨.own H.length 0 1 xs, H ++ [.tok 0 5], ?_, .inr ⟨by simpa using hne, _, _, rfl, by simp⟩, fun j t cs h => key _ _ h, ⟨fun j t cs _ h => key _ _ h, fun j v e' _ h => key _ _ h, by simp⟩⟩
      simp [aAppend, sliceElems, strideOk, hemp, hne, hm2]
    · have nb : ∀ (j : Nat) (t : Option TypeId) (cs : List SV), H[j]? = some (.box t cs) → (H.set kt (.tok (v + 1) 5))[j]? = some (.box t cs) := fun j t cs hc => by
        have : kt ≠ j := by intro e; subst e; rw [hkv] at hc; cases hc
        rw [List.getElem?_set_ne this]; exact hc
      refine ⟨.own kt (v + 1) 1 (bRow bs ++ xs), H.set kt (.tok (v + 1) 5), ?_, .inr ⟨by simp [h1], _, _, rfl, by rw [List.getElem?_set_self (List.getElem?_eq_some_iff.1 hkv).1]⟩, nb, ⟨fun j t cs _ h => nb j t cs h, fun j v' e' he hc => ?_, by simp⟩⟩
      · simp [aAppend, sliceElems, strideOk, hemp, hne, hm, hkv]
      · have : kt ≠ j := by intro e1; subst e1; rw [hkv] at hc; cases hc; exact he rfl
        rw [List.getElem?_set_ne this]; exact hc
theorem meets55 (W0 : World) : Enterable Tryz.prog 55 ∧ Meets Tryz.prog W0 55 (specFn (.heap (arunAll Y T97 Tryz.f55))) := meets_heap env (tok97 W0) mixed Tryz.func55 (by kernel_rfl) (by kernel_rfl)
theorem all55 {k : Nat} {bs : Bs} {H : List Blk} (h : Bld k bs H) (l : Bs) (hl : bs.length + l.length ≤ 200000000) :
    ∃ H', arunAll Y T97 Tryz.f55 [.ptr k 0, .str l] H = some (.tuple [.i l.length, .pv .nilIface], H') ∧ Bld k (bs ++ l) H' ∧ FrE k 5 H H' := by
  obtain ⟨buf, H1, e1, hk1, ha1, f1⟩ := h.copy
  obtain ⟨out', H2, e2, ha2, nb, f2⟩ := app_text k ha1 l (by omega)
  have hk2 := nb _ _ _ hk1
  have hlt := (List.getElem?_eq_some_iff.1 hk2).1
  have hx : XFn Y T97 Tryz.f55 [.ptr k 0, .str l] H (fun x => x = (.tuple [.i l.length, .pv .nilIface], H2.set k (.box (some 61) [.ptr k 0, out']))) := by
    unfold XFn Tryz.f55
    rw [enter_2 _ (by decide)]
    simp [-aAppend, -cellsOf, T97_eq, e1, hk1, e2, hk2, ha1.live, ha2.live, acc_cells ha2, cells_pv]
  obtain ⟨r, H', h1, h2⟩ := all_of_XFn (by rfl) hx
  cases h2
  exact ⟨_, h1, ⟨⟨.ptr k 0, out', by simp [hlt], .inr rfl, ha2.box hk2⟩⟩, (f1.trans f2).trans (FrE.setBox hk2)⟩
theorem all55' {k : Nat} {bs : Bs} {H : List Blk} (h : Bld k bs H) (l : Bs) (hl : bs.length + l.length ≤ 200000000) : ∃ r H', arunAll Y T97 Tryz.f55 [.ptr k 0, .str l] H = some (r, H') ∧ Bld k (bs ++ l) H' ∧ FrE k 5 H H' :=
  let ⟨H', h1, h2, h3⟩ := all55 h l hl; ⟨_, H', h1, h2, h3⟩
/-- The length and the string of a builder. -/
theorem meets34 (W0 : World) : Enterable Tryz.prog 34 ∧ Meets Tryz.prog W0 34 (specFn (.heap (arunAll Y T0 Tryz.f34))) := meets_heap env tok_nil mixed Tryz.func34 (by kernel_rfl) (by kernel_rfl)
theorem all34 {k : Nat} {bs : Bs} {H : List Blk} (h : Bld k bs H) : arunAll Y T0 Tryz.f34 [.ptr k 0] H = some (.i bs.length, H) := by
  obtain ⟨a, buf, hk, ha, hacc⟩ := h.st
  have hx : XFn Y T0 Tryz.f34 [.ptr k 0] H (fun x => x = (.i bs.length, H)) := by
    unfold XFn Tryz.f34
    rw [enter_1 _ (by decide)]
    rcases hacc with ⟨h1, rfl⟩ | ⟨h1, kt, v, rfl, h2⟩
    · have : bs = [] := by simpa [bRow] using h1
      subst this
      simp [hk]
    · simp [hk, bRow]
  obtain ⟨r, H', h1, h2⟩ := all_of_XFn (by rfl) hx
  rw [h1, h2]
theorem str_at {k : Nat} {bs : Bs} {H : List Blk} (h : Bld k bs H) : stringF 5 [.ptr k 0] H = some (.str bs, H) := by
  obtain ⟨a, buf, hk, ha, hacc⟩ := h.st
  rcases hacc with ⟨h1, rfl⟩ | ⟨h1, kt, v, rfl, h2⟩
  · have : bs = [] := by simpa [bRow] using h1
    subst this
    simp [stringF, hk]
  · have hb : bytesB (bRow bs) = some bs := bytesB_row bs
    simp [stringF, hk, h2, h1, hb]
end Go.Proofs.YtkckpmcpmngiiaaGreatDoor
/- Entities, and attributes that stand already, by the machine. -/
set_option linter.unusedSimpArgs false
set_option linter.unusedVariables false
set_option maxRecDepth 1000000
set_option maxHeartbeats 400000
namespace Go.Proofs.YtkckpmcpmngiiaaGreatDoor
open Go Go.Pm Go.RowKit
/-- What entities stand for. -/
def ents : List (Bs × Bs) := [([38, 108, 116, 59], [60]), ([38, 103, 116, 59], [62]), ([38, 97, 109, 112, 59], [38]), ([38, 113, 117, 111, 116, 59], [34]), ([38, 97, 112, 111, 115, 59], [39]), ([38, 35, 57, 59], [9]), ([38, 35, 49, 48, 59], [10])]
def F95 : List SV → Option SV
  | [] => some (.tight 2 (ents.map atRow))
  | _ => none
theorem x95 : XFn Y T0 Tryz.f95 [] [] (Is (.tight 2 (ents.map atRow))) := by
  unfold XFn Tryz.f95
  rw [enter_mk0]
  simp [ents, atRow]
theorem meets95 (W0 : World) : OkAt W0 95 F95 := meets_fn env tok_nil mixed Tryz.func95 (by kernel_rfl) (by kernel_rfl) fun args r h => by
  unfold F95 at h
  split at h
  · cases h; exact x95
  · cases h
theorem app_at {H : List Blk} {k : Nat} {b c : Blk} (hk : H[k]? = some b) : (H ++ [c])[k]? = some b := by
  rw [List.getElem?_append_left (List.getElem?_eq_some_iff.1 hk).1]; exact hk
noncomputable def T96 : FuncId → Option Pm.Spec := tab [(57, .heap A57)]
theorem T96_eq (g : Nat) : T96 g = tab [(57, .heap A57)] g := rfl
theorem x96 {H : List Blk} {k kb : Nat} {s : Bs} {g : Rd} (hk : H[k]? = some (rb s g)) (hb : H[kb]? = some (.box (some 64) [.ptr k 0])) (hg : g.e = 0 → g.at' ≤ s.length) (a b : Bs) :
    XFn Y T96 Tryz.f96 [.agg [.pv (.str a), .pv (.str b)], .ptr kb 0] H (fun x => x = (.bool (g.sees s a), H ++ [.box (some 133) [.pv (.str a), .pv (.str b)]])) := by
  unfold XFn Tryz.f96
  rw [enter_2 _ (by decide)]
  have hk2 := app_at (c := .box (some 133) [.pv (.str a), .pv (.str b)]) hk
  have hb2 := app_at (c := .box (some 133) [.pv (.str a), .pv (.str b)]) hb
  have f1 := all57 hk2 hg a
  simp [-getElem?_pos, List.getElem?_cons_zero, List.getElem?_cons_succ, T96_eq, get_last, hb2, f1]
noncomputable def A96 : List SV → List Blk → Option (SV × List Blk) := arunAll Y T96 Tryz.f96
theorem meets96 (W0 : World) : Enterable Tryz.prog 96 ∧ Meets Tryz.prog W0 96 (specFn (.heap A96)) := meets_heap env (tok_cons (meets57 W0) tok_nil) mixed Tryz.func96 (by kernel_rfl) (by kernel_rfl)
theorem all96 {H : List Blk} {k kb : Nat} {s : Bs} {g : Rd} (hk : H[k]? = some (rb s g)) (hb : H[kb]? = some (.box (some 64) [.ptr k 0])) (hg : g.e = 0 → g.at' ≤ s.length) (a b : Bs) :
    A96 [.agg [.pv (.str a), .pv (.str b)], .ptr kb 0] H = some (.bool (g.sees s a), H ++ [.box (some 133) [.pv (.str a), .pv (.str b)]]) := by
  obtain ⟨r, H', h1, h2⟩ := all_of_XFn (by rfl) (x96 hk hb hg a b)
  cases h2; exact h1
/-- Which entity follows. -/
def entI (s : Bs) (g : Rd) : List (Bs × Bs) → Nat → Int
  | [], _ => -1
  | a :: r, i => if g.sees s a.1 = true then ((i : Nat) : Int) else entI s g r (i + 1)
theorem entI_drop {l : List (Bs × Bs)} {i : Nat} {x : Bs × Bs} (s : Bs) (g : Rd) (h : l[i]? = some x) : entI s g (l.drop i) i = if g.sees s x.1 = true then ((i : Nat) : Int) else entI s g (l.drop (i + 1)) (i + 1) := by
  obtain ⟨h1, h2⟩ := List.getElem?_eq_some_iff.1 h
  rw [List.drop_eq_getElem_cons h1, h2]; rfl
theorem ent_at {l : List (Bs × Bs)} {i : Nat} {x : Bs × Bs} (h : l[i]? = some x) : aIndexAddr Y 132 (.tight 2 (l.map atRow)) (i : Nat) = some (.cptr [.str x.1, .str x.2]) := by
  have : (l.map atRow)[i]? = some (atRow x) := by simp [h]
  simp [aIndexAddr, kindOf, aElem, this, -getElem?_pos]; rfl
theorem ent_len (l : List (Bs × Bs)) : aLen Y 132 (.tight 2 (l.map atRow)) = some l.length := by simp [aLen, kindOf, sliceElems]
noncomputable def T94 : FuncId → Option Pm.Spec := tab [(96, .heap A96)]
theorem T94_eq (g : Nat) : T94 g = tab [(96, .heap A96)] g := rfl
theorem loop94 {F : List Fr} {P : SV × List Blk → Prop} {k kb : Nat} {s : Bs} {g : Rd} {l : List (Bs × Bs)} (hl : l.length ≤ 1000000) (hg : g.e = 0 → g.at' ≤ s.length) : ∀ (r i : Nat) (H : List Blk), i + r = l.length → H[k]? = some (rb s g) → H[kb]? = some (.box (some 64) [.ptr k 0]) →
    (entI s g (l.drop i) i ≠ -1 → ∀ G, P (.i (entI s g (l.drop i) i), H ++ G)) → (entI s g (l.drop i) i = -1 → ∀ G, X Y T94 [.tmp 4] F (.exit 0) ⟨mk 19 .J [], H ++ G⟩ P) →
    X Y T94 [.tmp 4] F (.loop (loopN Tryz.f94 0)) ⟨mk 19 .J [(0, .tight 2 (l.map atRow)), (1, .clo 96 [.ptr kb 0]), (7, .i (l.length : Nat)), (8, .i (i : Nat))], H⟩ P := by
  intro r
  induction r with
  | zero =>
    intro i H e hk hb hp1 hx
    have e1 : i = l.length := by omega
    subst e1
    have hx := hx (by rw [List.drop_of_length_le (Nat.le_refl _)]; rfl) []
    rw [List.append_nil] at hx
    apply X_loop_of
    · simp only [loopN, Tryz.f94, loopsOf, List.nil_append, List.append_nil, List.cons_append, List.getD_cons_succ, List.getD_cons_zero]; rfl
    simp
    refine X_keep hx (by simp)
  | succ r ih =>
    intro i H e hk hb hp1 hx
    have hi : i < l.length := by omega
    obtain ⟨x, hxi⟩ : ∃ x, l[i]? = some x := ⟨_, List.getElem?_eq_getElem hi⟩
    have hat := ent_at hxi
    have q3 := next_i (m := i) (by omega)
    have c4 : ((i : Nat) : Int) < (l.length : Nat) := by omega
    have hall := all96 hk hb hg x.1 x.2
    rw [entI_drop s g hxi] at hp1 hx
    have hk2 := app_at (c := .box (some 133) [.pv (.str x.1), .pv (.str x.2)]) hk
    have hb2 := app_at (c := .box (some 133) [.pv (.str x.1), .pv (.str x.2)]) hb
    apply X_loop_of
    · simp only [loopN, Tryz.f94, loopsOf, List.nil_append, List.append_nil, List.cons_append, List.getD_cons_succ, List.getD_cons_zero]; rfl
    cases hb1 : g.sees s x.1 with
    | true =>
      rw [hb1] at hall hp1
      rw [if_pos rfl] at hp1
      simp [-Int.natCast_add, -Int.not_lt, -Int.not_le, -aIndexAddr, -getElem?_pos, T94_eq, q3, c4, hi, hat, hall]
      exact hp1 (by omega) _
    | false =>
      rw [hb1] at hall hp1 hx
      rw [if_neg (by decide)] at hp1 hx
      simp [-Int.natCast_add, -Int.not_lt, -Int.not_le, -aIndexAddr, -getElem?_pos, T94_eq, q3, c4, hi, hat, hall]
      refine X_keep (ih (i + 1) _ (by omega) hk2 hb2 (fun h G => ?_) (fun h G => ?_)) ?_
      · rw [List.append_assoc]; exact hp1 h _
      · rw [List.append_assoc]; exact hx h _
      · simp
theorem x94 {H : List Blk} {k kb : Nat} {s : Bs} {g : Rd} (hk : H[k]? = some (rb s g)) (hb : H[kb]? = some (.box (some 64) [.ptr k 0])) (hg : g.e = 0 → g.at' ≤ s.length) {l : List (Bs × Bs)} (hl : l.length ≤ 1000000) :
    XFn Y T94 Tryz.f94 [.tight 2 (l.map atRow), .clo 96 [.ptr kb 0]] H (fun x => x.1 = .i (entI s g l 0) ∧ ∃ G, x.2 = H ++ G) := by
  unfold XFn Tryz.f94
  rw [enter_2 _ (by decide)]
  have hlen := ent_len l
  simp [-outR, -aLen, hlen]
  refine X_keep (loop94 hl hg l.length 0 H (by omega) hk hb (fun h G => ?_) (fun h G => ?_)) ?_
  · exact ⟨rfl, G, rfl⟩
  · rw [List.drop_zero] at h
    simp [h]
  · simp
noncomputable def A94 : List SV → List Blk → Option (SV × List Blk) := arunAll Y T94 Tryz.f94
theorem meets94 (W0 : World) : Enterable Tryz.prog 94 ∧ Meets Tryz.prog W0 94 (specFn (.heap A94)) := meets_heap env (tok_cons (meets96 W0) tok_nil) mixed Tryz.func94 (by kernel_rfl) (by kernel_rfl)
theorem all94 {H : List Blk} {k kb : Nat} {s : Bs} {g : Rd} (hk : H[k]? = some (rb s g)) (hb : H[kb]? = some (.box (some 64) [.ptr k 0])) (hg : g.e = 0 → g.at' ≤ s.length) {l : List (Bs × Bs)} (hl : l.length ≤ 1000000) :
    ∃ G, A94 [.tight 2 (l.map atRow), .clo 96 [.ptr kb 0]] H = some (.i (entI s g l 0), H ++ G) := by
  obtain ⟨r, H', h1, h2, G, h4⟩ := all_of_XFn (by rfl) (x94 hk hb hg hl)
  simp only at h2 h4
  subst h2 h4
  exact ⟨G, h1⟩
end Go.Proofs.YtkckpmcpmngiiaaGreatDoor
/- A builder of one's own: what stood ahead of it stays. -/
set_option linter.unusedSimpArgs false
set_option linter.unusedVariables false
set_option maxRecDepth 1000000
set_option maxHeartbeats 400000
namespace Go.Proofs.YtkckpmcpmngiiaaGreatDoor
open Go Go.Pm Go.RowKit
/-- Every block ahead stays, and every box but one. -/
structure Frm (n0 k : Nat) (H H' : List Blk) : Prop where
  len : H.length ≤ H'.length
  old : ∀ j, j < n0 → H'[j]? = H[j]?
  box : ∀ (j : Nat) (t : Option TypeId) (cs : List SV), j ≠ k → H[j]? = some (.box t cs) → H'[j]? = some (.box t cs)
theorem Frm.refl (n0 k : Nat) (H : List Blk) : Frm n0 k H H := ⟨Nat.le_refl _, fun _ _ => rfl, fun _ _ _ _ h => h⟩
theorem Frm.trans {n0 k : Nat} {A B C : List Blk} (h : Frm n0 k A B) (h' : Frm n0 k B C) : Frm n0 k A C :=
  ⟨Nat.le_trans h.len h'.len, fun j hj => (h'.old j hj).trans (h.old j hj), fun j t cs hj hh => h'.box j t cs hj (h.box j t cs hj hh)⟩
theorem Frm.set {n0 k : Nat} {H : List Blk} (h : n0 ≤ k) (b : Blk) : Frm n0 k H (H.set k b) :=
  ⟨by simp, fun j hj => List.getElem?_set_ne (by omega), fun j t cs hj hh => by rw [List.getElem?_set_ne (Ne.symm hj)]; exact hh⟩
structure BldN (n0 k : Nat) (bs : Bs) (H : List Blk) : Prop where
  st : ∃ (a buf : SV), H[k]? = some (.box (some 61) [a, buf]) ∧ (a = .pv .nilPtr ∨ a = .ptr k 0) ∧ Acc 5 1 H (bRow bs) buf ∧ (∀ kt v s es, buf = .own kt v s es → n0 ≤ kt)
  ge : n0 ≤ k
  le : n0 ≤ H.length
theorem BldN.bld {n0 k : Nat} {bs : Bs} {H : List Blk} (h : BldN n0 k bs H) : Bld k bs H := by
  obtain ⟨a, buf, h1, h2, h3, _⟩ := h.st
  exact ⟨a, buf, h1, h2, h3⟩
theorem BldN.new {n0 : Nat} {H : List Blk} (h : n0 ≤ H.length) : BldN n0 H.length [] (H ++ [.box (some 61) [.pv .nilPtr, .pv .nilSlice]]) :=
  ⟨⟨_, _, by simp, .inl rfl, .inl ⟨rfl, rfl⟩, fun _ _ _ _ h => by cases h⟩, h, by simp; omega⟩
theorem BldN.lt {n0 k : Nat} {bs : Bs} {H : List Blk} (h : BldN n0 k bs H) : k < H.length := by
  obtain ⟨a, buf, h1, _⟩ := h.st
  exact (List.getElem?_eq_some_iff.1 h1).1
/-- Boxes that are written or made elsewhere. -/
theorem BldN.setBox {n0 k q : Nat} {bs : Bs} {H : List Blk} (h : BldN n0 k bs H) {t : Option TypeId} {cs cs' : List SV} (hq : H[q]? = some (.box t cs)) (hne : q ≠ k) : BldN n0 k bs (H.set q (.box t cs')) := by
  obtain ⟨a, buf, h1, h2, h3, h4⟩ := h.st
  exact ⟨⟨a, buf, by rw [List.getElem?_set_ne hne]; exact h1, h2, h3.box hq, h4⟩, h.ge, by simpa using h.le⟩
theorem BldN.more {n0 k : Nat} {bs : Bs} {H : List Blk} (h : BldN n0 k bs H) (G : List Blk) : BldN n0 k bs (H ++ G) := by
  obtain ⟨a, buf, h1, h2, h3, h4⟩ := h.st
  exact ⟨⟨a, buf, by rw [List.getElem?_append_left (List.getElem?_eq_some_iff.1 h1).1]; exact h1, h2, h3.more G, h4⟩, h.ge, by have := h.le; simp; omega⟩
theorem BldN.copy {n0 k : Nat} {bs : Bs} {H : List Blk} (h : BldN n0 k bs H) : ∃ (buf : SV) (H1 : List Blk), copyF 61 [.ptr k 0] H = some (.undef, H1) ∧ H1[k]? = some (.box (some 61) [.ptr k 0, buf]) ∧ Acc 5 1 H1 (bRow bs) buf ∧ (∀ kt v s es, buf = .own kt v s es → n0 ≤ kt) ∧ Frm n0 k H H1 := by
  obtain ⟨a, buf, hk, ha, hacc, hn⟩ := h.st
  have hlt := (List.getElem?_eq_some_iff.1 hk).1
  rcases ha with rfl | rfl
  · refine ⟨buf, H.set k (.box (some 61) [.ptr k 0, buf]), by simp [copyF, hk], by simp [hlt], hacc.box hk, hn, Frm.set h.ge _⟩
  · exact ⟨buf, H, by simp [copyF, hk], hk, hacc, hn, Frm.refl _ _ _⟩
theorem app_textN {H : List Blk} {buf : SV} {bs : Bs} {n0 : Nat} (k : Nat) (h : Acc 5 1 H (bRow bs) buf) (hn : ∀ kt v s es, buf = .own kt v s es → n0 ≤ kt) (hH : n0 ≤ H.length) (l : Bs) (hl : bs.length + l.length ≤ 400000000) :
    ∃ out' H', aAppend Y H 59 59 buf (.tight 1 (byteRow l)) = some (out', H') ∧ Acc 5 1 H' (bRow (bs ++ l)) out' ∧ (∀ (j : Nat) (t : Option TypeId) (cs : List SV), H[j]? = some (.box t cs) → H'[j]? = some (.box t cs)) ∧ Frm n0 k H H' ∧ (∀ kt v s es, out' = .own kt v s es → n0 ≤ kt) := by
  cases l with
  | nil =>
    refine ⟨buf, H, ?_, by simpa using h, fun j t cs h => h, Frm.refl _ _ _, hn⟩
    rcases h with ⟨h1, rfl⟩ | ⟨h1, kt, v, rfl, hkv⟩ <;> simp [aAppend, sliceElems, byteRow]
  | cons c l =>
    have hlen : (byteRow (c :: l)).length = l.length + 1 := by simp [byteRow]
    have hne : byteRow (c :: l) ≠ [] := by simp [byteRow]
    have hemp : (byteRow (c :: l)).isEmpty = false := by simp [byteRow]
    have hb : bRow (bs ++ c :: l) = bRow bs ++ byteRow (c :: l) := by simp [bRow, byteRow]
    have hm : (bRow bs).length + (byteRow (c :: l)).length ≤ maxRow := by simp [bRow, byteRow, maxRow] at hl ⊢; omega
    simp only [maxRow] at hm
    have hm2 : (byteRow (c :: l)).length ≤ 70368744177664 := by omega
    rw [hb]
    generalize byteRow (c :: l) = xs at *
    rcases h with ⟨h1, rfl⟩ | ⟨h1, kt, v, rfl, hkv⟩
    · rw [h1]
      have key : ∀ (j : Nat) (b : Blk), H[j]? = some b → (H ++ [Blk.tok 0 5])[j]? = some b := fun j b hc => by
        rw [List.getElem?_append_left (List.getElem?_eq_some_iff.1 hc).1]; exact hc
      refine ⟨.own H.length 0 1 xs, H ++ [.tok 0 5], ?_, .inr ⟨by simpa using hne, _, _, rfl, by simp⟩, fun j t cs h => key _ _ h, ⟨by simp, fun j hj => List.getElem?_append_left (by omega), fun j t cs _ h => key _ _ h⟩, fun kt v s es e => by cases e; exact hH⟩
      simp [aAppend, sliceElems, strideOk, hemp, hne, hm2]
    · have nb : ∀ (j : Nat) (t : Option TypeId) (cs : List SV), H[j]? = some (.box t cs) → (H.set kt (.tok (v + 1) 5))[j]? = some (.box t cs) := fun j t cs hc => by
        have : kt ≠ j := by intro e; subst e; rw [hkv] at hc; cases hc
        rw [List.getElem?_set_ne this]; exact hc
      have hkt := hn kt v 1 (bRow bs) rfl
      refine ⟨.own kt (v + 1) 1 (bRow bs ++ xs), H.set kt (.tok (v + 1) 5), ?_, .inr ⟨by simp [h1], _, _, rfl, by rw [List.getElem?_set_self (List.getElem?_eq_some_iff.1 hkv).1]⟩, nb, ⟨by simp, fun j hj => List.getElem?_set_ne (by omega), fun j t cs _ h => nb j t cs h⟩, fun kt' v' s es e => by cases e; exact hkt⟩
      simp [aAppend, sliceElems, strideOk, hemp, hne, hm, hkv]
theorem wrN {n0 k : Nat} {bs : Bs} {H : List Blk} (h : BldN n0 k bs H) (l : Bs) (hl : bs.length + l.length ≤ 200000000) :
    ∃ buf H1 out' H2, copyF 61 [.ptr k 0] H = some (.undef, H1) ∧ H1[k]? = some (.box (some 61) [.ptr k 0, buf]) ∧ Pm.live buf = some buf ∧ aAppend Y H1 59 59 buf (.tight 1 (byteRow l)) = some (out', H2) ∧ H2[k]? = some (.box (some 61) [.ptr k 0, buf]) ∧ Pm.live out' = some out' ∧ cellsOf out' = some [out'] ∧
      BldN n0 k (bs ++ l) (H2.set k (.box (some 61) [.ptr k 0, out'])) ∧ Frm n0 k H (H2.set k (.box (some 61) [.ptr k 0, out'])) := by
  obtain ⟨buf, H1, e1, hk1, ha1, hn1, f1⟩ := h.copy
  obtain ⟨out', H2, e2, ha2, nb, f2, hn2⟩ := app_textN k ha1 hn1 (Nat.le_trans h.le f1.len) l (by omega)
  have hk2 := nb _ _ _ hk1
  have hlt := (List.getElem?_eq_some_iff.1 hk2).1
  refine ⟨buf, H1, out', H2, e1, hk1, ha1.live, e2, hk2, ha2.live, acc_cells ha2, ⟨⟨.ptr k 0, out', by simp [hlt], .inr rfl, ha2.box hk2, hn2⟩, h.ge, ?_⟩, (f1.trans f2).trans (Frm.set h.ge _)⟩
  have := h.le; have := f1.len; have := f2.len
  simp; omega
theorem all55N {n0 k : Nat} {bs : Bs} {H : List Blk} (h : BldN n0 k bs H) (l : Bs) (hl : bs.length + l.length ≤ 200000000) :
    ∃ H', arunAll Y T97 Tryz.f55 [.ptr k 0, .str l] H = some (.tuple [.i l.length, .pv .nilIface], H') ∧ BldN n0 k (bs ++ l) H' ∧ Frm n0 k H H' := by
  obtain ⟨buf, H1, out', H2, e1, hk1, l1, e2, hk2, l2, c2, hB, hF⟩ := wrN h l hl
  have hlt := (List.getElem?_eq_some_iff.1 hk2).1
  have hx : XFn Y T97 Tryz.f55 [.ptr k 0, .str l] H (fun x => x = (.tuple [.i l.length, .pv .nilIface], H2.set k (.box (some 61) [.ptr k 0, out']))) := by
    unfold XFn Tryz.f55
    rw [enter_2 _ (by decide)]
    simp [-aAppend, -cellsOf, T97_eq, e1, hk1, e2, hk2, l1, l2, c2, cells_pv]
  obtain ⟨r, H', h1, h2⟩ := all_of_XFn (by rfl) hx
  cases h2
  exact ⟨_, h1, hB, hF⟩
theorem all97N {n0 k : Nat} {bs : Bs} {H : List Blk} (h : BldN n0 k bs H) (c : UInt8) (hl : bs.length ≤ 150000000) :
    ∃ H', arunAll Y T97 Tryz.f97 [.ptr k 0, .pv (.int .u8 (c.toNat : Nat))] H = some (.pv .nilIface, H') ∧ BldN n0 k (bs ++ [c]) H' ∧ Frm n0 k H H' := by
  obtain ⟨buf, H1, out', H2, e1, hk1, l1, e2, hk2, l2, c2, hB, hF⟩ := wrN h [c] (by simp; omega)
  have e2 : aAppend Y H1 59 59 buf (.tight 1 [[.int .u8 (c.toNat : Nat)]]) = some (out', H2) := e2
  have hlt := (List.getElem?_eq_some_iff.1 hk2).1
  have hx : XFn Y T97 Tryz.f97 [.ptr k 0, .pv (.int .u8 (c.toNat : Nat))] H (fun x => x = (.pv .nilIface, H2.set k (.box (some 61) [.ptr k 0, out']))) := by
    unfold XFn Tryz.f97
    rw [enter_2 _ (by decide)]
    simp [-aAppend, -cellsOf, T97_eq, e1, hk1, e2, hk2, l1, l2, c2, cells_pv]
  obtain ⟨r, H', h1, h2⟩ := all_of_XFn (by rfl) hx
  cases h2
  exact ⟨_, h1, hB, hF⟩
end Go.Proofs.YtkckpmcpmngiiaaGreatDoor
/- Character data, by the machine. -/
set_option linter.unusedSimpArgs false
set_option linter.unusedVariables false
set_option maxRecDepth 1000000
set_option maxHeartbeats 1000000
namespace Go.Proofs.YtkckpmcpmngiiaaGreatDoor
open Go Go.Pm Go.RowKit
/-- Character data up to a byte. -/
def Rd.chars (s : Bs) (en : Nat) : Nat → Bs → Rd → Bs × Rd
  | 0, _, g => ([], g)
  | f + 1, acc, g => match s[g.at']? with
    | none => ([], ⟨g.at', g.n, 35⟩)
    | some b => if b.toNat = en then (acc, g) else if b.toNat = 60 then ([], ⟨g.at', g.n, 13⟩) else if b.toNat = 38 then
        (if entI s g ents 0 = -1 then ([], ⟨g.at', g.n, 32⟩) else match ents[(entI s g ents 0).toNat]? with
          | some x => Rd.chars s en f (acc ++ x.2) ⟨g.at' + x.1.length, g.n, g.e⟩
          | none => ([], g))
      else Rd.chars s en f (acc ++ [b]) ⟨g.at' + 1, g.n, g.e⟩
theorem entI_some {s : Bs} {g : Rd} : ∀ {l : List (Bs × Bs)} {i : Nat}, entI s g l i ≠ -1 → ∃ q x, entI s g l i = ((i + q : Nat) : Int) ∧ l[q]? = some x ∧ g.sees s x.1 = true
  | [], i, h => absurd rfl h
  | a :: r, i, h => by
    unfold entI at h ⊢
    by_cases hs : g.sees s a.1 = true
    · rw [if_pos hs]; exact ⟨0, a, by simp, rfl, hs⟩
    · rw [if_neg hs] at h ⊢
      obtain ⟨q, x, h1, h2, h3⟩ := entI_some h
      exact ⟨q + 1, x, by rw [h1]; omega, by simpa using h2, h3⟩
theorem sees_len {s p : Bs} {g : Rd} (h : g.sees s p = true) : p.length ≤ s.length - g.at' := by
  unfold Rd.sees hasPre at h
  simp only [Bool.and_eq_true, decide_eq_true_eq, List.length_drop] at h
  exact h.2.1
theorem ents_len {q : Nat} {x : Bs × Bs} (h : ents[q]? = some x) : x.2.length ≤ x.1.length ∧ 1 ≤ x.1.length := by
  have hq : q < 7 := (List.getElem?_eq_some_iff.1 h).1
  have : ∀ q : Fin 7, ∀ x, ents[q.val]? = some x → x.2.length ≤ x.1.length ∧ 1 ≤ x.1.length := by
    intro q x h
    match q with
    | 0 => cases h; decide
    | 1 => cases h; decide
    | 2 => cases h; decide
    | 3 => cases h; decide
    | 4 => cases h; decide
    | 5 => cases h; decide
    | 6 => cases h; decide
  exact this ⟨q, hq⟩ x h
noncomputable def T77 : FuncId → Option Pm.Spec := tab [(37, .heap A37), (35, .heap (stringF 5)), (55, .heap (arunAll Y T97 Tryz.f55)), (97, .heap (arunAll Y T97 Tryz.f97)), (95, .pure false F95), (94, .heap A94)]
theorem T77_eq (g : Nat) : T77 g = tab [(37, .heap A37), (35, .heap (stringF 5)), (55, .heap (arunAll Y T97 Tryz.f55)), (97, .heap (arunAll Y T97 Tryz.f97)), (95, .pure false F95), (94, .heap A94)] g := rfl
/-- What stood at the start still stands, but the reader. -/
def FrK (k : Nat) (H0 H : List Blk) : Prop := H0.length ≤ H.length ∧ ∀ j, j < H0.length → j ≠ k → H[j]? = H0[j]?
theorem FrK.set {k : Nat} {H0 H : List Blk} (h : FrK k H0 H) (b : Blk) : FrK k H0 (H.set k b) := ⟨by simpa using h.1, fun j hj hk => by rw [List.getElem?_set_ne (Ne.symm hk)]; exact h.2 j hj hk⟩
theorem FrK.more {k : Nat} {H0 H : List Blk} (h : FrK k H0 H) (G : List Blk) : FrK k H0 (H ++ G) := ⟨by have := h.1; simp; omega, fun j hj hk => by rw [List.getElem?_append_left (by have := h.1; omega)]; exact h.2 j hj hk⟩
theorem FrK.frm {k kc : Nat} {H0 H H' : List Blk} (h : FrK k H0 H) (hf : Frm H0.length kc H H') : FrK k H0 H' := ⟨Nat.le_trans h.1 hf.len, fun j hj hk => by rw [hf.old j hj]; exact h.2 j hj hk⟩
theorem loop77e {F : List Fr} {P : SV × List Blk → Prop} {k kb kc : Nat} {s : Bs} {g : Rd} {en : Nat} {H : List Blk} (hk : H[k]? = some (rb s g)) (hb : H[kb]? = some (.box (some 64) [.ptr k 0])) (he : g.e ≠ 0)
    (hx : X Y T77 [.tmp 4] F (.exit 0) ⟨mk 117 .J [], H⟩ P) :
    X Y T77 [.tmp 4] F (.loop (loopN Tryz.f77 0)) ⟨mk 117 .J [(1, .pv (.int .u8 (en : Nat))), (2, .ptr kb 0), (5, .ptr kc 0)], H⟩ P := by
  have c1 : ¬ ((g.e : Nat) : Int) = 0 := by omega
  apply X_loop_of
  · simp only [loopN, Tryz.f77, loopsOf, List.nil_append, List.append_nil, List.cons_append, List.getD_cons_succ, List.getD_cons_zero]; rfl
  simp [-getElem?_pos, List.getElem?_cons_zero, List.getElem?_cons_succ, hk, hb, c1, he, beqZ, bneZ]
  refine X_keep hx (by simp)
theorem loop77 {F : List Fr} {P : SV × List Blk → Prop} {k kb kc : Nat} {s : Bs} {en : Nat} {H0 : List Blk} (hen : en < 256) (hs : s.length ≤ 8000000) (hk0 : k < H0.length) (hkb : H0.length ≤ kb) (hbc : kb ≠ kc) : ∀ (f : Nat) (acc : Bs) (g : Rd) (H : List Blk), s.length - g.at' < f → g.e = 0 → g.at' ≤ s.length → acc.length ≤ g.at' →
    H[k]? = some (rb s g) → H[kb]? = some (.box (some 64) [.ptr k 0]) → BldN H0.length kc acc H → FrK k H0 H →
    (∀ H', FrK k H0 H' → H'[k]? = some (rb s (g.chars s en f acc).2) → P (.str (g.chars s en f acc).1, H')) →
    (∀ H', FrK k H0 H' → H'[k]? = some (rb s (g.chars s en f acc).2) → (g.chars s en f acc).1 = [] → X Y T77 [.tmp 4] F (.exit 0) ⟨mk 117 .J [], H'⟩ P) →
    X Y T77 [.tmp 4] F (.loop (loopN Tryz.f77 0)) ⟨mk 117 .J [(1, .pv (.int .u8 (en : Nat))), (2, .ptr kb 0), (5, .ptr kc 0)], H⟩ P := by
  intro f
  induction f with
  | zero => intro acc g H h; omega
  | succ f ih =>
    intro acc g H hf he ha hacc hk hb hB hF hp hx
    obtain ⟨a, n, e⟩ := g
    simp only at he ha hacc hf
    subst he
    have hkc := hB.lt
    have hklt := (List.getElem?_eq_some_iff.1 hk).1
    have hblt := (List.getElem?_eq_some_iff.1 hb).1
    have hge := hB.ge
    have n1 : k ≠ kb := by omega
    have n2 : k ≠ kc := by omega
    have hk1 : H[k]? = some (.box (some 66) [.pv (.str s), .i (a : Nat), .i (n : Nat), .i 0]) := hk
    have fin : ∀ (er : Nat), er ≠ 0 → Rd.chars s en (f + 1) acc ⟨a, n, 0⟩ = ([], ⟨a, n, er⟩) → ∀ H2, H2 = H.set k (rb s ⟨a, n, er⟩) ∨ (∃ G, H2 = (H ++ G).set k (rb s ⟨a, n, er⟩)) →
        X Y T77 [.tmp 4] F (.loop (loopN Tryz.f77 0)) ⟨mk 117 .J [(1, .pv (.int .u8 (en : Nat))), (2, .ptr kb 0), (5, .ptr kc 0)], H2⟩ P := by
      intro er her hch H2 h2
      rw [hch] at hx
      have hFr : FrK k H0 H2 := by
        rcases h2 with rfl | ⟨G, rfl⟩
        · exact hF.set _
        · exact (hF.more G).set _
      have hkk : H2[k]? = some (rb s ⟨a, n, er⟩) := by
        rcases h2 with rfl | ⟨G, rfl⟩
        · exact List.getElem?_set_self hklt
        · exact List.getElem?_set_self (by simp; omega)
      have hbb : H2[kb]? = some (.box (some 64) [.ptr k 0]) := by
        rcases h2 with rfl | ⟨G, rfl⟩
        · rw [List.getElem?_set_ne n1]; exact hb
        · rw [List.getElem?_set_ne n1, List.getElem?_append_left hblt]; exact hb
      exact loop77e hkk hbb her (hx H2 hFr hkk rfl)
    apply X_loop_of
    · simp only [loopN, Tryz.f77, loopsOf, List.nil_append, List.append_nil, List.cons_append, List.getD_cons_succ, List.getD_cons_zero]; rfl
    by_cases hl : a = s.length
    · have c3 : ((a : Nat) : Int) = (s.length : Nat) := by omega
      have hn : s[a]? = none := List.getElem?_eq_none (by omega)
      have f1 : A37 [.ptr k 0, .i (a : Nat), .i 35] H = some (.tuple [], H.set k (rb s ⟨a, n, 35⟩)) := all37 hk a 35
      have hch : Rd.chars s en (f + 1) acc ⟨a, n, 0⟩ = ([], ⟨a, n, 35⟩) := by simp only [Rd.chars, hn]
      rw [c3] at f1
      simp [-getElem?_pos, List.getElem?_cons_zero, List.getElem?_cons_succ, T77_eq, hk1, hb, c3, f1, beqZ, bneZ]
      refine X_keep (fin 35 (by decide) hch _ (.inl rfl)) (by simp)
    have c3 : ¬ ((a : Nat) : Int) = (s.length : Nat) := by omega
    have hi : a < s.length := by omega
    obtain ⟨b, hc⟩ : ∃ b, s[a]? = some b := ⟨_, List.getElem?_eq_getElem hi⟩
    by_cases h1 : b.toNat = en
    · have c4 : ((b.toNat : Nat) : Int) = (en : Nat) := by omega
      have hch : Rd.chars s en (f + 1) acc ⟨a, n, 0⟩ = (acc, ⟨a, n, 0⟩) := by simp only [Rd.chars, hc]; rw [if_pos h1]
      have f1 := str_at hB.bld
      rw [hch] at hp
      simp [-getElem?_pos, List.getElem?_cons_zero, List.getElem?_cons_succ, T77_eq, hk1, hb, c3, hl, hi, hc, c4, f1, beqZ, bneZ]
      exact hp H hF hk
    have c4 : ¬ ((b.toNat : Nat) : Int) = (en : Nat) := by omega
    by_cases h2 : b.toNat = 60
    · have c5 : ((b.toNat : Nat) : Int) = 60 := by omega
      have f1 : A37 [.ptr k 0, .i (a : Nat), .i 13] H = some (.tuple [], H.set k (rb s ⟨a, n, 13⟩)) := all37 hk a 13
      have hch : Rd.chars s en (f + 1) acc ⟨a, n, 0⟩ = ([], ⟨a, n, 13⟩) := by simp only [Rd.chars, hc]; rw [if_neg h1, if_pos h2]
      rw [c5] at c4
      simp [-getElem?_pos, List.getElem?_cons_zero, List.getElem?_cons_succ, T77_eq, hk1, hb, c3, hl, hi, hc, c4, c5, f1, beqZ, bneZ]
      refine X_keep (fin 13 (by decide) hch _ (.inl rfl)) (by simp)
    have c5 : ¬ ((b.toNat : Nat) : Int) = 60 := by omega
    by_cases h3 : b.toNat = 38
    · have c6 : ((b.toNat : Nat) : Int) = 38 := by omega
      rw [c6] at c4 c5
      obtain ⟨G, f2⟩ := all94 hk hb (fun _ => ha) (l := ents) (by decide)
      have f3 : F95 [] = some (.tight 2 (ents.map atRow)) := rfl
      have hkG : (H ++ G)[k]? = some (rb s ⟨a, n, 0⟩) := by rw [List.getElem?_append_left hklt]; exact hk
      have hkG1 : (H ++ G)[k]? = some (.box (some 66) [.pv (.str s), .i (a : Nat), .i (n : Nat), .i 0]) := hkG
      have hbG : (H ++ G)[kb]? = some (.box (some 64) [.ptr k 0]) := by rw [List.getElem?_append_left hblt]; exact hb
      by_cases h4 : entI s ⟨a, n, 0⟩ ents 0 = -1
      · have hch : Rd.chars s en (f + 1) acc ⟨a, n, 0⟩ = ([], ⟨a, n, 32⟩) := by simp only [Rd.chars, hc]; rw [if_neg h1, if_neg h2, if_pos h3, if_pos h4]
        have f1 : A37 [.ptr k 0, .i (a : Nat), .i 32] (H ++ G) = some (.tuple [], (H ++ G).set k (rb s ⟨a, n, 32⟩)) := all37 hkG a 32
        rw [h4] at f2
        generalize ents.map atRow = rows at *
        simp [-getElem?_pos, List.getElem?_cons_zero, List.getElem?_cons_succ, T77_eq, hk1, hb, c3, hl, hi, hc, c4, c5, c6, f2, f3, hkG1, hbG, f1, beqZ, bneZ]
        refine X_keep (fin 32 (by decide) hch _ (.inr ⟨G, rfl⟩)) (by simp)
      · obtain ⟨q, x, e1, e2, e3⟩ := entI_some h4
        rw [Nat.zero_add] at e1
        have hxl := sees_len e3
        simp only at hxl
        obtain ⟨xl1, xl2⟩ := ents_len e2
        have hat := ent_at e2
        have hch : Rd.chars s en (f + 1) acc ⟨a, n, 0⟩ = Rd.chars s en f (acc ++ x.2) ⟨a + x.1.length, n, 0⟩ := by
          simp only [Rd.chars, hc]
          rw [if_neg h1, if_neg h2, if_pos h3, if_neg h4, e1, Int.toNat_natCast, e2]
        rw [hch] at hp hx
        rw [e1] at f2
        have c7 : ¬ ((q : Nat) : Int) < 0 := by omega
        obtain ⟨H2, f4, hB2, hF2⟩ := all55N (hB.more G) x.2 (by omega)
        have hk2 : H2[k]? = some (.box (some 66) [.pv (.str s), .i (a : Nat), .i (n : Nat), .i 0]) := by rw [hF2.old k hk0]; exact hkG1
        have hb2 : H2[kb]? = some (.box (some 64) [.ptr k 0]) := hF2.box kb _ _ hbc hbG
        have hk2lt := (List.getElem?_eq_some_iff.1 hk2).1
        have g1 : aIndexAddr Y 133 (.cptr [.str x.1, .str x.2]) 1 = some (.cptr [.str x.2]) := rfl
        have g0 : aIndexAddr Y 133 (.cptr [.str x.1, .str x.2]) 0 = some (.cptr [.str x.1, .str x.2]) := rfl
        have w1 : IntKind.i64.wrap (((a : Nat) : Int) + (x.1.length : Nat)) = ((a + x.1.length : Nat) : Int) := by rw [wrap64 (by omega) (by omega)]; omega
        generalize ents.map atRow = rows at *
        simp [-Int.natCast_add, -Int.not_lt, -aIndexAddr, -getElem?_pos, List.getElem?_cons_zero, List.getElem?_cons_succ, T77_eq, hk1, hb, c3, hl, hi, hc, c4, c5, c6, f2, f3, c7, hat, g0, g1, f4, hk2, hb2, hk2lt, w1, beqZ, bneZ]
        refine X_keep (ih (acc ++ x.2) ⟨a + x.1.length, n, 0⟩ (H2.set k (rbx s (a + x.1.length) n 0)) (by simp only; omega) rfl (by simp only; omega) (by simp only [List.length_append]; omega) (by rw [List.getElem?_set_self hk2lt]) (by rw [List.getElem?_set_ne n1]; exact hb2) (hB2.setBox hk2 n2) (((hF.more G).frm hF2).set _) hp hx) (by simp)
    have c6 : ¬ ((b.toNat : Nat) : Int) = 38 := by omega
    have hch : Rd.chars s en (f + 1) acc ⟨a, n, 0⟩ = Rd.chars s en f (acc ++ [b]) ⟨a + 1, n, 0⟩ := by
      simp only [Rd.chars, hc]; rw [if_neg h1, if_neg h2, if_neg h3]
    rw [hch] at hp hx
    obtain ⟨H2, f4, hB2, hF2⟩ := all97N hB b (by omega)
    have hk2 : H2[k]? = some (.box (some 66) [.pv (.str s), .i (a : Nat), .i (n : Nat), .i 0]) := by rw [hF2.old k hk0]; exact hk1
    have hb2 : H2[kb]? = some (.box (some 64) [.ptr k 0]) := hF2.box kb _ _ hbc hb
    have hk2lt := (List.getElem?_eq_some_iff.1 hk2).1
    have q3 := next_i (m := a) (by omega)
    simp [-Int.natCast_add, -Int.not_lt, -getElem?_pos, List.getElem?_cons_zero, List.getElem?_cons_succ, T77_eq, hk1, hb, c3, hl, hi, hc, c4, c5, c6, f4, hk2, hb2, hk2lt, q3, beqZ, bneZ]
    refine X_keep (ih (acc ++ [b]) ⟨a + 1, n, 0⟩ (H2.set k (rbx s (a + 1) n 0)) (by simp only; omega) rfl (by simp only; omega) (by simp only [List.length_append, List.length_singleton]; omega) (by rw [List.getElem?_set_self hk2lt]) (by rw [List.getElem?_set_ne n1]; exact hb2) (hB2.setBox hk2 n2) ((hF.frm hF2).set _) hp hx) (by simp)
end Go.Proofs.YtkckpmcpmngiiaaGreatDoor
/- Character data as a contract; an attribute's name that stands already. -/
set_option linter.unusedSimpArgs false
set_option linter.unusedVariables false
set_option maxRecDepth 1000000
set_option maxHeartbeats 1000000
namespace Go.Proofs.YtkckpmcpmngiiaaGreatDoor
open Go Go.Pm Go.RowKit
def Rd.charsT (s : Bs) (en : Nat) (g : Rd) : Bs × Rd := if g.e ≠ 0 then ([], g) else g.chars s en (s.length - g.at' + 1) []
theorem x77 {H : List Blk} {k : Nat} {s : Bs} {g : Rd} (hk : H[k]? = some (rb s g)) (hs : s.length ≤ 8000000) (hg : g.e = 0 → g.at' ≤ s.length) {en : Nat} (hen : en < 256) :
    XFn Y T77 Tryz.f77 [.ptr k 0, .pv (.int .u8 (en : Nat))] H (fun x => x.1 = .str (g.charsT s en).1 ∧ FrK k H x.2 ∧ x.2[k]? = some (rb s (g.charsT s en).2)) := by
  unfold XFn Tryz.f77
  rw [enter_2 _ (by decide)]
  have hklt := (List.getElem?_eq_some_iff.1 hk).1
  have hF : FrK k H (H ++ [.box (some 64) [.ptr k 0], .box (some 61) [.pv .nilPtr, .pv .nilSlice]]) := FrK.more ⟨Nat.le_refl _, fun _ _ _ => rfl⟩ _
  have hk2 : (H ++ [.box (some 64) [.ptr k 0], .box (some 61) [.pv .nilPtr, .pv .nilSlice]])[k]? = some (rb s g) := by rw [List.getElem?_append_left hklt]; exact hk
  have hb2 : (H ++ [.box (some 64) [.ptr k 0], .box (some 61) [.pv .nilPtr, .pv .nilSlice]])[H.length]? = some (.box (some 64) [.ptr k 0]) := get_2a _ _ _
  simp [-outR]
  by_cases he : g.e = 0
  · have ec : g.charsT s en = g.chars s en (s.length - g.at' + 1) [] := by unfold Rd.charsT; rw [if_neg (by simp [he])]
    rw [ec]
    have hB : BldN H.length (H.length + 1) [] (H ++ [.box (some 64) [.ptr k 0], .box (some 61) [.pv .nilPtr, .pv .nilSlice]]) :=
      ⟨⟨.pv .nilPtr, .pv .nilSlice, get_2b _ _ _, .inl rfl, .inl ⟨rfl, rfl⟩, fun _ _ _ _ h => by cases h⟩, by omega, by simp⟩
    refine X_keep (loop77 hen hs hklt (Nat.le_refl _) (by omega) (s.length - g.at' + 1) [] g _ (by omega) he (hg he) (by simp) hk2 hb2 hB hF (fun H' h1 h2 => ⟨rfl, h1, h2⟩) (fun H' h1 h2 h3 => ?_)) (by simp)
    simp [h3]
    exact ⟨h1, h2⟩
  · have ec : g.charsT s en = ([], g) := by unfold Rd.charsT; rw [if_pos he]
    rw [ec]
    refine X_keep (loop77e (kc := H.length + 1) (en := en) hk2 hb2 he ?_) (by simp)
    simp
    exact ⟨hF, hk2⟩
noncomputable def A77 : List SV → List Blk → Option (SV × List Blk) := arunAll Y T77 Tryz.f77
theorem meets77 (W0 : World) : Enterable Tryz.prog 77 ∧ Meets Tryz.prog W0 77 (specFn (.heap A77)) := meets_heap env (tok_cons (meets37 W0) (tok_cons (meets35 W0) (tok_cons (meets55 W0) (tok_cons (meets97 W0) (tok_cons (meets95 W0) (tok_cons (meets94 W0) tok_nil)))))) mixed Tryz.func77 (by kernel_rfl) (by kernel_rfl)
theorem all77 {H : List Blk} {k : Nat} {s : Bs} {g : Rd} (hk : H[k]? = some (rb s g)) (hs : s.length ≤ 8000000) (hg : g.e = 0 → g.at' ≤ s.length) {en : Nat} (hen : en < 256) :
    ∃ H', A77 [.ptr k 0, .pv (.int .u8 (en : Nat))] H = some (.str (g.charsT s en).1, H') ∧ FrK k H H' ∧ H'[k]? = some (rb s (g.charsT s en).2) := by
  obtain ⟨r, H', h1, h2, h3, h4⟩ := all_of_XFn (by rfl) (x77 hk hs hg hen)
  simp only at h2 h3 h4
  subst h2
  exact ⟨H', h1, h3, h4⟩
/-- The closure that compares an attribute's name. -/
theorem x78 {H : List Blk} {kk : Nat} {n b1 b2 : Bs} (hk : H[kk]? = some (.box (some 9) [.pv (.str n)])) :
    XFn Y T0 Tryz.f78 [.agg [.pv (.str b1), .pv (.str b2)], .ptr kk 0] H (fun x => x = (.bool (decide (b1 = n)), H ++ [.box (some 48) [.pv (.str b1), .pv (.str b2)]])) := by
  unfold XFn Tryz.f78
  rw [enter_2 _ (by decide)]
  have h2 := app_at (c := .box (some 48) [.pv (.str b1), .pv (.str b2)]) hk
  simp [-getElem?_pos, List.getElem?_cons_zero, List.getElem?_cons_succ, h2, get_last]
  by_cases h : b1 = n <;> simp [h]
noncomputable def A78 : List SV → List Blk → Option (SV × List Blk) := arunAll Y T0 Tryz.f78
theorem meets78 (W0 : World) : Enterable Tryz.prog 78 ∧ Meets Tryz.prog W0 78 (specFn (.heap A78)) := meets_heap env tok_nil mixed Tryz.func78 (by kernel_rfl) (by kernel_rfl)
theorem all78 {H : List Blk} {kk : Nat} {n b1 b2 : Bs} (hk : H[kk]? = some (.box (some 9) [.pv (.str n)])) :
    A78 [.agg [.pv (.str b1), .pv (.str b2)], .ptr kk 0] H = some (.bool (decide (b1 = n)), H ++ [.box (some 48) [.pv (.str b1), .pv (.str b2)]]) := by
  obtain ⟨r, H', h1, h2⟩ := all_of_XFn (by rfl) (x78 (b1 := b1) (b2 := b2) hk)
  cases h2; exact h1
noncomputable def T82b : FuncId → Option Pm.Spec := tab [(78, .heap A78)]
theorem T82b_eq (g : Nat) : T82b g = tab [(78, .heap A78)] g := rfl
noncomputable def A82b : List SV → List Blk → Option (SV × List Blk) := arunAll Y T82b Tryz.f82
theorem meets82b (W0 : World) : Enterable Tryz.prog 82 ∧ Meets Tryz.prog W0 82 (specFn (.heap A82b)) := meets_heap env (tok_cons (meets78 W0) tok_nil) mixed Tryz.func82 (by kernel_rfl) (by kernel_rfl)
theorem loop82b {F : List Fr} {P : SV × List Blk → Prop} {kk : Nat} {n : Bs} {p : SV} {l : List (Bs × Bs)} (hat0 : ∀ (i : Nat) (x : Bs × Bs), l[i]? = some x → aIndexAddr Y 30 p (i : Nat) = some (.cptr [.str x.1, .str x.2])) (hlv : Pm.live p = some p) (hl : l.length ≤ 1000000) : ∀ (r i : Nat) (H : List Blk), i + r = l.length → H[kk]? = some (.box (some 9) [.pv (.str n)]) →
    (hasA (l.drop i) n = true → ∀ (j : Nat) G, P (.i j, H ++ G)) → (hasA (l.drop i) n = false → ∀ G, X Y T82b [.tmp 4] F (.exit 0) ⟨mk 19 .J [], H ++ G⟩ P) →
    X Y T82b [.tmp 4] F (.loop (loopN Tryz.f82 0)) ⟨mk 19 .J [(0, p), (1, .clo 78 [.ptr kk 0]), (7, .i (l.length : Nat)), (8, .i (i : Nat))], H⟩ P := by
  intro r
  induction r with
  | zero =>
    intro i H e hk hp1 hx
    have e1 : i = l.length := by omega
    subst e1
    have hx := hx (by rw [List.drop_of_length_le (Nat.le_refl _)]; rfl) []
    rw [List.append_nil] at hx
    apply X_loop_of
    · simp only [loopN, Tryz.f82, loopsOf, List.nil_append, List.append_nil, List.cons_append, List.getD_cons_succ, List.getD_cons_zero]; rfl
    simp
    refine X_keep hx (by simp)
  | succ r ih =>
    intro i H e hk hp1 hx
    have hi : i < l.length := by omega
    obtain ⟨x, hxi⟩ : ∃ x, l[i]? = some x := ⟨_, List.getElem?_eq_getElem hi⟩
    have hat := hat0 i x hxi
    have q3 := next_i (m := i) (by omega)
    have c4 : ((i : Nat) : Int) < (l.length : Nat) := by omega
    have hall := all78 (b1 := x.1) (b2 := x.2) hk
    rw [hasA_drop n hxi] at hp1 hx
    have hk2 := app_at (c := .box (some 48) [.pv (.str x.1), .pv (.str x.2)]) hk
    apply X_loop_of
    · simp only [loopN, Tryz.f82, loopsOf, List.nil_append, List.append_nil, List.cons_append, List.getD_cons_succ, List.getD_cons_zero]; rfl
    by_cases hb : x.1 = n
    · rw [decide_eq_true hb] at hall hp1
      simp [-Int.natCast_add, -Int.not_lt, -Int.not_le, -aIndexAddr, -getElem?_pos, T82b_eq, hlv, q3, c4, hi, hat, hall]
      exact hp1 rfl i _
    · rw [decide_eq_false hb] at hall hp1 hx
      simp [-Int.natCast_add, -Int.not_lt, -Int.not_le, -aIndexAddr, -getElem?_pos, T82b_eq, hlv, q3, c4, hi, hat, hall]
      refine X_keep (ih (i + 1) _ (by omega) hk2 (fun h j G => ?_) (fun h G => ?_)) ?_
      · rw [List.append_assoc]; exact hp1 (by simpa using h) j _
      · rw [List.append_assoc]; exact hx (by simpa using h) _
      · simp
end Go.Proofs.YtkckpmcpmngiiaaGreatDoor
/- Attributes that stand already; where the reader may be. -/
set_option linter.unusedSimpArgs false
set_option linter.unusedVariables false
set_option maxRecDepth 1000000
set_option maxHeartbeats 1000000
namespace Go.Proofs.YtkckpmcpmngiiaaGreatDoor
open Go Go.Pm Go.RowKit
/-- A row of attributes, as an argument. -/
structure AtA (p : SV) (l : List (Bs × Bs)) : Prop where
  at' : ∀ (i : Nat) (x : Bs × Bs), l[i]? = some x → aIndexAddr Y 30 p (i : Nat) = some (.cptr [.str x.1, .str x.2])
  len : aLen Y 30 p = some l.length
  live : Pm.live p = some p
theorem AtA.acc {H : List Blk} {p : SV} {l : List (Bs × Bs)} (h : Acc 48 2 H (l.map atRow) p) : AtA p l := by
  rcases h with ⟨h1, rfl⟩ | ⟨h1, kt, v, rfl, h2⟩
  · have : l = [] := by simpa using h1
    subst this
    exact ⟨fun i x h => by simp at h, rfl, rfl⟩
  · refine ⟨fun i x h => ?_, by simp [aLen, kindOf, sliceElems], rfl⟩
    have : (l.map atRow)[i]? = some (atRow x) := by simp [h]
    simp [aIndexAddr, kindOf, aElem, this, -getElem?_pos]; rfl
theorem x82b {H : List Blk} {kk : Nat} {n : Bs} {p : SV} {l : List (Bs × Bs)} (hp : AtA p l) (hl : l.length ≤ 1000000) (hk : H[kk]? = some (.box (some 9) [.pv (.str n)])) :
    XFn Y T82b Tryz.f82 [p, .clo 78 [.ptr kk 0]] H (fun x => (∃ j : Int, x.1 = .i j ∧ decide (0 ≤ j) = hasA l n) ∧ ∃ G, x.2 = H ++ G) := by
  unfold XFn Tryz.f82
  rw [enter_2 _ (by decide)]
  have hlen := hp.len
  have hlv := hp.live
  simp [-outR, -aLen, hlen, hlv]
  refine X_keep (loop82b (n := n) hp.at' hp.live hl l.length 0 H (by omega) hk (fun h j G => ?_) (fun h G => ?_)) ?_
  · rw [List.drop_zero] at h
    exact ⟨⟨j, rfl, by rw [h]; simp⟩, G, rfl⟩
  · rw [List.drop_zero] at h
    simp [h]
  · simp
theorem all82b {H : List Blk} {kk : Nat} {n : Bs} {p : SV} {l : List (Bs × Bs)} (hp : AtA p l) (hl : l.length ≤ 1000000) (hk : H[kk]? = some (.box (some 9) [.pv (.str n)])) :
    ∃ (j : Int) (G : List Blk), A82b [p, .clo 78 [.ptr kk 0]] H = some (.i j, H ++ G) ∧ decide (0 ≤ j) = hasA l n := by
  obtain ⟨r, H', h1, ⟨j, h2, h3⟩, G, h4⟩ := all_of_XFn (by rfl) (x82b hp hl hk)
  simp only at h2 h4
  subst h2 h4
  exact ⟨j, G, h1, h3⟩
noncomputable def T68b : FuncId → Option Pm.Spec := tab [(82, .heap A82b)]
theorem T68b_eq (g : Nat) : T68b g = tab [(82, .heap A82b)] g := rfl
noncomputable def A68b : List SV → List Blk → Option (SV × List Blk) := arunAll Y T68b Tryz.f68
theorem meets68b (W0 : World) : Enterable Tryz.prog 68 ∧ Meets Tryz.prog W0 68 (specFn (.heap A68b)) := meets_heap env (tok_cons (meets82b W0) tok_nil) mixed Tryz.func68 (by kernel_rfl) (by kernel_rfl)
theorem x68b {H : List Blk} {kk : Nat} {n : Bs} {p : SV} {l : List (Bs × Bs)} (hp : AtA p l) (hl : l.length ≤ 1000000) (hk : H[kk]? = some (.box (some 9) [.pv (.str n)])) :
    XFn Y T68b Tryz.f68 [p, .clo 78 [.ptr kk 0]] H (fun x => x.1 = .bool (hasA l n) ∧ ∃ G, x.2 = H ++ G) := by
  unfold XFn Tryz.f68
  rw [enter_2 _ (by decide)]
  obtain ⟨j, G, h1, h2⟩ := all82b hp hl hk
  have hlv := hp.live
  simp [T68b_eq, hlv, h1, ← h2]
theorem all68b {H : List Blk} {kk : Nat} {n : Bs} {p : SV} {l : List (Bs × Bs)} (hp : AtA p l) (hl : l.length ≤ 1000000) (hk : H[kk]? = some (.box (some 9) [.pv (.str n)])) :
    ∃ G : List Blk, A68b [p, .clo 78 [.ptr kk 0]] H = some (.bool (hasA l n), H ++ G) := by
  obtain ⟨r, H', h1, h2, G, h4⟩ := all_of_XFn (by rfl) (x68b hp hl hk)
  simp only at h2 h4
  subst h2 h4
  exact ⟨G, h1⟩
/-- The reader is within the text, or has failed. -/
def Rd.ok' (s : Bs) (g : Rd) : Prop := g.e = 0 → g.at' ≤ s.length
theorem ok_fail {s : Bs} {g : Rd} (h : g.ok' s) (p e : Nat) (he : e ≠ 0) : (g.fail p e).ok' s := by
  unfold Rd.ok' Rd.fail at *
  split
  · intro h1; exact absurd h1 he
  · exact h
theorem ok_blanks {s : Bs} {g : Rd} (h : g.ok' s) : (g.blanks s).ok' s := blanks_ok h
theorem ok_expect {s : Bs} {g : Rd} (h : g.ok' s) (c : Nat) : (g.expect s c).ok' s := by
  unfold Rd.ok' Rd.expect at *
  split
  · exact h
  · split
    · intro h1; cases h1
    · rename_i b hb
      have := (List.getElem?_eq_some_iff.1 hb).1
      split
      · intro _; exact this
      · intro h1; cases h1
theorem ok_name {s : Bs} {g : Rd} (h : g.ok' s) : (g.name s).2.ok' s := by
  unfold Rd.ok' Rd.name at *
  split
  · exact h
  · split
    · intro h1; cases h1
    · rename_i b hb
      have := (List.getElem?_eq_some_iff.1 hb).1
      split
      · intro _; exact skip_le (by omega)
      · intro h1; cases h1
theorem ok_chars {s : Bs} {en : Nat} : ∀ (f : Nat) (acc : Bs) (g : Rd), g.e = 0 → g.at' ≤ s.length → (g.chars s en f acc).2.ok' s
  | 0, acc, g, he, ha => fun _ => by simp only [Rd.chars]; exact ha
  | f + 1, acc, g, he, ha => by
    simp only [Rd.chars]
    split
    · intro h1; cases h1
    · rename_i b hb
      have hlt := (List.getElem?_eq_some_iff.1 hb).1
      split
      · exact fun _ => ha
      · split
        · intro h1; cases h1
        · split
          · split
            · intro h1; cases h1
            · rename_i hne
              split
              · rename_i x hx
                obtain ⟨q, y, e1, e2, e3⟩ := entI_some hne
                rw [Nat.zero_add] at e1
                rw [e1, Int.toNat_natCast, e2] at hx
                cases hx
                have := sees_len e3
                exact ok_chars f _ _ he (by simp only; omega)
              · exact fun _ => ha
          · exact ok_chars f _ _ he (by simp only; omega)
theorem ok_charsT {s : Bs} {en : Nat} {g : Rd} (h : g.ok' s) : (g.charsT s en).2.ok' s := by
  unfold Rd.charsT
  split
  · exact h
  · rename_i he
    have he : g.e = 0 := by simpa using he
    exact ok_chars _ _ _ he (h he)
end Go.Proofs.YtkckpmcpmngiiaaGreatDoor
/- An attribute is read, by the machine. -/
set_option linter.unusedSimpArgs false
set_option linter.unusedVariables false
set_option maxRecDepth 1000000
set_option maxHeartbeats 1000000
namespace Go.Proofs.YtkckpmcpmngiiaaGreatDoor
open Go Go.Pm Go.RowKit
def Rd.attr1 (s : Bs) (g : Rd) (l : List (Bs × Bs)) : Rd :=
  if 32 < (g.name s).1.length then (g.name s).2.fail g.at' 12 else if l.length = 32 then (g.name s).2.fail g.at' 9 else if hasA l (g.name s).1 = true then (g.name s).2.fail g.at' 7 else (g.name s).2
def Rd.attr2 (s : Bs) (g2 : Rd) : Rd := (((g2.blanks s).expect s 61).blanks s)
def Rd.attr3 (s : Bs) (g2 : Rd) : Bs × Rd := ((Rd.attr2 s g2).expect s 34).charsT s 34
def Rd.attr4 (s : Bs) (g2 : Rd) : Rd := ((if 4096 < (Rd.attr3 s g2).1.length then (Rd.attr3 s g2).2.fail (Rd.attr2 s g2).at' 5 else (Rd.attr3 s g2).2)).expect s 34
noncomputable def T62 : FuncId → Option Pm.Spec := tab [(60, .heap A60), (37, .heap A37), (68, .heap A68b), (56, .heap A56), (59, .heap A59), (77, .heap A77)]
theorem T62_eq (g : Nat) : T62 g = tab [(60, .heap A60), (37, .heap A37), (68, .heap A68b), (56, .heap A56), (59, .heap A59), (77, .heap A77)] g := rfl
theorem ok_attr1 {s : Bs} {g : Rd} (h : g.ok' s) (l : List (Bs × Bs)) : (g.attr1 s l).ok' s := by
  unfold Rd.attr1
  split
  · exact ok_fail (ok_name h) _ _ (by decide)
  · split
    · exact ok_fail (ok_name h) _ _ (by decide)
    · split
      · exact ok_fail (ok_name h) _ _ (by decide)
      · exact ok_name h
theorem FrK.trans {k : Nat} {A B C : List Blk} (h : FrK k A B) (h' : FrK k B C) : FrK k A C := ⟨Nat.le_trans h.1 h'.1, fun j hj hk => by rw [h'.2 j (by have := h.1; omega) hk]; exact h.2 j hj hk⟩
theorem x62 {H : List Blk} {k : Nat} {s : Bs} {g : Rd} (hk : H[k]? = some (rb s g)) (hs : s.length ≤ 8000000) (hg : g.ok' s) {p : SV} {l : List (Bs × Bs)} (hp : AtA p l) (hl : l.length ≤ 1000000) :
    XFn Y T62 Tryz.f62 [.ptr k 0, p] H (fun x => x.1 = .agg [.pv (.str (g.name s).1), .pv (.str (Rd.attr3 s (g.attr1 s l)).1)] ∧ FrK k H x.2 ∧ x.2[k]? = some (rb s (Rd.attr4 s (g.attr1 s l)))) := by
  unfold XFn Tryz.f62
  rw [enter_2 _ (by decide)]
  have hklt := (List.getElem?_eq_some_iff.1 hk).1
  have hlen := hp.len
  have hlv := hp.live
  have ok1 := ok_attr1 hg l
  -- the name
  have hk0 : (H ++ [Blk.box (some 48) [.pv (.str []), .pv (.str [])]])[k]? = some (rb s g) := app_at hk
  have f0 := all60 hk0 (by omega) hg
  have hz : ((H ++ [Blk.box (some 48) [.pv (.str []), .pv (.str [])]]).set k (rb s (g.name s).2)).length = H.length + 1 := by simp
  -- the boxes
  obtain ⟨H1, hH1, a1, a2, a3, a4, a5⟩ : ∃ H1 : List Blk, H1 = (H ++ [Blk.box (some 48) [.pv (.str []), .pv (.str [])]]).set k (rb s (g.name s).2) ++ [Blk.box (some 9) [.pv (.str (g.name s).1)]] ∧ H1[k]? = some (rb s (g.name s).2) ∧ H1[H.length]? = some (Blk.box (some 48) [.pv (.str []), .pv (.str [])]) ∧
      H1[H.length + 1]? = some (Blk.box (some 9) [.pv (.str (g.name s).1)]) ∧ FrK k H H1 ∧ H1.length = H.length + 2 := by
    refine ⟨_, rfl, ?_, ?_, ?_, ?_, by simp⟩
    · rw [List.getElem?_append_left (by simp; omega)]; exact List.getElem?_set_self (by simp; omega)
    · rw [List.getElem?_append_left (by simp), List.getElem?_set_ne (by omega)]; simp
    · rw [List.getElem?_append_right (by simp)]; simp
    · exact ((FrK.more ⟨Nat.le_refl _, fun _ _ _ => rfl⟩ _).set _).more _
  -- the switch's end
  have sw : ∃ H2 : List Blk, (if 32 < (g.name s).1.length then A37 [.ptr k 0, .i (g.at' : Nat), .i 12] H1 = some (.tuple [], H2) else if l.length = 32 then A37 [.ptr k 0, .i (g.at' : Nat), .i 9] H1 = some (.tuple [], H2) else
      ∃ G, A68b [p, .clo 78 [.ptr (H.length + 1) 0]] H1 = some (.bool (hasA l (g.name s).1), H1 ++ G) ∧ (if hasA l (g.name s).1 = true then A37 [.ptr k 0, .i (g.at' : Nat), .i 7] (H1 ++ G) = some (.tuple [], H2) else H2 = H1 ++ G)) ∧
      H2[k]? = some (rb s (g.attr1 s l)) ∧ H2[H.length]? = some (Blk.box (some 48) [.pv (.str []), .pv (.str [])]) ∧ H2[H.length + 1]? = some (Blk.box (some 9) [.pv (.str (g.name s).1)]) ∧ FrK k H H2 ∧ H.length + 2 ≤ H2.length := by
    unfold Rd.attr1
    by_cases c1 : 32 < (g.name s).1.length
    · refine ⟨H1.set k (rb s ((g.name s).2.fail g.at' 12)), ?_, ?_, ?_, ?_, a4.set _, by simp; omega⟩
      · rw [if_pos c1]; exact all37 a1 g.at' 12
      · rw [if_pos c1]; exact List.getElem?_set_self (by omega)
      · rw [List.getElem?_set_ne (by omega)]; exact a2
      · rw [List.getElem?_set_ne (by omega)]; exact a3
    · by_cases c2 : l.length = 32
      · refine ⟨H1.set k (rb s ((g.name s).2.fail g.at' 9)), ?_, ?_, ?_, ?_, a4.set _, by simp; omega⟩
        · rw [if_neg c1, if_pos c2]; exact all37 a1 g.at' 9
        · rw [if_neg c1, if_pos c2]; exact List.getElem?_set_self (by omega)
        · rw [List.getElem?_set_ne (by omega)]; exact a2
        · rw [List.getElem?_set_ne (by omega)]; exact a3
      · obtain ⟨G, hG⟩ := all68b hp hl a3
        have b1 : (H1 ++ G)[k]? = some (rb s (g.name s).2) := by rw [List.getElem?_append_left (by omega)]; exact a1
        have b2 : (H1 ++ G)[H.length]? = some (Blk.box (some 48) [.pv (.str []), .pv (.str [])]) := by rw [List.getElem?_append_left (by omega)]; exact a2
        have b3 : (H1 ++ G)[H.length + 1]? = some (Blk.box (some 9) [.pv (.str (g.name s).1)]) := by rw [List.getElem?_append_left (by omega)]; exact a3
        by_cases c3 : hasA l (g.name s).1 = true
        · refine ⟨(H1 ++ G).set k (rb s ((g.name s).2.fail g.at' 7)), ?_, ?_, ?_, ?_, (a4.more G).set _, by simp; omega⟩
          · rw [if_neg c1, if_neg c2]; exact ⟨G, hG, by rw [if_pos c3]; exact all37 b1 g.at' 7⟩
          · rw [if_neg c1, if_neg c2, if_pos c3]; exact List.getElem?_set_self (by simp; omega)
          · rw [List.getElem?_set_ne (by omega)]; exact b2
          · rw [List.getElem?_set_ne (by omega)]; exact b3
        · refine ⟨H1 ++ G, ?_, ?_, b2, b3, a4.more G, by simp; omega⟩
          · rw [if_neg c1, if_neg c2]; exact ⟨G, hG, by rw [if_neg c3]⟩
          · rw [if_neg c1, if_neg c2, if_neg c3]; exact b1
  obtain ⟨H2, hsw, d1, d2, d3, d4, d5⟩ := sw
  -- the rest, of any reader
  generalize g.attr1 s l = g2 at *
  have e3 := all56 d1 (by omega) ok1
  have ok3 := ok_blanks ok1
  have hk2lt : k < H2.length := by omega
  have e4 : A59 [.ptr k 0, .pv (.int .u8 61)] (H2.set k (rb s (g2.blanks s))) = some (.tuple [], H2.set k (rb s ((g2.blanks s).expect s 61))) := by
    have := all59 (get_setk hk2lt (rb s (g2.blanks s))) (by omega) ok3 61 (by decide)
    rw [List.set_set] at this; exact this
  have ok4 := ok_expect ok3 61
  have e5 : A56 [.ptr k 0] (H2.set k (rb s ((g2.blanks s).expect s 61))) = some (.bool (decide (((g2.blanks s).expect s 61).at' < (g2.attr2 s).at')), H2.set k (rb s (g2.attr2 s))) := by
    have := all56 (get_setk hk2lt (rb s ((g2.blanks s).expect s 61))) (by omega) ok4
    rw [List.set_set] at this; exact this
  have ok5 : (g2.attr2 s).ok' s := ok_blanks ok4
  have e5k : (H2.set k (rb s (g2.attr2 s)))[k]? = some (Blk.box (some 66) [.pv (.str s), .i ((g2.attr2 s).at' : Nat), .i ((g2.attr2 s).n : Nat), .i ((g2.attr2 s).e : Nat)]) := get_setk hk2lt _
  have e6 : A59 [.ptr k 0, .pv (.int .u8 34)] (H2.set k (rb s (g2.attr2 s))) = some (.tuple [], H2.set k (rb s ((g2.attr2 s).expect s 34))) := by
    have := all59 (get_setk hk2lt (rb s (g2.attr2 s))) (by omega) ok5 34 (by decide)
    rw [List.set_set] at this; exact this
  have ok6 := ok_expect ok5 34
  obtain ⟨H7, e7, h7f, h7k⟩ := all77 (get_setk hk2lt (rb s ((g2.attr2 s).expect s 34))) hs ok6 (en := 34) (by decide)
  have e7 : A77 [.ptr k 0, .pv (.int .u8 34)] (H2.set k (rb s ((g2.attr2 s).expect s 34))) = some (.str (g2.attr3 s).1, H7) := e7
  have ok7 : (g2.attr3 s).2.ok' s := ok_charsT ok6
  have h7k : H7[k]? = some (rb s (g2.attr3 s).2) := h7k
  have k7 : k < H7.length := (List.getElem?_eq_some_iff.1 h7k).1
  have l7 := h7f.1
  simp only [List.length_set] at l7
  have u2 : H7[H.length]? = some (Blk.box (some 48) [.pv (.str []), .pv (.str [])]) := by
    rw [h7f.2 _ (by simp; omega) (by omega), List.getElem?_set_ne (by omega)]; exact d2
  have u3 : H7[H.length + 1]? = some (Blk.box (some 9) [.pv (.str (g.name s).1)]) := by
    rw [h7f.2 _ (by simp; omega) (by omega), List.getElem?_set_ne (by omega)]; exact d3
  have e8 : A37 [.ptr k 0, .i ((g2.attr2 s).at' : Nat), .i 5] H7 = some (.tuple [], H7.set k (rb s ((g2.attr3 s).2.fail (g2.attr2 s).at' 5))) := all37 h7k _ 5
  have e9 : ∀ H8 : List Blk, ∀ g8 : Rd, g8.ok' s → H8 = H7.set k (rb s g8) → A59 [.ptr k 0, .pv (.int .u8 34)] H8 = some (.tuple [], H7.set k (rb s (g8.expect s 34))) := by
    intro H8 g8 h8 e
    subst e
    have := all59 (get_setk k7 (rb s g8)) (by omega) h8 34 (by decide)
    rw [List.set_set] at this; exact this
  have fF : ∀ b : Blk, ∀ b' : Blk, FrK k H ((H7.set k b).set H.length b') := fun b b' => by
    have h1 : FrK k H (H7.set k b) := (d4.trans (FrK.trans (FrK.set ⟨Nat.le_refl _, fun _ _ _ => rfl⟩ _) h7f)).set b
    exact ⟨by simpa using h1.1, fun j hj hkj => by rw [List.getElem?_set_ne (by omega)]; exact h1.2 j hj hkj⟩
  have g9 : ((H ++ [Blk.box (some 48) [.pv (.str []), .pv (.str [])]]).set k (rb s (g.name s).2) ++ [Blk.box (some 9) [.pv (.str [])]])[H.length + 1]? = some (Blk.box (some 9) [.pv (.str [])]) := by
    rw [List.getElem?_append_right (by simp)]; simp
  have s9 : ((H ++ [Blk.box (some 48) [.pv (.str []), .pv (.str [])]]).set k (rb s (g.name s).2) ++ [Blk.box (some 9) [.pv (.str [])]]).set (H.length + 1) (Blk.box (some 9) [.pv (.str (g.name s).1)]) = H1 := by
    rw [hH1, List.set_append_right _ _ (by simp)]; simp
  have hfin : ∀ H8 : List Blk, ∀ g8 : Rd, H8 = H7.set k (rb s g8) → H8[H.length]? = some (Blk.box (some 48) [.pv (.str []), .pv (.str [])]) ∧ H8[H.length + 1]? = some (Blk.box (some 9) [.pv (.str (g.name s).1)]) ∧ H.length < H8.length := fun H8 g8 e => by
    subst e
    exact ⟨by rw [List.getElem?_set_ne (by omega)]; exact u2, by rw [List.getElem?_set_ne (by omega)]; exact u3, by simp; omega⟩
  have L4 : H7 = H7.set k (rb s (g2.attr3 s).2) := (set_same h7k).symm
  generalize hnm : (g.name s).1 = nm at *
  generalize hg1 : (g.name s).2 = g1 at *
  by_cases c8 : 4096 < (g2.attr3 s).1.length
  · have c8' : (4096 : Int) < ((g2.attr3 s).1.length : Nat) := by omega
    have ef := e9 _ ((g2.attr3 s).2.fail (g2.attr2 s).at' 5) (ok_fail ok7 _ _ (by decide)) rfl
    have e4' : g2.attr4 s = ((g2.attr3 s).2.fail (g2.attr2 s).at' 5).expect s 34 := by unfold Rd.attr4; rw [if_pos c8]
    rw [← e4'] at ef
    obtain ⟨v1, v2, v3⟩ := hfin _ (g2.attr4 s) rfl
    have v4 := fF (rb s (g2.attr4 s)) (Blk.box (some 48) [.pv (.str nm), .pv (.str (g2.attr3 s).1)])
    have v5 : ((H7.set k (rb s (g2.attr4 s))).set H.length (Blk.box (some 48) [.pv (.str nm), .pv (.str (g2.attr3 s).1)]))[k]? = some (rb s (g2.attr4 s)) := by
      rw [List.getElem?_set_ne (by omega)]; exact get_setk k7 _
    have v6 : ((H7.set k (rb s (g2.attr4 s))).set H.length (Blk.box (some 48) [.pv (.str nm), .pv (.str (g2.attr3 s).1)]))[H.length]? = some (Blk.box (some 48) [.pv (.str nm), .pv (.str (g2.attr3 s).1)]) := List.getElem?_set_self v3
    clear L4
    by_cases c1 : 32 < nm.length
    · have c1' : (32 : Int) < (nm.length : Nat) := by omega
      rw [if_pos c1] at hsw
      simp [-Int.natCast_add, -Int.not_lt, -getElem?_pos, List.getElem?_cons_zero, List.getElem?_cons_succ, T62_eq, hlv, -aLen, hlen, len9, f0, hz, g9, s9, a3, e3, e4, e5, e5k, e6, e7, ef, v1, v2, v3, v6, c1, c1', hsw, c8, c8', e8]
      exact ⟨v4, v5⟩
    have c1' : ¬ (32 : Int) < (nm.length : Nat) := by omega
    rw [if_neg c1] at hsw
    by_cases c2 : l.length = 32
    · have c2' : ((l.length : Nat) : Int) = 32 := by omega
      rw [if_pos c2] at hsw
      simp [-Int.natCast_add, -Int.not_lt, -getElem?_pos, List.getElem?_cons_zero, List.getElem?_cons_succ, T62_eq, hlv, -aLen, hlen, len9, f0, hz, g9, s9, a3, e3, e4, e5, e5k, e6, e7, ef, v1, v2, v3, v6, c1, c1', c2', beqZ, hsw, c8, c8', e8]
      exact ⟨v4, v5⟩
    have c2' : ¬ ((l.length : Nat) : Int) = 32 := by omega
    rw [if_neg c2] at hsw
    obtain ⟨G, hG, hsw⟩ := hsw
    by_cases c3 : hasA l nm = true
    · rw [if_pos c3] at hsw
      rw [c3] at hG
      simp [-Int.natCast_add, -Int.not_lt, -getElem?_pos, List.getElem?_cons_zero, List.getElem?_cons_succ, T62_eq, hlv, -aLen, hlen, len9, f0, hz, g9, s9, a3, e3, e4, e5, e5k, e6, e7, ef, v1, v2, v3, v6, c1, c1', c2, c2', beqZ, hG, hsw, c8, c8', e8]
      exact ⟨v4, v5⟩
    · rw [if_neg c3] at hsw
      rw [show hasA l nm = false by simpa using c3] at hG
      subst hsw
      simp [-Int.natCast_add, -Int.not_lt, -getElem?_pos, List.getElem?_cons_zero, List.getElem?_cons_succ, T62_eq, hlv, -aLen, hlen, len9, f0, hz, g9, s9, a3, e3, e4, e5, e5k, e6, e7, ef, v1, v2, v3, v6, c1, c1', c2, c2', beqZ, hG, c8, c8', e8]
      exact ⟨v4, v5⟩
  · have c8' : ¬ (4096 : Int) < ((g2.attr3 s).1.length : Nat) := by omega
    have ef := e9 _ ((g2.attr3 s).2) ok7 L4
    have e4' : g2.attr4 s = ((g2.attr3 s).2).expect s 34 := by unfold Rd.attr4; rw [if_neg c8]
    rw [← e4'] at ef
    obtain ⟨v1, v2, v3⟩ := hfin _ (g2.attr4 s) rfl
    have v4 := fF (rb s (g2.attr4 s)) (Blk.box (some 48) [.pv (.str nm), .pv (.str (g2.attr3 s).1)])
    have v5 : ((H7.set k (rb s (g2.attr4 s))).set H.length (Blk.box (some 48) [.pv (.str nm), .pv (.str (g2.attr3 s).1)]))[k]? = some (rb s (g2.attr4 s)) := by
      rw [List.getElem?_set_ne (by omega)]; exact get_setk k7 _
    have v6 : ((H7.set k (rb s (g2.attr4 s))).set H.length (Blk.box (some 48) [.pv (.str nm), .pv (.str (g2.attr3 s).1)]))[H.length]? = some (Blk.box (some 48) [.pv (.str nm), .pv (.str (g2.attr3 s).1)]) := List.getElem?_set_self v3
    clear L4
    by_cases c1 : 32 < nm.length
    · have c1' : (32 : Int) < (nm.length : Nat) := by omega
      rw [if_pos c1] at hsw
      simp [-Int.natCast_add, -Int.not_lt, -getElem?_pos, List.getElem?_cons_zero, List.getElem?_cons_succ, T62_eq, hlv, -aLen, hlen, len9, f0, hz, g9, s9, a3, e3, e4, e5, e5k, e6, e7, ef, v1, v2, v3, v6, c1, c1', hsw, c8, c8']
      exact ⟨v4, v5⟩
    have c1' : ¬ (32 : Int) < (nm.length : Nat) := by omega
    rw [if_neg c1] at hsw
    by_cases c2 : l.length = 32
    · have c2' : ((l.length : Nat) : Int) = 32 := by omega
      rw [if_pos c2] at hsw
      simp [-Int.natCast_add, -Int.not_lt, -getElem?_pos, List.getElem?_cons_zero, List.getElem?_cons_succ, T62_eq, hlv, -aLen, hlen, len9, f0, hz, g9, s9, a3, e3, e4, e5, e5k, e6, e7, ef, v1, v2, v3, v6, c1, c1', c2', beqZ, hsw, c8, c8']
      exact ⟨v4, v5⟩
    have c2' : ¬ ((l.length : Nat) : Int) = 32 := by omega
    rw [if_neg c2] at hsw
    obtain ⟨G, hG, hsw⟩ := hsw
    by_cases c3 : hasA l nm = true
    · rw [if_pos c3] at hsw
      rw [c3] at hG
      simp [-Int.natCast_add, -Int.not_lt, -getElem?_pos, List.getElem?_cons_zero, List.getElem?_cons_succ, T62_eq, hlv, -aLen, hlen, len9, f0, hz, g9, s9, a3, e3, e4, e5, e5k, e6, e7, ef, v1, v2, v3, v6, c1, c1', c2, c2', beqZ, hG, hsw, c8, c8']
      exact ⟨v4, v5⟩
    · rw [if_neg c3] at hsw
      rw [show hasA l nm = false by simpa using c3] at hG
      subst hsw
      simp [-Int.natCast_add, -Int.not_lt, -getElem?_pos, List.getElem?_cons_zero, List.getElem?_cons_succ, T62_eq, hlv, -aLen, hlen, len9, f0, hz, g9, s9, a3, e3, e4, e5, e5k, e6, e7, ef, v1, v2, v3, v6, c1, c1', c2, c2', beqZ, hG, c8, c8']
      exact ⟨v4, v5⟩
noncomputable def A62 : List SV → List Blk → Option (SV × List Blk) := arunAll Y T62 Tryz.f62
theorem meets62 (W0 : World) : Enterable Tryz.prog 62 ∧ Meets Tryz.prog W0 62 (specFn (.heap A62)) := meets_heap env (tok_cons (meets60 W0) (tok_cons (meets37 W0) (tok_cons (meets68b W0) (tok_cons (meets56 W0) (tok_cons (meets59 W0) (tok_cons (meets77 W0) tok_nil)))))) mixed Tryz.func62 (by kernel_rfl) (by kernel_rfl)
theorem all62 {H : List Blk} {k : Nat} {s : Bs} {g : Rd} (hk : H[k]? = some (rb s g)) (hs : s.length ≤ 8000000) (hg : g.ok' s) {p : SV} {l : List (Bs × Bs)} (hp : AtA p l) (hl : l.length ≤ 1000000) :
    ∃ H', A62 [.ptr k 0, p] H = some (.agg [.pv (.str (g.name s).1), .pv (.str (Rd.attr3 s (g.attr1 s l)).1)], H') ∧ FrK k H H' ∧ H'[k]? = some (rb s (Rd.attr4 s (g.attr1 s l))) := by
  obtain ⟨r, H', h1, h2, h3, h4⟩ := all_of_XFn (by rfl) (x62 hk hs hg hp hl)
  simp only at h2 h3 h4
  subst h2
  exact ⟨H', h1, h3, h4⟩
end Go.Proofs.YtkckpmcpmngiiaaGreatDoor
