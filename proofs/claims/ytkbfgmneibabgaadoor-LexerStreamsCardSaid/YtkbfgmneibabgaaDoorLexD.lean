/- The library's functions that the lexer calls. -/
import Derived.Test.YtkbfgmneibabgaaDoorLexC
import Derived.Test.YtkbfgmneibabgaaDoorShelf
set_option linter.unusedSimpArgs false
set_option linter.unusedVariables false
set_option maxRecDepth 1000000
set_option maxHeartbeats 1000000
namespace Go.Proofs.YtkbfgmneibabgaaDoor
open Go Go.Pm Go.RowKit
open LexP hiding place Sep Run
def F50 : List SV → Option SV
  | [.pv (.str s), .pv (.int .u8 c)] => some (.i (Lib.indexByte s c.toNat.toUInt8))
  | _ => none
theorem meets50 (W0 : World) : OkAt W0 50 F50 := by
  refine ⟨enterable_of Tryd.func50 (by kernel_rfl), meets_lib fun C args vs r hF J hr => ?_⟩
  unfold F50 at hF
  split at hF
  · rename_i s c
    cases hF
    obtain ⟨u, us, rfl, h1, h2⟩ := hr.uncons
    obtain ⟨u2, us2, rfl, h3, h4⟩ := h2.uncons
    have : us2 = [] := by simpa using h4.1
    subst this
    cases h1 with | pv _ _ h1 =>
    cases h1
    cases h3 with | pv _ _ h3 =>
    cases h3
    refine ⟨trivial, (Any.strings_IndexByte Tryd.lays137 ⟨s.toArray⟩ c C.w).mono ?_⟩
    rintro e w' ⟨rfl, rfl⟩
    exact ⟨_, rfl, Below.refl _ _, fun D => rel_int D _⟩
  · cases hF
def F86 : List SV → Option SV
  | [.pv (.str l)] => match Lib.atoiAll l with
    | .ok v => if l.length ≤ 1000 then some (.tuple [.i v, .pv .nilIface]) else none
    | _ => none
  | _ => none
theorem meets86 (W0 : World) : OkAt W0 86 F86 := by
  refine ⟨enterable_of Tryd.func86 (by kernel_rfl), meets_lib fun C args vs r hF J hr => ?_⟩
  unfold F86 at hF
  split at hF
  · rename_i l
    split at hF
    · rename_i v h
      split at hF
      · rename_i hl
        cases hF
        obtain ⟨u, us, rfl, h1, h2⟩ := hr.uncons
        have : us = [] := by simpa using h2.1
        subst this
        cases h1 with | pv _ _ h1 =>
        cases h1
        have hs : (⟨l.toArray⟩ : ByteArray).size ≤ 1000 := by simpa [ByteArray.size] using hl
        refine ⟨by simp [PlainR], (Any.strconv_Atoi_ok Tryd.laysC172 ⟨l.toArray⟩ (by omega) _ h C.w).mono ?_⟩
        rintro e w' ⟨rfl, hw⟩
        refine ⟨_, rfl, ?_, fun D => ?_⟩
        · rcases hw with rfl | ⟨t, rfl⟩
          · exact Below.refl _ _
          · exact Lib.bytesWorld_below _ _ _
        · have : RelL D [SV.i v, .pv .nilIface] [.int .i64 v, .nilIface] := RelL.cons (rel_int D _) (RelL.cons (.pv _ _ .nilIface) (RelL.nil D))
          exact .tuple _ _ this.1 this.2
      · cases hF
    · cases hF
  · cases hF
def intsOf : List (List PV) → Option (List Int)
  | [] => some []
  | [.int .i64 n] :: r => match intsOf r with
    | some l => some (n :: l)
    | none => none
  | _ => none
def iRow (l : List Int) : List (List PV) := l.map fun n => [PV.int .i64 n]
theorem intsOf_row : ∀ (l : List Int), intsOf (iRow l) = some l
  | [] => rfl
  | n :: r => by
    show intsOf ([PV.int .i64 n] :: iRow r) = _
    simp only [intsOf, intsOf_row r]
theorem of_intsOf : ∀ {es : List (List PV)} {l : List Int}, intsOf es = some l → es = iRow l
  | [], l, h => by cases h; rfl
  | e :: r, l, h => by
    unfold intsOf at h
    split at h
    · rename_i e1; cases e1
    · rename_i n r' e1
      cases e1
      split at h
      · rename_i l' hl; cases h; rw [of_intsOf hl]; rfl
      · cases h
    · cases h
def F78 : List SV → Option SV
  | [.pv (.slice 1 es), .pv (.int .i64 x)] => match intsOf es with
    | some zs => if zs.Pairwise (· ≤ ·) ∧ zs.length ≤ 100000000 then some (.tuple [.i (zs.countP (· < x) : Nat), .bool (zs.contains x)]) else none
    | none => none
  | _ => none
theorem meets78 (W0 : World) : OkAt W0 78 F78 := by
  refine ⟨enterable_of Tryd.func78 (by kernel_rfl), meets_lib fun C args vs r hF J hr => ?_⟩
  unfold F78 at hF
  split at hF
  · rename_i es x
    split at hF
    · rename_i zs hz
      split at hF
      · rename_i hc
        cases hF
        obtain ⟨u, us, rfl, h1, h2⟩ := hr.uncons
        obtain ⟨u2, us2, rfl, h3, h4⟩ := h2.uncons
        have : us2 = [] := by simpa using h4.1
        subst this
        have hes := of_intsOf hz
        cases h1 with | pv _ _ h1 =>
        cases h1 with | slice _ _ b off cap u hcap hs hS hcell hrel =>
        cases h3 with | pv _ _ h3 =>
        cases h3
        have hlen : es.length = zs.length := by rw [hes]; simp [iRow]
        have hcs : ∀ j, j < zs.length → C.w.cell? ⟨b, off + j, none⟩ = some (.int .i64 (zs.getD j 0)) := by
          intro j hj
          have hej : es[j]? = some [PV.int .i64 (zs.getD j 0)] := by
            rw [hes]; simp [iRow, List.getElem?_map, hj]
          have e1 := hcell j _ 0 _ hej rfl
          have e2 := hrel j _ 0 _ hej rfl
          simp only [Nat.mul_one, Nat.add_zero] at e1
          rw [e1]
          generalize u j 0 = v at e2
          cases e2; rfl
        have ht : zs.take es.length = zs := by rw [hlen]; simp
        refine ⟨by simp [PlainR], (Any.slices_BinarySearch_int Tryd.laysNm225 b off es.length cap zs x C.w (by omega) (by omega) hcs (by rw [ht]; exact hc.1)).mono ?_⟩
        rintro e w' ⟨rfl, q, rfl⟩
        rw [ht]
        refine ⟨_, rfl, ⟨rfl, rfl, rfl, Nat.le_refl _, fun _ _ => rfl⟩, fun D => ?_⟩
        have : RelL D [SV.i (zs.countP (· < x) : Nat), .bool (zs.contains x)] [.int .i64 (zs.countP (· < x) : Nat), .bool (zs.contains x)] := RelL.cons (rel_int D _) (RelL.cons (.pv _ _ (.bool _)) (RelL.nil D))
        exact .tuple _ _ this.1 this.2
      · cases hF
    · cases hF
  · cases hF
end Go.Proofs.YtkbfgmneibabgaaDoor
