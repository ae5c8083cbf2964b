/- Bytes that come in with the call: what the machine reads of them, and that they read so behind the call. -/
import Derived.Test.YtkbfgmneibabgaaDoorFrame
import Derived.ChangeSlices
set_option linter.unusedSimpArgs false
set_option linter.unusedVariables false
set_option maxRecDepth 100000
namespace Go.Proofs.YtkbfgmneibabgaaDoor
open Go Go.ChangeShapes Go.WideShapes Go.ChangeAt Go.RowKit Go.Joins
theorem open_u8s {H : Type} {enc : TypeId × Value → H} {W : World} {base : Nat} {v : Value} {d : DataW H} {p : List MemPlace} (hval : Value.okWide Tryd.prog W .any base 36 v)
    (h : DataW.Trod enc Tryd.prog W 0 (fun _ => true) true 36 v d p) :
    ∃ bv bl, ((bl = [] ∧ bv = .pv .nilSlice) ∨ bv = .pv (.slice 1 (bRow bl))) ∧ Pm.RelS (Pm.start W) bv v ∧
      ∀ W' : World, Below W.heap.size W W' → DataW.Trod enc Tryd.prog W' 0 (fun x => decide (x < W.heap.size)) true 36 v d p := by
  obtain ⟨a1, len, cap, rfl⟩ := okWide_slice Tryd.underlying36 hval
  obtain ⟨fuel, hf⟩ := h
  rcases open_ints Tryd.underlying36 Tryd.underlying5 (by kernel_rfl) hf with ⟨hcs, hx⟩ | ⟨a, len', cap', zs, hcs, _, hl, hm, hz, hx, hcell, hwz⟩
  · simp [Value.cells] at hcs
    obtain ⟨rfl, rfl, rfl⟩ := hcs
    simp only [Prod.mk.injEq] at hx
    obtain ⟨rfl, rfl⟩ := hx
    exact ⟨_, [], .inl ⟨rfl, rfl⟩, .pv _ _ .nilSlice, fun W' _ => shut_slice_nil Tryd.underlying36⟩
  · simp [Value.cells] at hcs
    obtain ⟨rfl, rfl, rfl⟩ := hcs
    simp only [Prod.mk.injEq] at hx
    obtain ⟨rfl, rfl⟩ := hx
    simp only [if_true] at hz
    have hsp : a.spot = none := by
      simp only [Value.okWide, Tryd.underlying36, Cell.okWide, Cell.ok] at hval
      exact hval.2.2.2.1
    obtain ⟨ab, ao, spot⟩ := a
    obtain rfl : spot = none := hsp
    have hb : ∀ i, i < zs.length → ab < W.heap.size := fun i hi => by have := World.block_lt_of_cell? W _ (hcell i hi); rw [Addr.add_lit] at this; exact this
    have hc : ∀ i, i < zs.length → W.cell? ⟨ab, ao + i, none⟩ = some (.int .u8 (zs.getD i 0)) := fun i hi => by rw [← Addr.add_lit]; exact hcell i hi
    have hw : ∀ i, i < zs.length → 0 ≤ zs.getD i 0 ∧ zs.getD i 0 ≤ 255 := fun i hi => by
      have := hwz (zs.getD i 0) (by simp [List.getD, hi])
      simpa [Lit.wf, IntKind.min, IntKind.max, IntKind.signed, IntKind.bits] using this
    have hlen : (bRow ((zs.take len).map fun n => UInt8.ofNat n.toNat)).length = len := by simp [bRow]; omega
    have hrow : ∀ (i : Nat) (e : List Pm.PV), (bRow ((zs.take len).map fun n => UInt8.ofNat n.toNat))[i]? = some e → i < len ∧ e = [.int .u8 (zs.getD i 0)] := fun i e he => by
      have hi : i < len := by have := (List.getElem?_eq_some_iff.1 he).1; omega
      refine ⟨hi, ?_⟩
      have hw1 := hw i (by omega)
      simp only [bRow, List.getElem?_map, List.getElem?_take, if_pos hi, List.getElem?_eq_getElem (show i < zs.length by omega), Option.map_some, Option.some.injEq] at he
      simp only [List.getD, List.getElem?_eq_getElem (show i < zs.length by omega), Option.getD_some] at hw1 ⊢
      rw [← he]
      congr 2
      simp only [UInt8.toNat_ofNat']
      omega
    refine ⟨_, (zs.take len).map fun n => UInt8.ofNat n.toNat, .inr rfl, ?_, fun W' hB => ⟨2, ?_⟩⟩
    · have : Pm.RelP W (fun b _ => b < W.heap.size) (.slice 1 (bRow ((zs.take len).map fun n => UInt8.ofNat n.toNat))) (.slice (some ⟨ab, ao, none⟩) (bRow ((zs.take len).map fun n => UInt8.ofNat n.toNat)).length cap) := by
        refine .slice 1 _ ab ao cap (fun i _ => .int .u8 (zs.getD i 0)) (by omega) (fun i e he => by rw [(hrow i e he).2]; rfl) (fun i e j p he hj => ?_) (fun i e j p he hj => ?_) (fun i e j p he hj => ?_)
        · exact hb i (by have := (hrow i e he).1; omega)
        · obtain ⟨h1, rfl⟩ := hrow i e he
          have hj0 : j = 0 := by
            have := (List.getElem?_eq_some_iff.1 hj).1
            simpa using this
          subst hj0
          rw [Nat.mul_one, Nat.add_zero]
          exact hc i (by omega)
        · obtain ⟨h1, rfl⟩ := hrow i e he
          have hj0 : j = 0 := by
            have := (List.getElem?_eq_some_iff.1 hj).1
            simpa using this
          subst hj0
          simp only [List.getElem?_cons_zero, Option.some.injEq] at hj
          subst hj
          exact .int _ _
      rw [hlen] at this
      exact .pv _ _ this
    · have hlz : zs.length = (if (fun x => decide (x < W.heap.size)) ab then cap else len) := by
        by_cases h0 : 0 < zs.length
        · simp [hb 0 h0, hz]
        · have : cap = 0 := by omega
          have : len = 0 := by omega
          split <;> omega
      exact shut_ints' 0 Tryd.underlying36 Tryd.underlying5 (by kernel_rfl) (Nat.zero_le _) hl hm hlz (fun i hi => by rw [hB.cell (by exact hb i hi)]; exact hc i hi) hwz
end Go.Proofs.YtkbfgmneibabgaaDoor
