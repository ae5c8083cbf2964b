/- The library's functions that Parse calls: Cut, Split, Atoi. -/
import Derived.Test.YtooajpojikkkdaaDoorMetreN
import Derived.Lib.AppendIntMem
set_option linter.unusedSimpArgs false
set_option linter.unusedVariables false
set_option maxRecDepth 1000000
set_option maxHeartbeats 400000
namespace Go.Proofs.YtooajpojikkkdaaDoor
open Go Go.Pm Go.RowKit
/-- What the library's variables hold. -/
structure Laid (W : World) : Prop where
  s : ∃ tp p, W.cell? ⟨1, 0, none⟩ = some (.iface tp p)
  r : ∃ tp p, W.cell? ⟨2, 0, none⟩ = some (.iface tp p)
  m : ∃ m, W.cell? ⟨0, 0, none⟩ = some (.int .i64 m)
theorem cell_at {W0 : World} {C : Cf} (J : J0 W0 C) {b : Nat} {v : Value} (h : W0.cell? ⟨b, 0, none⟩ = some v) : C.w.cell? ⟨b, 0, none⟩ = some v := by
  have := J.heap b (Lib.lt_of_cell h)
  rw [← h]; simp only [World.cell?, this]
def F49 : List SV → Option SV
  | [.pv (.str s), .pv (.str p)] => if s.length ≤ 1000 then some (.tuple [.str (Lib.cut s p).1, .str (Lib.cut s p).2.1, .bool (Lib.cut s p).2.2]) else none
  | _ => none
theorem meets49 {W0 : World} (L : Laid W0) : OkAt W0 49 F49 := by
  refine ⟨enterable_of Tryd.func49 (by kernel_rfl), meets_lib fun C args vs r hF J hr => ?_⟩
  unfold F49 at hF
  split at hF
  · rename_i s p
    split at hF
    · rename_i hl
      cases hF
      obtain ⟨u, us, rfl, h1, h2⟩ := hr.uncons
      obtain ⟨u2, us2, rfl, h3, h4⟩ := h2.uncons
      have : us2 = [] := by simpa using h4.1
      subst this
      cases h1 with | pv _ _ h1 =>
      cases h1
      cases h3 with | pv _ _ h3 =>
      cases h3
      obtain ⟨m, hm⟩ := L.m
      refine ⟨by simp [PlainR], (Any.strings_Cut Tryd.lays145 ⟨s.toArray⟩ ⟨p.toArray⟩ m C.w (by simp [ByteArray.size]; omega) (cell_at J hm)).mono ?_⟩
      rintro e w' ⟨rfl, n, rfl⟩
      refine ⟨_, rfl, ⟨rfl, rfl, rfl, Nat.le_refl _, fun _ _ => rfl⟩, fun D => ?_⟩
      have : RelL D [SV.str (Lib.cut s p).1, .str (Lib.cut s p).2.1, .bool (Lib.cut s p).2.2] _ := RelL.cons (rel_strN D _) (RelL.cons (rel_strN D _) (RelL.cons (rel_bool D _) (RelL.nil D)))
      exact .tuple _ _ this.1 this.2
    · cases hF
  · cases hF
def F50 : List SV → Option SV
  | [.pv (.str s), .pv (.str p)] => if s.length ≤ 1000 ∧ 1 ≤ p.length then some (.pv (.slice 1 (rowS (Lib.split s p)))) else none
  | _ => none
theorem meets50 {W0 : World} (L : Laid W0) : OkAt W0 50 F50 := by
  refine ⟨enterable_of Tryd.func50 (by kernel_rfl), fun C args vs r H' hF I J hr => ?_⟩
  simp only [specFn] at hF
  split at hF
  · rename_i as1 has
    split at hF
    · rename_i r1 hr1
      unfold F50 at hr1
      split at hr1
      · rename_i s p
        split at hr1
        · rename_i hl
          cases hr1
          have e1 : placeR false C.H (.pv (.slice 1 (rowS (Lib.split s p)))) = some (.pv (.slice 1 (rowS (Lib.split s p))), C.H) := rfl
          rw [e1] at hF
          cases hF
          have hr' := purL_rel has hr
          obtain ⟨u, us, rfl, h1, h2⟩ := hr'.uncons
          obtain ⟨u2, us2, rfl, h3, h4⟩ := h2.uncons
          have : us2 = [] := by simpa using h4.1
          subst this
          cases h1 with | pv _ _ h1 =>
          cases h1
          cases h3 with | pv _ _ h3 =>
          cases h3
          obtain ⟨m, hm⟩ := L.m
          have hp : 1 ≤ (⟨p.toArray⟩ : ByteArray).size := by simpa [ByteArray.size] using hl.2
          refine (Any.strings_Split Tryd.lays146 (by kernel_rfl) ⟨s.toArray⟩ ⟨p.toArray⟩ m C.w (by simp [ByteArray.size]; omega) (cell_at J hm) hp).mono ?_
          rintro e w' ⟨rfl, rfl⟩
          have hlen := Lib.splitB_all ⟨p.toArray⟩ hp 0 _ ⟨s.toArray⟩ rfl
          have hdat := Lib.splitB_data ⟨p.toArray⟩ 0 (Lib.countB ⟨s.toArray⟩ ⟨p.toArray⟩) ⟨s.toArray⟩
          have hsp : (Lib.splitB ⟨p.toArray⟩ 0 (Lib.countB ⟨s.toArray⟩ ⟨p.toArray⟩) ⟨s.toArray⟩).map (·.data.toList) = Lib.split s p := by
            rw [hdat]; rfl
          generalize Lib.splitB ⟨p.toArray⟩ 0 (Lib.countB ⟨s.toArray⟩ ⟨p.toArray⟩) ⟨s.toArray⟩ = B at *
          rw [← hsp]
          have hRow : Row C.w C.S 1 (rowS (B.map (·.data.toList))) (B.map Value.string) := by
            refine ⟨by simp [rowS], fun i e h => ?_, fun q v h => ?_, fun i e j pp h h' => ?_⟩
            · simp only [rowS, List.getElem?_map, Option.map_eq_some_iff] at h
              obtain ⟨_, _, rfl⟩ := h; rfl
            · rw [List.getElem?_map, Option.map_eq_some_iff] at h
              obtain ⟨_, _, rfl⟩ := h; rfl
            · simp only [rowS, List.getElem?_map, Option.map_eq_some_iff] at h
              obtain ⟨_, ⟨b, hb, rfl⟩, rfl⟩ := h
              cases j with
              | zero =>
                simp at h'
                subst h'
                exact ⟨.string b, by simp [hb], .str _⟩
              | succ j => simp at h'
          have hB : Below C.w.heap.size C.w (C.w.alloc (.cells (B.map Value.string).toArray 9)) := Below.alloc (Below.refl _ _) (Nat.le_refl _) _
          obtain ⟨C', hw, hg⟩ := row_below (g := C.w.heap.size) (cap := B.length) I hB (arr := (B.map Value.string).toArray) (T := 9) (Pushed.alloc C.w _).new (Nat.le_refl _) hRow (fun q v h => by simpa using h) (by simp [rowS])
          refine ⟨_, C', rfl, hw, hg.H, hg.inv, hg.evo, ?_⟩
          have := hg.rel
          simp only [rowS_len, List.length_map] at this
          rw [hlen] at this
          exact this
        · cases hr1
      · cases hr1
    · cases hF
  · cases hF
/-- A number, and an error that is not nil: of no more is asked. -/
def atoiR (l : List UInt8) : SV :=
  match Lib.atoiAll l with
  | .ok v => .tuple [.i v, .pv .nilIface]
  | .range => .tuple [.i (Lib.atoiSat l), .pv .opq]
  | _ => .tuple [.i 0, .pv .opq]
theorem rel_two (D : Cf) {a b : SV} {u v : Value} (h : RelS D a u) (k : RelS D b v) : RelS D (.tuple [a, b]) (.tuple #[u, v]) := by
  have : RelL D [a, b] [u, v] := RelL.cons h (RelL.cons k (RelL.nil D))
  exact .tuple _ _ this.1 this.2
def F51 : List SV → Option SV
  | [.pv (.str l)] => if l.length ≤ 1000 then some (atoiR l) else none
  | _ => none
theorem meets51 {W0 : World} (L : Laid W0) : OkAt W0 51 F51 := by
  refine ⟨enterable_of Tryd.func51 (by kernel_rfl), meets_lib fun C args vs r hF J hr => ?_⟩
  unfold F51 at hF
  split at hF
  · rename_i l
    split at hF
    · rename_i hl
      cases hF
      obtain ⟨u, us, rfl, h1, h2⟩ := hr.uncons
      have : us = [] := by simpa using h2.1
      subst this
      cases h1 with | pv _ _ h1 =>
      cases h1
      have hs : (⟨l.toArray⟩ : ByteArray).size ≤ 281474976710656 := by simp [ByteArray.size]; omega
      obtain ⟨tp1, p1, hv1⟩ := L.s
      obtain ⟨tp2, p2, hv2⟩ := L.r
      unfold atoiR
      cases h : Lib.atoiAll l
      · refine ⟨by simp [PlainR], (Any.strconv_Atoi_ok Tryd.laysC172 ⟨l.toArray⟩ (by omega) _ h C.w).mono ?_⟩
        rintro e w' ⟨rfl, hw⟩
        refine ⟨_, rfl, ?_, fun D => ?_⟩
        · rcases hw with rfl | ⟨t, rfl⟩
          · exact Below.refl _ _
          · exact Lib.bytesWorld_below _ _ _
        · rename_i v
          have : RelL D [SV.i v, .pv .nilIface] [.int .i64 v, .nilIface] := RelL.cons (rel_int D _) (RelL.cons (.pv _ _ .nilIface) (RelL.nil D))
          exact .tuple _ _ this.1 this.2
      · refine ⟨by simp [PlainR], (Any.strconv_Atoi_syntax Tryd.laysC172 ⟨l.toArray⟩ hs h _ C.w (cell_at J hv1) (.inr ⟨_, _, rfl⟩)).mono ?_⟩
        rintro e w' ⟨N, rfl, h1, h2, h3⟩
        refine ⟨_, rfl, h3, fun D => ?_⟩
        exact rel_two D (rel_int D _) (.pv _ _ (.opq _ _))
      · refine ⟨by simp [PlainR], (Any.strconv_Atoi_range Tryd.laysC172 ⟨l.toArray⟩ hs h _ C.w (cell_at J hv2) (.inr ⟨_, _, rfl⟩)).mono ?_⟩
        rintro e w' ⟨N, rfl, h1, h2, h3⟩
        refine ⟨_, rfl, h3, fun D => ?_⟩
        exact rel_two D (rel_int D _) (.pv _ _ (.opq _ _))
    · cases hF
  · cases hF
end Go.Proofs.YtooajpojikkkdaaDoor
