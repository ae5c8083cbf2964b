/- The library's functions that the pitches call. -/
import Derived.Test.YthoampbpeiehhaaDoorPitchA
import Derived.Test.YthoampbpeiehhaaDoorShelf
import Derived.Test.YthoampbpeiehhaaDoorPmX
import Derived.Lib.AppendIntMem
set_option linter.unusedSimpArgs false
set_option linter.unusedVariables false
set_option maxRecDepth 100000
namespace Go.Proofs.YthoampbpeiehhaaDoor
open Go.Pm Go.RowKit

noncomputable abbrev tabName : String := ((Rows.pitchNumbersRow.laid.map (·.1)).getD 2 Tryd.f0.name)
/-- What the library's variables hold. -/
structure Laid (W : World) : Prop where
  s : ∃ tp p, W.cell? ⟨1, 0, none⟩ = some (.iface tp p)
  r : ∃ tp p, W.cell? ⟨2, 0, none⟩ = some (.iface tp p)
  tab : Lib.TabIs Tryd.prog W tabName .u64 Lib.pow10Tab

theorem rel_str' (C : Cf) (l : List UInt8) : RelS C (.str l) (.string ⟨l.toArray⟩) := .pv _ _ (.str l)

theorem lt_of_cell {W : World} {b o : Nat} {v : Value} (h : W.cell? ⟨b, o, none⟩ = some v) : b < W.heap.size := Lib.lt_of_cell h

theorem cell_at {W0 : World} {C : Cf} (J : J0 W0 C) {b : Nat} {v : Value} (h : W0.cell? ⟨b, 0, none⟩ = some v) : C.w.cell? ⟨b, 0, none⟩ = some v := by
  have := J.heap b (lt_of_cell h)
  rw [← h]; simp only [World.cell?, this]

theorem tab_at {W0 : World} {C : Cf} (J : J0 W0 C) (h : Lib.TabIs Tryd.prog W0 tabName .u64 Lib.pow10Tab) : Lib.TabIs Tryd.prog C.w tabName .u64 Lib.pow10Tab := by
  have h' := h
  unfold Lib.TabIs World.var? at h' ⊢
  cases hg : Tryd.prog.globalNamed tabName with
  | none => rw [hg] at h'; simp at h'
  | some g =>
    rw [hg] at h'
    simp only [Option.bind_some] at h' ⊢
    have hlt : g < W0.heap.size := by
      rcases Nat.lt_or_ge g W0.heap.size with h1 | h1
      · exact h1
      · rw [Array.getElem?_eq_none h1] at h'; simp at h'
    rw [J.heap g hlt]; exact h'

def F39 : List SV → Option SV
  | [.pv (.int .i64 n)] => if -9223372036854775808 ≤ n ∧ n ≤ 9223372036854775807 then some (.str (Lib.itoa n)) else none
  | _ => none
theorem meets39 {W0 : World} (L : Laid W0) : OkAt W0 39 F39 := by
  refine ⟨enterable_of Tryd.func39 (by kernel_rfl), meets_lib fun C args vs r hF J hr => ?_⟩
  unfold F39 at hF
  split at hF
  · rename_i n
    split at hF
    · rename_i hn
      cases hF
      obtain ⟨u, us, rfl, h1, h2⟩ := hr.uncons
      have : us = [] := by simpa using h2.1
      subst this
      cases h1 with | pv _ _ h1 =>
      cases h1
      refine ⟨trivial, (Any.strconv_Itoa Tryd.laysM171 n hn.1 hn.2 C.w (tab_at J L.tab)).mono ?_⟩
      rintro e w' ⟨rfl, k, os, rfl⟩
      exact ⟨_, rfl, Lib.below_grow _ _ (Nat.le_refl _) _ _, fun D => rel_str' D _⟩
    · cases hF
  · cases hF

def F40 : List SV → Option SV
  | [.pv (.str s), .pv (.int .u8 c)] => some (.i (Lib.indexByte s c.toNat.toUInt8))
  | _ => none
theorem meets40 (W0 : World) : OkAt W0 40 F40 := by
  refine ⟨enterable_of Tryd.func40 (by kernel_rfl), meets_lib fun C args vs r hF J hr => ?_⟩
  unfold F40 at hF
  split at hF
  · rename_i s c
    cases hF
    obtain ⟨u, us, rfl, h1, h2⟩ := hr.uncons
    obtain ⟨u2, us2, rfl, h3, h4⟩ := h2.uncons
    have : us2 = [] := by simpa using h4.1
    subst this
    cases h1 with | pv _ _ h1 =>
    cases h1
    cases h3 with | pv _ _ h3 =>
    cases h3
    refine ⟨trivial, (Any.strings_IndexByte Tryd.lays137 ⟨s.toArray⟩ c C.w).mono ?_⟩
    rintro e w' ⟨rfl, rfl⟩
    exact ⟨_, rfl, Below.refl _ _, fun D => rel_int D _⟩
  · cases hF

def F41 : List SV → Option SV
  | [.pv (.str s), .pv (.str p)] => some (.tuple [.str (Lib.trimPrefix s p), .bool (Lib.hasPrefix s p)])
  | _ => none
theorem meets41 (W0 : World) : OkAt W0 41 F41 := by
  refine ⟨enterable_of Tryd.func41 (by kernel_rfl), meets_lib fun C args vs r hF J hr => ?_⟩
  unfold F41 at hF
  split at hF
  · rename_i s p
    cases hF
    obtain ⟨u, us, rfl, h1, h2⟩ := hr.uncons
    obtain ⟨u2, us2, rfl, h3, h4⟩ := h2.uncons
    have : us2 = [] := by simpa using h4.1
    subst this
    cases h1 with | pv _ _ h1 =>
    cases h1
    cases h3 with | pv _ _ h3 =>
    cases h3
    refine ⟨by simp [PlainR], (Any.strings_CutPrefix Tryd.lays103 ⟨s.toArray⟩ ⟨p.toArray⟩ C.w).mono ?_⟩
    rintro e w' ⟨rfl, rfl⟩
    refine ⟨_, rfl, Below.refl _ _, fun D => ?_⟩
    have : RelL D [SV.str (Lib.trimPrefix s p), .bool (Lib.hasPrefix s p)] _ := RelL.cons (rel_str' D _) (RelL.cons (rel_bool D _) (RelL.nil D))
    exact .tuple _ _ this.1 this.2
  · cases hF

/-- An error that is not nil: of no more is asked. -/
def atoiR (l : List UInt8) : SV :=
  match Lib.atoiAll l with
  | .ok v => .tuple [.i v, .pv .nilIface]
  | .range => .tuple [.i (Lib.atoiSat l), .pv .opq]
  | _ => .tuple [.i 0, .pv .opq]
theorem rel_two (D : Cf) {a b : SV} {u v : Value} (h : RelS D a u) (k : RelS D b v) : RelS D (.tuple [a, b]) (.tuple #[u, v]) := by
  have : RelL D [a, b] [u, v] := RelL.cons h (RelL.cons k (RelL.nil D))
  exact .tuple _ _ this.1 this.2
def F42 : List SV → Option SV
  | [.pv (.str l)] => if l.length ≤ 281474976710656 then some (atoiR l) else none
  | _ => none
theorem meets42 {W0 : World} (L : Laid W0) : OkAt W0 42 F42 := by
  refine ⟨enterable_of Tryd.func42 (by kernel_rfl), meets_lib fun C args vs r hF J hr => ?_⟩
  unfold F42 at hF
  split at hF
  · rename_i l
    split at hF
    · rename_i hl
      cases hF
      obtain ⟨u, us, rfl, h1, h2⟩ := hr.uncons
      have : us = [] := by simpa using h2.1
      subst this
      cases h1 with | pv _ _ h1 =>
      cases h1
      have hs : (⟨l.toArray⟩ : ByteArray).size ≤ 281474976710656 := by simpa [ByteArray.size] using hl
      obtain ⟨tp1, p1, hv1⟩ := L.s
      obtain ⟨tp2, p2, hv2⟩ := L.r
      unfold atoiR
      cases h : Lib.atoiAll l
      · refine ⟨by simp [PlainR], (Any.strconv_Atoi_ok Tryd.laysC172 ⟨l.toArray⟩ (by omega) _ h C.w).mono ?_⟩
        rintro e w' ⟨rfl, hw⟩
        refine ⟨_, rfl, ?_, fun D => ?_⟩
        · rcases hw with rfl | ⟨t, rfl⟩
          · exact Below.refl _ _
          · exact Lib.bytesWorld_below _ _ _
        · rename_i v
          have : RelL D [SV.i v, .pv .nilIface] [.int .i64 v, .nilIface] := RelL.cons (rel_int D _) (RelL.cons (.pv _ _ .nilIface) (RelL.nil D))
          exact .tuple _ _ this.1 this.2
      · refine ⟨by simp [PlainR], (Any.strconv_Atoi_syntax Tryd.laysC172 ⟨l.toArray⟩ hs h _ C.w (cell_at J hv1) (.inr ⟨_, _, rfl⟩)).mono ?_⟩
        rintro e w' ⟨N, rfl, h1, h2, h3⟩
        refine ⟨_, rfl, h3, fun D => ?_⟩
        exact rel_two D (rel_int D _) (.pv _ _ (.opq _ _))
      · refine ⟨by simp [PlainR], (Any.strconv_Atoi_range Tryd.laysC172 ⟨l.toArray⟩ hs h _ C.w (cell_at J hv2) (.inr ⟨_, _, rfl⟩)).mono ?_⟩
        rintro e w' ⟨N, rfl, h1, h2, h3⟩
        refine ⟨_, rfl, h3, fun D => ?_⟩
        exact rel_two D (rel_int D _) (.pv _ _ (.opq _ _))
    · cases hF
  · cases hF
end Go.Proofs.YthoampbpeiehhaaDoor
