/- The library's functions that the names of intervals call. -/
import Derived.Test.YtmmpjnjdddaldaaGreatDoorTxtP
import Derived.Test.YtmmpjnjdddaldaaGreatDoorShelf
import Derived.Lib.AppendIntMem
set_option linter.unusedSimpArgs false
set_option linter.unusedVariables false
set_option maxRecDepth 1000000
set_option maxHeartbeats 400000
namespace Go.Proofs.YtmmpjnjdddaldaaGreatDoor
open Go Go.Pm Go.RowKit
noncomputable abbrev tabName : String := ((Rows.intervalTextsRow.laid.map (·.1)).getD 2 Tryz.f0.name)
/-- What the library's variables hold. -/
structure Laid (W : World) : Prop where
  s : ∃ tp p, W.cell? ⟨0, 0, none⟩ = some (.iface tp p)
  r : ∃ tp p, W.cell? ⟨1, 0, none⟩ = some (.iface tp p)
  tab : Lib.TabIs Tryz.prog W tabName .u64 Lib.pow10Tab

theorem rel_str' (C : Cf) (l : List UInt8) : RelS C (.str l) (.string ⟨l.toArray⟩) := .pv _ _ (.str l)

theorem lt_of_cell {W : World} {b o : Nat} {v : Value} (h : W.cell? ⟨b, o, none⟩ = some v) : b < W.heap.size := Lib.lt_of_cell h

theorem cell_at {W0 : World} {C : Cf} (J : J0 W0 C) {b : Nat} {v : Value} (h : W0.cell? ⟨b, 0, none⟩ = some v) : C.w.cell? ⟨b, 0, none⟩ = some v := by
  have := J.heap b (lt_of_cell h)
  rw [← h]; simp only [World.cell?, this]

theorem tab_at {W0 : World} {C : Cf} (J : J0 W0 C) (h : Lib.TabIs Tryz.prog W0 tabName .u64 Lib.pow10Tab) : Lib.TabIs Tryz.prog C.w tabName .u64 Lib.pow10Tab := by
  have h' := h
  unfold Lib.TabIs World.var? at h' ⊢
  cases hg : Tryz.prog.globalNamed tabName with
  | none => rw [hg] at h'; simp at h'
  | some g =>
    rw [hg] at h'
    simp only [Option.bind_some] at h' ⊢
    have hlt : g < W0.heap.size := by
      rcases Nat.lt_or_ge g W0.heap.size with h1 | h1
      · exact h1
      · rw [Array.getElem?_eq_none h1] at h'; simp at h'
    rw [J.heap g hlt]; exact h'

def zF40 : List SV → Option SV
  | [.pv (.int .i64 n)] => if -9223372036854775808 ≤ n ∧ n ≤ 9223372036854775807 then some (.str (Lib.itoa n)) else none
  | _ => none
theorem zmeets40 {W0 : World} (L : Laid W0) : OkAt W0 40 zF40 := by
  refine ⟨enterable_of Tryz.func40 (by kernel_rfl), meets_lib fun C args vs r hF J hr => ?_⟩
  unfold zF40 at hF
  split at hF
  · rename_i n
    split at hF
    · rename_i hn
      cases hF
      obtain ⟨u, us, rfl, h1, h2⟩ := hr.uncons
      have : us = [] := by simpa using h2.1
      subst this
      cases h1 with | pv _ _ h1 =>
      cases h1
      refine ⟨trivial, (Any.strconv_Itoa Tryz.laysM171 n hn.1 hn.2 C.w (tab_at J L.tab)).mono ?_⟩
      rintro e w' ⟨rfl, k, os, rfl⟩
      exact ⟨_, rfl, Lib.below_grow _ _ (Nat.le_refl _) _ _, fun D => rel_str' D _⟩
    · cases hF
  · cases hF

/-- An error that is not nil: of no more is asked. -/
def atoiR (l : List UInt8) : SV :=
  match Lib.atoiAll l with
  | .ok v => .tuple [.i v, .pv .nilIface]
  | .range => .tuple [.i (Lib.atoiSat l), .pv .opq]
  | _ => .tuple [.i 0, .pv .opq]
theorem rel_two (D : Cf) {a b : SV} {u v : Value} (h : RelS D a u) (k : RelS D b v) : RelS D (.tuple [a, b]) (.tuple #[u, v]) := by
  have : RelL D [a, b] [u, v] := RelL.cons h (RelL.cons k (RelL.nil D))
  exact .tuple _ _ this.1 this.2
def zF15 : List SV → Option SV
  | [.pv (.str l)] => if l.length ≤ 281474976710656 then some (atoiR l) else none
  | _ => none
theorem zmeets15 {W0 : World} (L : Laid W0) : OkAt W0 15 zF15 := by
  refine ⟨enterable_of Tryz.func15 (by kernel_rfl), meets_lib fun C args vs r hF J hr => ?_⟩
  unfold zF15 at hF
  split at hF
  · rename_i l
    split at hF
    · rename_i hl
      cases hF
      obtain ⟨u, us, rfl, h1, h2⟩ := hr.uncons
      have : us = [] := by simpa using h2.1
      subst this
      cases h1 with | pv _ _ h1 =>
      cases h1
      have hs : (⟨l.toArray⟩ : ByteArray).size ≤ 281474976710656 := by simpa [ByteArray.size] using hl
      obtain ⟨tp1, p1, hv1⟩ := L.s
      obtain ⟨tp2, p2, hv2⟩ := L.r
      unfold atoiR
      cases h : Lib.atoiAll l
      · refine ⟨by simp [PlainR], (Any.strconv_Atoi_ok Tryz.laysC172 ⟨l.toArray⟩ (by omega) _ h C.w).mono ?_⟩
        rintro e w' ⟨rfl, hw⟩
        refine ⟨_, rfl, ?_, fun D => ?_⟩
        · rcases hw with rfl | ⟨t, rfl⟩
          · exact Below.refl _ _
          · exact Lib.bytesWorld_below _ _ _
        · rename_i v
          have : RelL D [SV.i v, .pv .nilIface] [.int .i64 v, .nilIface] := RelL.cons (rel_int D _) (RelL.cons (.pv _ _ .nilIface) (RelL.nil D))
          exact .tuple _ _ this.1 this.2
      · refine ⟨by simp [PlainR], (Any.strconv_Atoi_syntax Tryz.laysC172 ⟨l.toArray⟩ hs h _ C.w (cell_at J hv1) (.inr ⟨_, _, rfl⟩)).mono ?_⟩
        rintro e w' ⟨N, rfl, h1, h2, h3⟩
        refine ⟨_, rfl, h3, fun D => ?_⟩
        exact rel_two D (rel_int D _) (.pv _ _ (.opq _ _))
      · refine ⟨by simp [PlainR], (Any.strconv_Atoi_range Tryz.laysC172 ⟨l.toArray⟩ hs h _ C.w (cell_at J hv2) (.inr ⟨_, _, rfl⟩)).mono ?_⟩
        rintro e w' ⟨N, rfl, h1, h2, h3⟩
        refine ⟨_, rfl, h3, fun D => ?_⟩
        exact rel_two D (rel_int D _) (.pv _ _ (.opq _ _))
    · cases hF
  · cases hF
def zF39 : List SV → Option SV
  | [.pv (.str s), .pv (.int .i64 n)] => if (0 ≤ n ∧ n ≤ 1000) ∧ s.length ≤ 10 then some (.str (Lib.repeatL s n.toNat)) else none
  | _ => none
theorem zmeets39 (W0 : World) : OkAt W0 39 zF39 := by
  refine ⟨enterable_of Tryz.func39 (by kernel_rfl), meets_lib fun C args vs r hF J hr => ?_⟩
  unfold zF39 at hF
  split at hF
  · rename_i s n
    split at hF
    · rename_i hn
      cases hF
      obtain ⟨u, us, rfl, h1, h2⟩ := hr.uncons
      obtain ⟨u2, us2, rfl, h3, h4⟩ := h2.uncons
      have : us2 = [] := by simpa using h4.1
      subst this
      cases h1 with | pv _ _ h1 =>
      cases h1
      cases h3 with | pv _ _ h3 =>
      cases h3
      obtain ⟨m, rfl⟩ : ∃ m : Nat, n = m := ⟨n.toNat, by omega⟩
      have hm : m ≤ 1000 := by omega
      have hb : (⟨s.toArray⟩ : ByteArray).size * m ≤ 140737488355328 := by
        have : (⟨s.toArray⟩ : ByteArray).size ≤ 10 := by simp [ByteArray.size]; exact hn.2
        calc _ ≤ 10 * 1000 := Nat.mul_le_mul this hm
          _ ≤ _ := by decide
      refine ⟨trivial, (Any.strings_Repeat Tryz.lays105 Tryz.Builder_Extra_105 ⟨s.toArray⟩ m C.w (by omega) hb).mono ?_⟩
      rintro e w' ⟨rfl, hB⟩
      exact ⟨_, rfl, hB, fun D => rel_str' D _⟩
    · cases hF
  · cases hF
end Go.Proofs.YtmmpjnjdddaldaaGreatDoor
