/- Places, by the machine. -/
import Derived.Test.YtkbfgmneibabgaaDoorLexF
import Derived.Test.YtkbfgmneibabgaaDoorLexQ
set_option linter.unusedSimpArgs false
set_option linter.unusedVariables false
set_option maxRecDepth 1000000
set_option maxHeartbeats 1000000
namespace Go.Proofs.YtkbfgmneibabgaaDoor
open Go Go.Pm Go.RowKit
open LexP hiding place Sep Run
/-- The lines' beginnings, as a row of the program. -/
def Lns (H : List Blk) (L : List Int) (v : SV) : Prop := v = .tight 1 (iRow L) ∨ ∃ kt u, v = .own kt u 1 (iRow L) ∧ H[kt]? = some (.tok u 3)
theorem Lns.fr {k : Nat} {e : TypeId} {H H' : List Blk} {L : List Int} {v : SV} (h : Lns H L v) (hf : FrE k e H H') (he : 3 ≠ e) : Lns H' L v := by
  rcases h with rfl | ⟨kt, u, rfl, h⟩
  · exact .inl rfl
  · exact .inr ⟨kt, u, rfl, hf.tok _ _ _ he h⟩
theorem Lns.live {H : List Blk} {L : List Int} {v : SV} (h : Lns H L v) : live v = some v := by
  rcases h with rfl | ⟨kt, u, rfl, h⟩ <;> rfl
theorem Lns.pur {H : List Blk} {L : List Int} {v : SV} (h : Lns H L v) : pur v = some (.pv (.slice 1 (iRow L))) := by
  rcases h with rfl | ⟨kt, u, rfl, h⟩ <;> rfl
noncomputable def T40 : FuncId → Option Pm.Spec := tab [(78, .pure false F78)]
theorem T40_eq (g : Nat) : T40 g = tab [(78, .pure false F78)] g := rfl
theorem tok40 (W0 : World) : TOk Tryd.prog W0 T40 := tok_cons (meets78 W0) tok_nil
theorem meets40 (W0 : World) : Enterable Tryd.prog 40 ∧ Meets Tryd.prog W0 40 (specFn (.heap (arunAll Y T40 Tryd.f40))) := meets_heap env (tok40 W0) mixed Tryd.func40 (by kernel_rfl) (by kernel_rfl)
theorem iRow_at (L : List Int) (i : Nat) (h : i < L.length) : (iRow L)[i]? = some [PV.int .i64 (L.getD i 0)] := by
  simp [iRow, List.getElem?_map, h]
theorem starts_le (s : Bs) : (starts s).length ≤ s.length + 1 := by
  have := lns_len s 0
  simp [starts]; omega
theorem all40 {k : Nat} {s : Bs} {n : Int} {ln l : SV} {e w : Int} {H : List Blk} (hs : s.length ≤ 1000000) (hk : H[k]? = some (scB s n ln l e w)) (hL : Lns H (starts s) ln) (m : Nat) (hm : m ≤ s.length) :
    arunAll Y T40 Tryd.f40 [.ptr k 0, .i m] H = some (.tuple [.i (LexP.place s m).1, .i (LexP.place s m).2], H) := by
  have hx : XFn Y T40 Tryd.f40 [.ptr k 0, .i m] H (fun x => x = (.tuple [.i (LexP.place s m).1, .i (LexP.place s m).2], H)) := by
    have hlen := starts_le s
    have hF : F78 [.pv (.slice 1 (iRow (starts s))), .i m] = some (.tuple [.i ((starts s).countP (· < (m : Int)) : Nat), .bool ((starts s).contains (m : Int))]) := by
      have h1 : (starts s).Pairwise (· ≤ ·) := (starts_sorted s).imp (fun h => Int.le_of_lt h)
      simp only [F78, intsOf_row]
      rw [if_pos ⟨h1, by omega⟩]
    have hcl : (starts s).countP (· < (m : Int)) ≤ (starts s).length := List.countP_le_length
    have hp := place_search s m hm
    generalize (starts s).countP (· < (m : Int)) = q at *
    unfold scB at hk
    unfold XFn Tryd.f40
    rw [enter_2 _ (by decide)]
    by_cases hc : (starts s).contains (m : Int) = true
    · obtain ⟨h0, h1, h2⟩ := hp q (by rw [if_pos hc])
      have hr := iRow_at (starts s) (q : Int).toNat h1
      rw [hc] at hF
      rw [h2]
      have w1 : IntKind.i64.wrap ((q : Int) + 1) = (q : Int) + 1 := wrap64 (by omega) (by omega)
      have hg0 := starts_range s (q : Int).toNat
      generalize hg : (starts s).getD (q : Int).toNat 0 = g at *
      have w2 : IntKind.i64.wrap ((m : Int) - g) = (m : Int) - g := wrap64 (by omega) (by omega)
      have w3 : IntKind.i64.wrap ((m : Int) - g + 1) = (m : Int) - g + 1 := wrap64 (by omega) (by omega)
      simp only [Int.toNat_natCast] at hr
      rcases hL with rfl | ⟨kt, u, rfl, hkt⟩
      · simp [hk, T40_eq, hF, hr, w1, w2, w3]
      · simp [hk, T40_eq, hF, hr, w1, w2, w3]
    · simp only [Bool.not_eq_true] at hc
      obtain ⟨h0, h1, h2⟩ := hp ((q : Int) - 1) (by rw [if_neg (by rw [hc]; simp)])
      have hr := iRow_at (starts s) ((q : Int) - 1).toNat h1
      rw [hc] at hF
      rw [h2]
      have w0 : IntKind.i64.wrap ((q : Int) - 1) = (q : Int) - 1 := wrap64 (by omega) (by omega)
      have hg0 := starts_range s ((q : Int) - 1).toNat
      generalize hg : (starts s).getD ((q : Int) - 1).toNat 0 = g at *
      generalize hq : (q : Int) - 1 = q1 at *
      have w1 : IntKind.i64.wrap (q1 + 1) = q1 + 1 := wrap64 (by omega) (by omega)
      have w2 : IntKind.i64.wrap ((m : Int) - g) = (m : Int) - g := wrap64 (by omega) (by omega)
      have w3 : IntKind.i64.wrap ((m : Int) - g + 1) = (m : Int) - g + 1 := wrap64 (by omega) (by omega)
      rcases hL with rfl | ⟨kt, u, rfl, hkt⟩
      · simp [hk, T40_eq, hF, hr, h0, w1, w2, w3, hq, w0]
      · simp [hk, T40_eq, hF, hr, h0, w1, w2, w3, hq, w0]
  obtain ⟨r, H', h1, h2⟩ := all_of_XFn (by rfl) hx
  rw [h1, h2]
end Go.Proofs.YtkbfgmneibabgaaDoor
