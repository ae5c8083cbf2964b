/- The law Levels, by the machine. -/
import Derived.Test.YtkckpmcpmngiiaaGreatDoorLawI
set_option linter.unusedSimpArgs false
set_option linter.unusedVariables false
set_option maxRecDepth 1000000
set_option maxHeartbeats 1000000
namespace Go.Proofs.YtkckpmcpmngiiaaGreatDoor
open Go Go.Pm Go.RowKit
noncomputable def T8 : FuncId → Option Pm.Spec := tab [(15, .pure false F15), (14, .pure false F14), (22, .pure false F22), (28, .pure false E16), (26, .pure false F26)]
theorem T8_eq (g : Nat) : T8 g = tab [(15, .pure false F15), (14, .pure false F14), (22, .pure false F22), (28, .pure false E16), (26, .pure false F26)] g := rfl
theorem tok8 {W0 : World} (L : Laid W0) : TOk Tryz.prog W0 T8 := tok_cons (meets15 L) (tok_cons (meets14 L) (tok_cons (meets22 W0) (tok_cons (meets28 W0) (tok_cons (meets26 W0) tok_nil))))
def towK : Nat → PV
  | 0 => .nilSlice
  | m + 1 => .slice 4 [[.str [97], .nilSlice, .str [], towK m]]
theorem tow_enc : ∀ m : Nat, encS (tow m) = .agg [.pv (.str [97]), .pv .nilSlice, .pv (.str []), .pv (towK m)] ∧ (tow m).enc = [.str [97], .nilSlice, .str [], towK m]
  | 0 => ⟨rfl, by simp only [tow, Nd.enc, encL, slN, towK, List.map_nil]⟩
  | m + 1 => by
    obtain ⟨-, h2⟩ := tow_enc m
    have e : (tow (m + 1)).enc = [.str [97], .nilSlice, .str [], towK (m + 1)] := by
      simp only [tow, Nd.enc, encL, slN, towK, List.map_nil, h2]
    refine ⟨?_, e⟩
    rw [encS_agg]
    simp only [tow, Nd.name, Nd.attrs, Nd.text, Nd.kids, encL, slN, towK, List.map_nil, h2]
def towS : Nat → SV
  | 0 => .pv .nilSlice
  | m + 1 => .tight 4 [[.str [97], .nilSlice, .str [], towK m]]
abbrev bxT (m : Nat) : Blk := .box (some 33) [.pv (.str [97]), .pv .nilSlice, .pv (.str []), towS m]
theorem loop8 {F : List Fr} {P : SV × List Blk → Prop} {m : Nat} (hm : m ≤ 1000) : ∀ (r k : Nat), k + r = m →
    X Y T8 [.tmp 2] F (.exit 0) ⟨mk 80 .J [(3, .i ((m + 1 : Nat) : Int)), (4, .ptr 0 0), (5, .str (docT m))], [bxT m]⟩ P →
    X Y T8 [.tmp 2] F (.loop (loopN Tryz.f8 0)) ⟨mk 80 .J [(3, .i ((m + 1 : Nat) : Int)), (4, .ptr 0 0), (5, .str (docT k)), (6, .i ((k + 1 : Nat) : Int))], [bxT k]⟩ P := by
  intro r
  induction r with
  | zero =>
    intro k e hx
    obtain rfl : k = m := by omega
    have c1 : ¬ ((k + 1 : Nat) : Int) < ((k + 1 : Nat) : Int) := by omega
    generalize ((k + 1 : Nat) : Int) = L at *
    apply X_loop_of
    · simp only [loopN, Tryz.f8, loopsOf, List.nil_append, List.append_nil, List.cons_append, List.getD_cons_succ, List.getD_cons_zero]; rfl
    simp [-Int.natCast_add, -Int.not_lt, -Int.not_le, c1]
    refine X_keep hx (by simp)
  | succ r ih =>
    intro k e hx
    have c1 : ((k + 1 : Nat) : Int) < ((m + 1 : Nat) : Int) := by omega
    have q3 := next_i (m := k + 1) (by omega)
    have hl := docT_len k
    have d1 : (docT k).length ≤ 4611686018427387903 := by omega
    have d2 : (docT k).length + 1 + 1 + 1 ≤ 4611686018427387903 := by omega
    have ih := ih (k + 1) (by omega) hx
    have d5 : 3 + (docT k).length ≤ 4611686018427387904 := by omega
    have d6 : (docT k).length ≤ 4611686018427387897 := by omega
    simp only [docT, bxT, towS] at ih
    generalize docT k = D at *
    generalize ((m + 1 : Nat) : Int) = L at *
    generalize ((k + 1 : Nat) : Int) = I at *
    generalize ((k + 1 + 1 : Nat) : Int) = I2 at *
    apply X_loop_of
    · simp only [loopN, Tryz.f8, loopsOf, List.nil_append, List.append_nil, List.cons_append, List.getD_cons_succ, List.getD_cons_zero]; rfl
    cases k with
    | zero =>
      simp only [towK] at ih
      simp [-Int.natCast_add, -Int.not_lt, -Int.not_le, c1, q3, d1, d2, d5, d6, towS]
      refine X_keep ih (by simp)
    | succ k =>
      simp only [towK] at ih
      simp [-Int.natCast_add, -Int.not_lt, -Int.not_le, c1, q3, d1, d2, d5, d6, towS]
      refine X_keep ih (by simp)
theorem x8 (a : Int) (q : (Lit.int .u8 a).wf = true) : XFn Y T8 Tryz.f8 [.int .u8 a] [] (Is (.bool true)) := by
  have ha : 0 ≤ a ∧ a ≤ 255 := by simpa [Lit.wf, IntKind.min, IntKind.max, IntKind.signed, IntKind.bits] using q
  have ht : a.tmod 40 = a % 40 := Int.tmod_eq_emod_of_nonneg ha.1
  have hm : ∃ m : Nat, m < 40 ∧ a.tmod 40 = (m : Int) := ⟨(a % 40).toNat, by omega, by omega⟩
  obtain ⟨m, hm1, hm2⟩ := hm
  have w1 : IntKind.i64.wrap (m : Int) = (m : Int) := wrap64 (by omega) (by omega)
  have w2 : IntKind.i64.wrap (1 + (m : Int)) = ((m + 1 : Nat) : Int) := by rw [show 1 + (m : Int) = ((m + 1 : Nat) : Int) by omega]; exact wrap64 (by omega) (by omega)
  have L := fun F P => loop8 (F := F) (P := P) (m := m) (by omega) m 0 (by omega)
  have f1 : F14 [] = some (.bool true) := rfl
  have hcc : (tow m).count ≤ 1000000 := by rw [tow_count]; omega
  have et : encS (tow m) = .agg [.pv (.str [97]), .pv .nilSlice, .pv (.str []), .pv (towK m)] := (tow_enc m).1
  have f2 : F22 [encS (tow m)] = some (.i (chkE (tow m))) := F22_ok (encS_ok _) hcc
  rw [tow_chk m (by omega), et] at f2
  have hlen := docT_len m
  have eS : towS 0 = .pv .nilSlice := rfl
  have eD : docT 0 = [60, 97, 47, 62] := rfl
  simp only [eS, eD] at L
  unfold XFn Tryz.f8
  rw [enter_1 _ (by decide)]
  simp [-Int.natCast_add, -Int.not_lt, -Int.not_le, hm2, w1, w2]
  refine X_keep (L _ _ ?_) (by simp)
  by_cases hlow : m < 32
  · obtain ⟨g, r1, r2⟩ := lev_low m hlow
    have f3 := F15_ok (by omega) r1
    unfold prsE at f3
    rw [if_pos r2] at f3
    have f4 : E16 [encS (tow m), encS (tow m)] = some (.bool true) := by rw [E16_ok (encS_ok _) (encS_ok _) hcc (tow_ok m), eqB_t rfl]
    have f5 : F26 [encS (tow m)] = some (.i ((tow m).depth : Nat)) := F26_ok (encS_ok _) hcc
    rw [tow_depth] at f5
    rw [if_pos hlow] at f2
    rw [et] at f3 f4 f5
    have c1 : ¬ (32 : Int) < ((m + 1 : Nat) : Int) := by omega
    generalize ((m + 1 : Nat) : Int) = M at *
    generalize docT m = D at *
    cases m with
    | zero =>
      simp only [towK] at f2 f3 f4 f5
      simp [-Int.natCast_add, -Int.not_lt, -Int.not_le, c1, T8_eq, f1, f2, f3, f4, f5, towS]
    | succ m =>
      simp only [towK] at f2 f3 f4 f5
      simp [-Int.natCast_add, -Int.not_lt, -Int.not_le, c1, T8_eq, f1, f2, f3, f4, f5, towS]
  · obtain ⟨j, rfl⟩ : ∃ j, m = j + 32 := ⟨m - 32, by omega⟩
    obtain ⟨⟨n, g, r1, r2, r3⟩, q1, q2⟩ := lev_high j (by omega)
    have f3 := F15_ok (by omega) r1
    unfold prsE at f3
    rw [if_neg (by omega), r2, r3, q1, q2] at f3
    have ez : encS zeroNd = .agg [.pv (.str []), .pv .nilSlice, .pv (.str []), .pv .nilSlice] := zeroS
    rw [ez] at f3
    rw [if_neg hlow] at f2
    have c1 : (32 : Int) < ((j + 32 + 1 : Nat) : Int) := by omega
    generalize ((j + 32 + 1 : Nat) : Int) = M at *
    generalize docT (j + 32) = D at *
    have eK : towK (j + 32) = .slice 4 [[.str [97], .nilSlice, .str [], towK (j + 31)]] := rfl
    have eT : towS (j + 32) = .tight 4 [[.str [97], .nilSlice, .str [], towK (j + 31)]] := rfl
    rw [eK] at f2
    simp [-Int.natCast_add, -Int.not_lt, -Int.not_le, c1, T8_eq, f1, f2, f3, eT]
end Go.Proofs.YtkckpmcpmngiiaaGreatDoor
