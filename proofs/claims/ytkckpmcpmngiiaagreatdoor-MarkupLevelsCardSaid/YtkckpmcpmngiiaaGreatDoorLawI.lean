/- The law Levels. -/
import Derived.Test.YtkckpmcpmngiiaaGreatDoorLawA
import Derived.Test.YtkckpmcpmngiiaaGreatDoorLawC
set_option linter.unusedSimpArgs false
set_option linter.unusedVariables false
set_option maxRecDepth 1000000
set_option maxHeartbeats 1000000
namespace Go.Proofs.YtkckpmcpmngiiaaGreatDoor
open Go Go.Pm Go.RowKit
/-- An element in an element, and so on; its text. -/
def tow : Nat → Nd
  | 0 => .mk [97] [] [] []
  | m + 1 => .mk [97] [] [] [tow m]
def docT : Nat → Bs
  | 0 => [60, 97, 47, 62]
  | m + 1 => ([60, 97, 62] ++ docT m) ++ [60, 47, 97, 62]
theorem docT_len : ∀ m : Nat, (docT m).length = 4 + 7 * m
  | 0 => rfl
  | m + 1 => by
    have := docT_len m
    simp only [docT, List.length_append, List.length_cons, List.length_nil]; omega
theorem tow_depth : ∀ m : Nat, (tow m).depth = m + 1
  | 0 => by simp only [tow, Nd.depth, depthL]
  | m + 1 => by
    have := tow_depth m
    simp only [tow, Nd.depth, depthL]; omega
theorem tow_count : ∀ m : Nat, (tow m).count = m + 1
  | 0 => by simp only [tow, Nd.count, countL]
  | m + 1 => by
    have := tow_count m
    simp only [tow, Nd.count, countL]; omega
theorem tow_each : ∀ m : Nat, (tow m).eachE = 0
  | 0 => by decide
  | m + 1 => by
    have h := tow_each m
    rw [each_eq]
    have : ownE (tow (m + 1)) = 0 := rfl
    rw [if_neg (by simp [this])]
    simp only [tow, Nd.kids, eachL]
    rw [if_neg (by simp [h])]
theorem tow_ok : ∀ m : Nat, (tow m).ok = true
  | 0 => by rw [ok_eq]; simp [tow, Nd.attrs, Nd.kids, okL]
  | m + 1 => by
    have := tow_ok m
    rw [ok_eq]; simp [tow, Nd.attrs, Nd.kids, okL, this]
theorem tow_chk (m : Nat) (h : m < 1000) : chkE (tow m) = if m < 32 then 0 else 9 := by
  unfold chkE
  rw [tow_depth, tow_count, tow_each]
  by_cases h2 : m < 32
  · rw [if_pos h2, if_pos ⟨by omega, by omega⟩]
  · rw [if_neg h2, if_neg (by omega)]
theorem lev0 : parseR (docT 0) = some (tow 0, ⟨4, 1, 0⟩) := by kernel_rfl
theorem lev1 : parseR (docT 1) = some (tow 1, ⟨11, 2, 0⟩) := by kernel_rfl
theorem lev2 : parseR (docT 2) = some (tow 2, ⟨18, 3, 0⟩) := by kernel_rfl
theorem lev3 : parseR (docT 3) = some (tow 3, ⟨25, 4, 0⟩) := by kernel_rfl
theorem lev4 : parseR (docT 4) = some (tow 4, ⟨32, 5, 0⟩) := by kernel_rfl
theorem lev5 : parseR (docT 5) = some (tow 5, ⟨39, 6, 0⟩) := by kernel_rfl
theorem lev6 : parseR (docT 6) = some (tow 6, ⟨46, 7, 0⟩) := by kernel_rfl
theorem lev7 : parseR (docT 7) = some (tow 7, ⟨53, 8, 0⟩) := by kernel_rfl
theorem lev8 : parseR (docT 8) = some (tow 8, ⟨60, 9, 0⟩) := by kernel_rfl
theorem lev9 : parseR (docT 9) = some (tow 9, ⟨67, 10, 0⟩) := by kernel_rfl
theorem lev10 : parseR (docT 10) = some (tow 10, ⟨74, 11, 0⟩) := by kernel_rfl
theorem lev11 : parseR (docT 11) = some (tow 11, ⟨81, 12, 0⟩) := by kernel_rfl
theorem lev12 : parseR (docT 12) = some (tow 12, ⟨88, 13, 0⟩) := by kernel_rfl
theorem lev13 : parseR (docT 13) = some (tow 13, ⟨95, 14, 0⟩) := by kernel_rfl
theorem lev14 : parseR (docT 14) = some (tow 14, ⟨102, 15, 0⟩) := by kernel_rfl
theorem lev15 : parseR (docT 15) = some (tow 15, ⟨109, 16, 0⟩) := by kernel_rfl
theorem lev16 : parseR (docT 16) = some (tow 16, ⟨116, 17, 0⟩) := by kernel_rfl
theorem lev17 : parseR (docT 17) = some (tow 17, ⟨123, 18, 0⟩) := by kernel_rfl
theorem lev18 : parseR (docT 18) = some (tow 18, ⟨130, 19, 0⟩) := by kernel_rfl
theorem lev19 : parseR (docT 19) = some (tow 19, ⟨137, 20, 0⟩) := by kernel_rfl
theorem lev20 : parseR (docT 20) = some (tow 20, ⟨144, 21, 0⟩) := by kernel_rfl
theorem lev21 : parseR (docT 21) = some (tow 21, ⟨151, 22, 0⟩) := by kernel_rfl
theorem lev22 : parseR (docT 22) = some (tow 22, ⟨158, 23, 0⟩) := by kernel_rfl
theorem lev23 : parseR (docT 23) = some (tow 23, ⟨165, 24, 0⟩) := by kernel_rfl
theorem lev24 : parseR (docT 24) = some (tow 24, ⟨172, 25, 0⟩) := by kernel_rfl
theorem lev25 : parseR (docT 25) = some (tow 25, ⟨179, 26, 0⟩) := by kernel_rfl
theorem lev26 : parseR (docT 26) = some (tow 26, ⟨186, 27, 0⟩) := by kernel_rfl
theorem lev27 : parseR (docT 27) = some (tow 27, ⟨193, 28, 0⟩) := by kernel_rfl
theorem lev28 : parseR (docT 28) = some (tow 28, ⟨200, 29, 0⟩) := by kernel_rfl
theorem lev29 : parseR (docT 29) = some (tow 29, ⟨207, 30, 0⟩) := by kernel_rfl
theorem lev30 : parseR (docT 30) = some (tow 30, ⟨214, 31, 0⟩) := by kernel_rfl
theorem lev31 : parseR (docT 31) = some (tow 31, ⟨221, 32, 0⟩) := by kernel_rfl
theorem lev32 : (parseR (docT 32)).map (fun x => (x.2.at', x.2.e)) = some (96, 9) := by kernel_rfl
theorem levc32 : Lib.countByte ((docT 32).take 96) 10 = 0 := by kernel_rfl
theorem levi32 : Lib.lastIndexByte ⟨((docT 32).take 96).toArray⟩ 10 = -1 := by kernel_rfl
theorem lev33 : (parseR (docT 33)).map (fun x => (x.2.at', x.2.e)) = some (96, 9) := by kernel_rfl
theorem levc33 : Lib.countByte ((docT 33).take 96) 10 = 0 := by kernel_rfl
theorem levi33 : Lib.lastIndexByte ⟨((docT 33).take 96).toArray⟩ 10 = -1 := by kernel_rfl
theorem lev34 : (parseR (docT 34)).map (fun x => (x.2.at', x.2.e)) = some (96, 9) := by kernel_rfl
theorem levc34 : Lib.countByte ((docT 34).take 96) 10 = 0 := by kernel_rfl
theorem levi34 : Lib.lastIndexByte ⟨((docT 34).take 96).toArray⟩ 10 = -1 := by kernel_rfl
theorem lev35 : (parseR (docT 35)).map (fun x => (x.2.at', x.2.e)) = some (96, 9) := by kernel_rfl
theorem levc35 : Lib.countByte ((docT 35).take 96) 10 = 0 := by kernel_rfl
theorem levi35 : Lib.lastIndexByte ⟨((docT 35).take 96).toArray⟩ 10 = -1 := by kernel_rfl
theorem lev36 : (parseR (docT 36)).map (fun x => (x.2.at', x.2.e)) = some (96, 9) := by kernel_rfl
theorem levc36 : Lib.countByte ((docT 36).take 96) 10 = 0 := by kernel_rfl
theorem levi36 : Lib.lastIndexByte ⟨((docT 36).take 96).toArray⟩ 10 = -1 := by kernel_rfl
theorem lev37 : (parseR (docT 37)).map (fun x => (x.2.at', x.2.e)) = some (96, 9) := by kernel_rfl
theorem levc37 : Lib.countByte ((docT 37).take 96) 10 = 0 := by kernel_rfl
theorem levi37 : Lib.lastIndexByte ⟨((docT 37).take 96).toArray⟩ 10 = -1 := by kernel_rfl
theorem lev38 : (parseR (docT 38)).map (fun x => (x.2.at', x.2.e)) = some (96, 9) := by kernel_rfl
theorem levc38 : Lib.countByte ((docT 38).take 96) 10 = 0 := by kernel_rfl
theorem levi38 : Lib.lastIndexByte ⟨((docT 38).take 96).toArray⟩ 10 = -1 := by kernel_rfl
theorem lev39 : (parseR (docT 39)).map (fun x => (x.2.at', x.2.e)) = some (96, 9) := by kernel_rfl
theorem levc39 : Lib.countByte ((docT 39).take 96) 10 = 0 := by kernel_rfl
theorem levi39 : Lib.lastIndexByte ⟨((docT 39).take 96).toArray⟩ 10 = -1 := by kernel_rfl
theorem lev_low : ∀ m : Nat, m < 32 → ∃ g, parseR (docT m) = some (tow m, g) ∧ g.e = 0
  | 0, _ => ⟨_, lev0, rfl⟩
  | 1, _ => ⟨_, lev1, rfl⟩
  | 2, _ => ⟨_, lev2, rfl⟩
  | 3, _ => ⟨_, lev3, rfl⟩
  | 4, _ => ⟨_, lev4, rfl⟩
  | 5, _ => ⟨_, lev5, rfl⟩
  | 6, _ => ⟨_, lev6, rfl⟩
  | 7, _ => ⟨_, lev7, rfl⟩
  | 8, _ => ⟨_, lev8, rfl⟩
  | 9, _ => ⟨_, lev9, rfl⟩
  | 10, _ => ⟨_, lev10, rfl⟩
  | 11, _ => ⟨_, lev11, rfl⟩
  | 12, _ => ⟨_, lev12, rfl⟩
  | 13, _ => ⟨_, lev13, rfl⟩
  | 14, _ => ⟨_, lev14, rfl⟩
  | 15, _ => ⟨_, lev15, rfl⟩
  | 16, _ => ⟨_, lev16, rfl⟩
  | 17, _ => ⟨_, lev17, rfl⟩
  | 18, _ => ⟨_, lev18, rfl⟩
  | 19, _ => ⟨_, lev19, rfl⟩
  | 20, _ => ⟨_, lev20, rfl⟩
  | 21, _ => ⟨_, lev21, rfl⟩
  | 22, _ => ⟨_, lev22, rfl⟩
  | 23, _ => ⟨_, lev23, rfl⟩
  | 24, _ => ⟨_, lev24, rfl⟩
  | 25, _ => ⟨_, lev25, rfl⟩
  | 26, _ => ⟨_, lev26, rfl⟩
  | 27, _ => ⟨_, lev27, rfl⟩
  | 28, _ => ⟨_, lev28, rfl⟩
  | 29, _ => ⟨_, lev29, rfl⟩
  | 30, _ => ⟨_, lev30, rfl⟩
  | 31, _ => ⟨_, lev31, rfl⟩
  | m + 32, h => by omega
theorem lev_of {m : Nat} (h : (parseR (docT m)).map (fun x => (x.2.at', x.2.e)) = some (96, 9)) : ∃ n g, parseR (docT m) = some (n, g) ∧ g.at' = 96 ∧ g.e = 9 := by
  cases hp : parseR (docT m) with
  | none => rw [hp] at h; cases h
  | some x =>
    rw [hp] at h
    obtain ⟨n, g⟩ := x
    simp only [Option.map_some, Option.some.injEq, Prod.mk.injEq] at h
    exact ⟨n, g, rfl, h.1, h.2⟩
theorem lev_high : ∀ k : Nat, k < 8 → (∃ n g, parseR (docT (k + 32)) = some (n, g) ∧ g.at' = 96 ∧ g.e = 9) ∧ Lib.countByte ((docT (k + 32)).take 96) 10 = 0 ∧ Lib.lastIndexByte ⟨((docT (k + 32)).take 96).toArray⟩ 10 = -1
  | 0, _ => ⟨lev_of lev32, levc32, levi32⟩
  | 1, _ => ⟨lev_of lev33, levc33, levi33⟩
  | 2, _ => ⟨lev_of lev34, levc34, levi34⟩
  | 3, _ => ⟨lev_of lev35, levc35, levi35⟩
  | 4, _ => ⟨lev_of lev36, levc36, levi36⟩
  | 5, _ => ⟨lev_of lev37, levc37, levi37⟩
  | 6, _ => ⟨lev_of lev38, levc38, levi38⟩
  | 7, _ => ⟨lev_of lev39, levc39, levi39⟩
  | k + 8, h => by omega
end Go.Proofs.YtkckpmcpmngiiaaGreatDoor
