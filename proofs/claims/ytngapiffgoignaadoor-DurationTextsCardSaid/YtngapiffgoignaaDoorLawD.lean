/- The law of Decompose, by the machine. -/
import Derived.Test.YtngapiffgoignaaDoorLawC
set_option linter.unusedSimpArgs false
set_option linter.unusedVariables false
set_option maxRecDepth 1000000
set_option maxHeartbeats 1000000
namespace Go.Proofs.YtngapiffgoignaaDoor
open Go Go.Pm Go.RowKit
theorem make27 (N : Nat) (hN : N ≤ 8192) : aMakeSlice Y [] 58 ((N + 1 : Nat) : Int) ((N + 1 : Nat) : Int) = some (.bsl 0 0 (N + 1) 1, [.box none (tbC N 0)]) := by
  have e1 : kindOf Y 58 = some (.slice 3) := rfl
  have hf : ∀ m : Nat, (List.replicate m [SV.i 0]).flatten = List.replicate m (SV.i 0) := by
    intro m
    induction m with
    | zero => rfl
    | succ m ih => rw [List.replicate_succ, List.flatten_cons, ih]; rfl
  simp only [aMakeSlice, e1, Y_3]
  rw [if_pos (by refine ⟨trivial, by omega, ?_, by omega, by decide⟩; show (8 : Int) * _ ≤ _; omega)]
  have : tbC N 0 = List.replicate (N + 1) (.i 0) := by
    unfold tbC
    rw [List.replicate_succ]; rfl
  rw [this]
  simp [hf]
theorem fin27 {n : Int} {H : List Blk} {l : List (Int × Int)} {out : SV} (hd : decZ n = (listV l, 0)) (h : Acc 23 2 H (rowsV l) out) : outR H (.tuple [out, .bool true]) = some (.tuple [(decZ n).1, .bool (decide ((decZ n).2 = 0))]) := by
  rw [hd]
  have h1 := h.out
  have h2 : outL H [out, .bool true] = some [listV l, .bool true] := by
    have h4 : outP H (.bool true) = some (.bool true) := rfl
    have h5 : (if rowsV l = [] then SV.pv PV.nilSlice else SV.fresh 23 2 (rowsV l)) = listV l := by
      unfold listV
      by_cases hl : l = []
      · subst hl; rfl
      · rw [if_neg (fun e => hl (rowsV_nil.1 e)), if_neg hl]
    rw [h5] at h1
    simp only [outL, h1, h4]
  have h3 : (([out, .bool true] : List SV).filter isOwn).length ≤ 1 := by
    rcases h with ⟨_, rfl⟩ | ⟨_, k, v, rfl, _⟩ <;> simp [isOwn]
  simp only [outR]
  rw [if_pos h3, h2]; rfl
theorem x27 (n : Int) (h1 : 0 ≤ n) (h2 : n ≤ 7741440) : XFn Y T27 Tryd.f27 [.i n] [] (Is (.tuple [(decZ n).1, .bool (decide ((decZ n).2 = 0))])) := by
  unfold XFn Tryd.f27
  rw [enter_1 _ (by decide)]
  have t1 : Int.tmod n 945 = n % 945 := Int.tmod_eq_emod_of_nonneg (by omega)
  have t2 : Int.tdiv n 945 = n / 945 := Int.tdiv_eq_ediv_of_nonneg (by omega)
  by_cases h3 : n % 945 = 0
  · obtain ⟨N, hN⟩ : ∃ N : Nat, n / 945 = N := ⟨(n / 945).toNat, by omega⟩
    have hN2 : N ≤ 8192 := by omega
    have wN : IntKind.i64.wrap (N : Int) = (N : Nat) := wrap64 (by omega) (by omega)
    have w0 : IntKind.i64.wrap 0 = 0 := rfl
    have wN1 := next_i (m := N) (by omega)
    have eN : (n / 945).toNat = N := by omega
    have hd : decZ n = if fw N < 0 then (.pv .nilSlice, 17) else (listV ((canon N).map AV), 0) := by
      unfold decZ
      rw [if_neg (by omega), eN]
      by_cases hf : fw N < 0
      · rw [if_pos (.inr hf), if_pos hf]
      · rw [if_neg (by omega), if_neg hf]
    have g0 := tbC_old (N := N) (k := N) (j := N) (Nat.le_refl N)
    have k1 : ((N : Nat) : Int).toNat = N := by omega
    have k2 : N < N + 1 := by omega
    have k3 : ((N : Nat) : Int) < ((N + 1 : Nat) : Int) := by omega
    have hlen := tbC_len (Nat.le_refl N)
    simp [-Int.natCast_add, -Int.not_lt, -Int.not_le, -outR, -aMakeSlice, t1, t2, h3, beqZ, bneZ, T27_eq, F16, hN, wN, w0, wN1, make27 N hN2]
    refine X_keep (loop27b hN2 ?_ N 0 (by omega)) (by simp)
    by_cases hf : fw N < 0
    · rw [if_pos hf] at hd
      simp [-Int.natCast_add, -Int.not_lt, -Int.not_le, -getElem?_pos, List.getElem?_cons_zero, List.getElem?_cons_succ, g0, k1, k2, k3, hlen, hf, hd]
    · rw [if_neg hf] at hd
      have gu := fw_up N
      simp [-Int.natCast_add, -Int.not_lt, -Int.not_le, -getElem?_pos, -outR, List.getElem?_cons_zero, List.getElem?_cons_succ, g0, k1, k2, k3, hlen, hf]
      refine X_keep (loop27d hN2 _ N 0 [.box none (tbC N N)] [] (.pv .nilSlice) rfl (Nat.le_refl _) (by omega) (by omega) (fun j hj => by omega) (by simp; omega) rfl (.inl ⟨rfl, rfl⟩) fun H2 out' hacc => ?_) (by simp)
      simp [-outR, hacc.live]
      exact fin27 hd (by simpa using hacc)
  · have hd : decZ n = (.pv .nilSlice, 17) := by unfold decZ; rw [if_neg (by omega), if_pos (.inl h3)]
    have w1 : IntKind.i64.wrap (n % 945) = n % 945 := wrap64 (by omega) (by omega)
    simp [-Int.not_lt, -Int.not_le, t1, t2, h3, beqZ, bneZ, w1, hd]
def F27 : List SV → Option SV
  | [.pv (.int .i64 n)] => if 0 ≤ n ∧ n ≤ 7741440 then some (.tuple [(decZ n).1, .bool (decide ((decZ n).2 = 0))]) else none
  | _ => none
theorem meets27 (W0 : World) : OkAt W0 27 F27 := meets_fn env (tok_cons (meets16 W0) (tok_cons (meets17 W0) tok_nil)) mixed Tryd.func27 (by kernel_rfl) (by kernel_rfl) fun args r h => by
  unfold F27 at h
  split at h
  · split at h
    · rename_i hc; cases h; exact x27 _ hc.1 hc.2
    · cases h
  · cases h
noncomputable def T9 : FuncId → Option Pm.Spec := tab [(19, .pure false F19), (14, .pure false F14), (27, .pure false F27), (28, .pure false F28), (15, .pure false F15)]
theorem T9_eq (g : Nat) : T9 g = tab [(19, .pure false F19), (14, .pure false F14), (27, .pure false F27), (28, .pure false F28), (15, .pure false F15)] g := rfl
theorem tok9 {W0 : World} (L : Laid W0) : TOk Tryd.prog W0 T9 := tok_cons (meets19 W0) (tok_cons (meets14 L) (tok_cons (meets27 W0) (tok_cons (meets28 W0) (tok_cons (meets15 W0) tok_nil))))
theorem sum_canon : ∀ (l : List Nat) (s : Int), (∀ i ∈ l, i < 40) → sumZ (l.map AV) s = (s + 945 * ((l.map sz).sum : Nat), 0)
  | [], s, _ => by simp [sumZ]
  | i :: l, s, h => by
    have hi := h i (List.mem_cons_self ..)
    rw [List.map_cons, sumZ, if_pos (AV_ok hi), sum_canon l _ (fun j hj => h j (List.mem_cons_of_mem _ hj)), tk_sz i hi, List.map_cons, List.sum_cons]
    congr 1; omega
theorem len_canon {n : Nat} (h : 0 ≤ fw n) : (canon n).length ≤ n := by
  have := canon_len h
  have := fw_up n
  omega
theorem fw8 (n : Nat) : 8 * fw n ≤ n := by
  induction n using Nat.strongRecOn with
  | _ n ih =>
    by_cases h0 : n = 0
    · subst h0; decide
    · by_cases h : 0 ≤ fw n
      · obtain ⟨i, hi, h1, _, h3⟩ := fw_ex (by omega) h
        have : ∀ j < 40, 8 ≤ sz j := by decide
        have := this i hi
        have := ih (n - sz i) (by omega)
        omega
      · omega
theorem dec_cases (n : Int) : ((n < 0 ∨ 7741440 < n) ∧ decZ n = (.pv .nilSlice, 2)) ∨ ((0 ≤ n ∧ n ≤ 7741440) ∧ decZ n = (.pv .nilSlice, 17)) ∨
    ((0 ≤ n ∧ n ≤ 7741440) ∧ ∃ l : List Nat, decZ n = (listV (l.map AV), 0) ∧ (∀ i ∈ l, i < 40) ∧ n = 945 * ((l.map sz).sum : Nat) ∧ l.length ≤ 1024) := by
  by_cases h1 : n < 0 ∨ 7741440 < n
  · left; refine ⟨h1, ?_⟩; unfold decZ; rw [if_pos h1]
  right
  have h2 : 0 ≤ n ∧ n ≤ 7741440 := by omega
  by_cases h3 : n % 945 ≠ 0 ∨ fw (n / 945).toNat < 0
  · left; refine ⟨h2, ?_⟩; unfold decZ; rw [if_neg h1, if_pos h3]
  · right
    have hw : 0 ≤ fw (n / 945).toNat := by omega
    refine ⟨h2, canon (n / 945).toNat, by unfold decZ; rw [if_neg h1, if_neg h3], canon_lt _ hw, ?_, ?_⟩
    · rw [canon_sum _ hw]; omega
    · have := canon_len hw
      have := fw8 (n / 945).toNat
      omega
theorem F28_ok {p : PV} {l : List (Int × Int)} (hp : lstP p = some l) (hl : l.length ≤ 1000000) : F28 [.pv p] = some (if l.length ≤ 1024 then .tuple [.i (sumZ l 0).1, .i (sumZ l 0).2] else .tuple [.i 0, .i 5]) := by
  simp only [F28, hp]; rw [if_pos hl]
theorem F15_ok {p q : PV} {l m : List (Int × Int)} (hp : lstP p = some l) (hq : lstP q = some m) (hl : l.length ≤ 100000) : F15 [.pv p, .pv q] = some (.bool (decide (l = m))) := by
  simp only [F15, hp, hq]; rw [if_pos hl]
theorem lst_rows (l : List (Int × Int)) : lstP (.slice 2 (rowsV l)) = some l := by
  simp only [lstP]; exact unV_rows l
theorem x9 (n : Int) : XFn Y T9 Tryd.f9 [.i n] [] (Is (.bool true)) := by
  unfold XFn Tryd.f9
  rw [enter_1 _ (by decide)]
  have f14 : F14 [] = some (.bool true) := rfl
  rcases dec_cases n with ⟨h, hd⟩ | ⟨h, hd⟩ | ⟨h, l, hd, hl, hn, hll⟩
  · have f19 : F19 [.i n] = some (.tuple [.pv .nilSlice, .i 2]) := by simp only [F19, hd]
    rcases h with h | h
    · simp [-Int.not_lt, -Int.not_le, T9_eq, f14, f19, h]
    · have h' : ¬ n < 0 := by omega
      simp [-Int.not_lt, -Int.not_le, T9_eq, f14, f19, h, h']
  · have f19 : F19 [.i n] = some (.tuple [.pv .nilSlice, .i 17]) := by simp only [F19, hd]
    have f27 : F27 [.i n] = some (.tuple [.pv .nilSlice, .bool false]) := by simp only [F27, hd]; rw [if_pos h]; rfl
    have h1 : ¬ n < 0 := by omega
    have h2 : ¬ 7741440 < n := by omega
    simp [-Int.not_lt, -Int.not_le, T9_eq, f14, f19, f27, h1, h2]
  · have h1 : ¬ n < 0 := by omega
    have h2 : ¬ 7741440 < n := by omega
    have hs := sum_canon l 0 hl
    rw [Int.zero_add, ← hn] at hs
    have f19 : F19 [.i n] = some (.tuple [listV (l.map AV), .i 0]) := by simp only [F19, hd]
    have f27 : F27 [.i n] = some (.tuple [listV (l.map AV), .bool true]) := by simp only [F27, hd]; rw [if_pos h]; rfl
    have hfew : (l.map AV).length ≤ 1024 := by simpa using hll
    by_cases hne : l.map AV = []
    · have hl0 : l = [] := by simpa using hne
      subst hl0
      have hn0 : n = 0 := by simpa using hn
      subst hn0
      have f28 : F28 [.pv .nilSlice] = some (.tuple [.i 0, .i 0]) := rfl
      have f15 : F15 [.pv .nilSlice, .pv .nilSlice] = some (.bool true) := rfl
      have hv : listV (([] : List Nat).map AV) = .pv .nilSlice := rfl
      rw [hv] at f19 f27
      simp [-Int.not_lt, -Int.not_le, T9_eq, f14, f19, f27, f28, f15]
    · have hv : listV (l.map AV) = .fresh 23 2 (rowsV (l.map AV)) := by unfold listV; rw [if_neg hne]
      rw [hv] at f19 f27
      have hp := lst_rows (l.map AV)
      have f28 := F28_ok hp (by omega)
      rw [if_pos hfew, hs] at f28
      have f15 := F15_ok hp hp (by omega)
      simp only [decide_true] at f15
      generalize rowsV (l.map AV) = rows at *
      simp [-Int.not_lt, -Int.not_le, T9_eq, f14, f19, f27, f28, f15, h1, h2]
end Go.Proofs.YtngapiffgoignaaDoor
