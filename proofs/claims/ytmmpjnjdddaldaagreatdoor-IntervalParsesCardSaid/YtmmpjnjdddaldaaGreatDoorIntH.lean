/- slices.MinFunc, whole; goal; Transpose, by the machine. -/
import Derived.Test.YtmmpjnjdddaldaaGreatDoorIntG
set_option linter.unusedSimpArgs false
set_option linter.unusedVariables false
set_option maxRecDepth 1000000
set_option maxHeartbeats 400000
namespace Go.Proofs.YtmmpjnjdddaldaaGreatDoor
open Go Go.Pm Go.RowKit
def minL (g : Int) (l : List P) : P := minZ g (l.getD 0 (0, 0, 0)) (l.drop 1)
theorem x39 (l : List P) (h : srt l) (g : Int) (hg : -1000 ≤ g ∧ g ≤ 1000) (H : List Blk) (k j : Nat) (hk : H[k]? = some (.box [.clo 44 [.ptr j 0]])) (hj : H[j]? = some (.box [.i g])) :
    XFn Y T39 Tryz.f46 [.pv (.slice 3 (rowP l)), .clo 47 [.ptr k 0]] H (fun x => x.1 = P3 (minL g l).1 (minL g l).2.1 (minL g l).2.2 ∧ ∃ bs, x.2 = H ++ bs) := by
  unfold XFn Tryz.f46
  rw [enter_2 _ (by decide)]
  obtain ⟨⟨h1, h2⟩, ho, hu⟩ := h
  have g0 : ∀ (b0 b1 : Blk), (H ++ [b0, b1])[H.length]? = some b0 := fun b0 b1 => by rw [List.getElem?_append_right (Nat.le_refl _)]; simp
  have g1 : ∀ (b0 b1 : Blk), (H ++ [b0, b1])[H.length + 1]? = some b1 := fun b0 b1 => by rw [List.getElem?_append_right (by omega)]; simp
  have g2 : ∀ (b0 b1 b : Blk), (H ++ [b0, b1]).set (H.length + 1) b = H ++ [b0, b] := fun b0 b1 b => by rw [List.set_append_right _ _ (by omega)]; simp
  have g3 : ∀ (b0 b1 b : Blk), (H ++ [b0, b1]).set H.length b = H ++ [b, b1] := fun b0 b1 b => by rw [List.set_append_right _ _ (Nat.le_refl _)]; simp
  have n1 : ¬ (l.length : Int) < 1 := by omega
  have r1 := rowP_at (l := l) (m := 0) (by omega)
  have o1 : inR (l.getD 0 (0, 0, 0)).1 (l.getD 0 (0, 0, 0)).2.1 (l.getD 0 (0, 0, 0)).2.2 := by
    have := List.all_eq_true.1 ho (l.getD 0 (0, 0, 0)) (List.mem_of_getElem? (i := 0) (by simp [show 0 < l.length by omega]))
    simpa using this
  have l0 : ¬ l.length = 0 := by omega
  have l1 : ¬ l = [] := fun e => by rw [e] at h1; simp at h1
  have gz : ∀ {α : Type} (b : α) (l : List α), (b :: l)[0]? = some b := fun _ _ => rfl
  unfold minL
  generalize l.getD 0 (0, 0, 0) = p at *
  simp [-Int.not_lt, -Int.not_le, -getElem?_pos, rowP_len, n1, r1, g0, g1, g2, g3, l0, l1, gz]
  refine X_keep (loop39 l h2 ho g hg k j hk hj (l.length - 1) 1 p (by omega) o1 ?_) ?_
  · simp [-getElem?_pos, g0, g1, g2, g3, gz]
  · simp
theorem meets39 (W0 : World) : Enterable Tryz.prog 46 ∧ Meets Tryz.prog W0 46 (specFn (.heap (arunAll Y T39 Tryz.f46))) := meets_heap env (tok_cons (meets2 W0) (tok_cons (meets40 W0) tok_nil)) mixed Tryz.func46 (by kernel_rfl) (by kernel_rfl)
theorem all39 (l : List P) (h : srt l) (g : Int) (hg : -1000 ≤ g ∧ g ≤ 1000) (H : List Blk) (k j : Nat) (hk : H[k]? = some (.box [.clo 44 [.ptr j 0]])) (hj : H[j]? = some (.box [.i g])) :
    ∃ bs, arunAll Y T39 Tryz.f46 [.pv (.slice 3 (rowP l)), .clo 47 [.ptr k 0]] H = some (P3 (minL g l).1 (minL g l).2.1 (minL g l).2.2, H ++ bs) := by
  obtain ⟨r, H', h1, h2, bs, h3⟩ := all_of_XFn (by rfl) (x39 l h g hg H k j hk hj)
  simp only [] at h2 h3
  exact ⟨bs, by rw [h1, h2, h3]⟩
/-- Where an interval leads. -/
noncomputable def T35 : FuncId → Option Pm.Spec := tab [(41, .pure false F45), (19, .pure false F22)]
theorem T35_eq (g : Nat) : T35 g = tab [(41, .pure false F45), (19, .pure false F22)] g := rfl
theorem goal_wraps {s a o t m : Int} (h : valid s a o) (hi : isI t m) : IntKind.i64.wrap (posZ s o + t) = posZ s o + t ∧ IntKind.i64.wrap (numZ s a o + m) = numZ s a o + m ∧ -1000 ≤ posZ s o + t ∧ posZ s o + t ≤ 1000 := by
  obtain ⟨⟨h1, h2, h3⟩, h4⟩ := h
  obtain ⟨k1, k2⟩ := hi
  unfold posZ
  exact ⟨wrap64 (by omega) (by omega), wrap64 (by omega) (by omega), by omega, by omega⟩
theorem x35 (s a o t m : Int) : XFn Y T35 Tryz.f42 [P3 s a o, I2 t m] [] (Is (if valid s a o then (if isI t m then .tuple [.i (posZ s o + t), .i (numZ s a o + m), .i 0] else .tuple [.i 0, .i 0, .i 2]) else .tuple [.i 0, .i 0, .i 18])) := by
  unfold XFn Tryz.f42
  rw [enter_2 _ (by decide)]
  by_cases h : valid s a o
  · by_cases hi : isI t m
    · obtain ⟨w1, w2, _⟩ := goal_wraps h hi
      simp [T35_eq, F45, F22, h, hi, w1, w2]
    · simp [T35_eq, F45, F22, h, hi]
  · simp [T35_eq, F45, h]
def F35 : List SV → Option SV
  | [.agg [.pv (.int .i64 s), .pv (.int .i64 a), .pv (.int .i64 o)], .agg [.pv (.int .i64 t), .pv (.int .i64 m)]] =>
    some (if valid s a o then (if isI t m then .tuple [.i (posZ s o + t), .i (numZ s a o + m), .i 0] else .tuple [.i 0, .i 0, .i 2]) else .tuple [.i 0, .i 0, .i 18])
  | _ => none
theorem meets35 (W0 : World) : OkAt W0 42 F35 := meets_fn env (tok_cons (meets45 W0) (tok_cons (meets22 W0) tok_nil)) mixed Tryz.func42 (by kernel_rfl) (by kernel_rfl) fun args r h => by
  unfold F35 at h
  split at h
  · cases h; exact x35 _ _ _ _ _
  · cases h
/-- Transpose. -/
noncomputable def T11 : FuncId → Option Pm.Spec := tab [(42, .pure false F35), (43, .pure false F36), (46, .heap (arunAll Y T39 Tryz.f46))]
theorem T11_eq (g : Nat) : T11 g = tab [(42, .pure false F35), (43, .pure false F36), (46, .heap (arunAll Y T39 Tryz.f46))] g := rfl
def trR (s a o t m : Int) : P × Int :=
  if valid s a o then (if isI t m then (if 0 ≤ numZ s a o + m ∧ numZ s a o + m ≤ 127 then (minL (posZ s o + t) (enhP (numZ s a o + m)), 0) else ((0, 0, 0), 18)) else ((0, 0, 0), 2)) else ((0, 0, 0), 18)
theorem x11 (s a o t m : Int) : XFn Y T11 Tryz.f22 [P3 s a o, I2 t m] [] (Is (.tuple [P3 (trR s a o t m).1.1 (trR s a o t m).1.2.1 (trR s a o t m).1.2.2, .i (trR s a o t m).2])) := by
  unfold XFn Tryz.f22
  rw [enter_2 _ (by decide)]
  unfold trR
  by_cases h : valid s a o
  · by_cases hi : isI t m
    · obtain ⟨w1, w2, w3, w4⟩ := goal_wraps h hi
      by_cases hn : 0 ≤ numZ s a o + m ∧ numZ s a o + m ≤ 127
      · obtain ⟨e, hs⟩ := enh_p hn
        have hF : F36 [.i (numZ s a o + m)] = some (.tuple [.pv (.slice 3 (rowP (enhP (numZ s a o + m)))), .i 0]) := by
          show some (splR _) = _
          rw [splR, if_pos hn]
        obtain ⟨bs, hA⟩ := all39 (enhP (numZ s a o + m)) hs (posZ s o + t) ⟨w3, w4⟩ [.box [.i s, .i a, .i o], .box [.i t, .i m], .box [.i 0, .i 0, .i 0], .box [.i (posZ s o + t)], .box [.clo 44 [.ptr 3 0]]] 4 3 rfl rfl
        simp [T11_eq, F35, hF, h, hi, hn, hA]
      · have hF : F36 [.i (numZ s a o + m)] = some (.tuple [.pv .nilSlice, .i 18]) := by
          show some (splR _) = _
          rw [splR, if_neg hn]
        simp [T11_eq, F35, hF, h, hi, hn]
    · simp [T11_eq, F35, h, hi]
  · simp [T11_eq, F35, h]
def F11 : List SV → Option SV
  | [.agg [.pv (.int .i64 s), .pv (.int .i64 a), .pv (.int .i64 o)], .agg [.pv (.int .i64 t), .pv (.int .i64 m)]] =>
    some (.tuple [P3 (trR s a o t m).1.1 (trR s a o t m).1.2.1 (trR s a o t m).1.2.2, .i (trR s a o t m).2])
  | _ => none
theorem meets11 (W0 : World) : OkAt W0 22 F11 := meets_fn env (tok_cons (meets35 W0) (tok_cons (meets36 W0) (tok_cons (meets39 W0) tok_nil))) mixed Tryz.func22 (by kernel_rfl) (by kernel_rfl) fun args r h => by
  unfold F11 at h
  split at h
  · cases h; exact x11 _ _ _ _ _
  · cases h
end Go.Proofs.YtmmpjnjdddaldaaGreatDoor
