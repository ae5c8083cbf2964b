/- Note values: ticks, and the value with a duration, by the machine. -/
import Derived.Test.YtooajpojikkkdaaDoorMetreH
import Derived.Test.YtooajpojikkkdaaDoorFindW
set_option linter.unusedSimpArgs false
set_option linter.unusedVariables false
set_option maxRecDepth 1000000
set_option maxHeartbeats 400000
namespace Go.Proofs.YtooajpojikkkdaaDoor
open Go Go.Pm Go.RowKit
def F67 : List SV → Option SV
  | [.agg [.pv (.int .i64 l), .pv (.int .i64 d)]] => if (-1 ≤ l ∧ l ≤ 8) ∧ 0 ≤ d ∧ d ≤ 3 then some (.i (tkZ (l, d))) else none
  | _ => none
theorem run67 (l d : Int) (hl : -1 ≤ l ∧ l ≤ 8) (hd : 0 ≤ d ∧ d ≤ 3) : prun Y T0 Tryd.f67 200 [.agg [.i l, .i d]] = some (.i (tkZ (l, d))) := by
  rcases (by omega : l = -1 ∨ l = 0 ∨ l = 1 ∨ l = 2 ∨ l = 3 ∨ l = 4 ∨ l = 5 ∨ l = 6 ∨ l = 7 ∨ l = 8) with rfl | rfl | rfl | rfl | rfl | rfl | rfl | rfl | rfl | rfl <;>
    rcases (by omega : d = 0 ∨ d = 1 ∨ d = 2 ∨ d = 3) with rfl | rfl | rfl | rfl <;> kernel_rfl
theorem run18 (l d : Int) (hl : -1 ≤ l ∧ l ≤ 8) (hd : 0 ≤ d ∧ d ≤ 3) : prun Y T0 Tryd.f18 200 [.agg [.i l, .i d]] = some (.i (tkZ (l, d))) := by
  rcases (by omega : l = -1 ∨ l = 0 ∨ l = 1 ∨ l = 2 ∨ l = 3 ∨ l = 4 ∨ l = 5 ∨ l = 6 ∨ l = 7 ∨ l = 8) with rfl | rfl | rfl | rfl | rfl | rfl | rfl | rfl | rfl | rfl <;>
    rcases (by omega : d = 0 ∨ d = 1 ∨ d = 2 ∨ d = 3) with rfl | rfl | rfl | rfl <;> kernel_rfl
theorem meets67 (W0 : World) : OkAt W0 67 F67 := ⟨enterable_of Tryd.func67 (by kernel_rfl), meets_prun env tok_nil mixed Tryd.func67 rfl (by kernel_rfl) fun args r h => by
  unfold F67 at h
  split at h
  · split at h
    · rename_i hc; cases h; exact ⟨200, run67 _ _ hc.1 hc.2⟩
    · cases h
  · cases h⟩
theorem meets18 (W0 : World) : OkAt W0 18 F67 := ⟨enterable_of Tryd.func18 (by kernel_rfl), meets_prun env tok_nil mixed Tryd.func18 rfl (by kernel_rfl) fun args r h => by
  unfold F67 at h
  split at h
  · split at h
    · rename_i hc; cases h; exact ⟨200, run18 _ _ hc.1 hc.2⟩
    · cases h
  · cases h⟩
theorem V_range (i : Fin 40) : (-1 ≤ (V i).1 ∧ (V i).1 ≤ 8) ∧ 0 ≤ (V i).2 ∧ (V i).2 ≤ 3 := by
  have := i.isLt
  unfold V
  simp only []
  omega
theorem ticks67 (x : Fin 40) (w : World) : Calls Tryd.prog 67 #[encV (V x)] w fun e w' => e = .returned (.int .i64 (tkZ (V x))) ∧ Below w.heap.size w w' := by
  have hF : specFn (.pure false F67) [.agg [.i (V x).1, .i (V x).2]] (Pm.start w).H = some (.i (tkZ (V x)), []) := by
    have := V_range x
    simp [specFn, F67, this]
  have hr : RelL (Pm.start w) [.agg [.i (V x).1, .i (V x).2]] [encV (V x)] := by
    refine RelL.cons ?_ (RelL.nil _)
    have : RelL (Pm.start w) [SV.i (V x).1, .i (V x).2] [.int .i64 (V x).1, .int .i64 (V x).2] := RelL.cons (.pv _ _ (.int _ _)) (RelL.cons (.pv _ _ (.int _ _)) (RelL.nil _))
    refine .agg _ [.int .i64 (V x).1, .int .i64 (V x).2] this.1 (fun j c hj => ?_) this.2
    have := List.mem_of_getElem? hj
    simp at this
    rcases this with rfl | rfl <;> rfl
  refine ((meets67 w).2 (Pm.start w) _ _ _ [] hF (Pm.start_inv w) (Pm.start_j0 w) hr).mono ?_
  rintro e w' ⟨v, C', rfl, rfl, hg⟩
  have hrel := hg.rel
  cases hrel with | pv _ _ hp =>
  cases hp
  exact ⟨rfl, Pm.start_below hg.evo⟩
def F55 : List SV → Option SV
  | [.pv (.int .i64 n)] => some (.tuple [.agg [.i (findZ n).1.1, .i (findZ n).1.2], .i (findZ n).2])
  | _ => none
theorem meets55 (W0 : World) : OkAt W0 55 F55 := by
  refine ⟨enterable_of Tryd.func55 (by kernel_rfl), ?_⟩
  intro C args vs r' H' hF I J hr
  simp only [specFn] at hF
  split at hF
  · rename_i as1 has
    split at hF
    · rename_i r hFr
      have hra := purL_rel has hr
      unfold F55 at hFr
      split at hFr
      · rename_i n
        cases hFr
        obtain ⟨u, us, rfl, h1, h2⟩ := hra.uncons
        have : us = [] := by simpa using h2.1
        subst this
        cases h1 with | pv _ _ h1 =>
        cases h1
        simp [placeR, placeL, place, pcells, pcell] at hF
        obtain ⟨rfl, rfl⟩ := hF
        refine (c55 ticks67 n C.w).mono ?_
        rintro e w' ⟨rfl, hb⟩
        refine ⟨_, C.on w', rfl, rfl, rfl, below_inv I hb, below_evo I hb, ?_⟩
        have ha : RelS (C.on w') (.agg [.i (findZ n).1.1, .i (findZ n).1.2]) (encV (findZ n).1) := by
          have : RelL (C.on w') [SV.i (findZ n).1.1, .i (findZ n).1.2] [.int .i64 (findZ n).1.1, .int .i64 (findZ n).1.2] := RelL.cons (.pv _ _ (.int _ _)) (RelL.cons (.pv _ _ (.int _ _)) (RelL.nil _))
          refine .agg _ [.int .i64 (findZ n).1.1, .int .i64 (findZ n).1.2] this.1 (fun j c hj => ?_) this.2
          have := List.mem_of_getElem? hj
          simp at this
          rcases this with rfl | rfl <;> rfl
        have : RelL (C.on w') [SV.agg [.i (findZ n).1.1, .i (findZ n).1.2], .i (findZ n).2] [encV (findZ n).1, .int .i64 (findZ n).2] := RelL.cons ha (RelL.cons (.pv _ _ (.int _ _)) (RelL.nil _))
        exact .tuple _ [encV (findZ n).1, .int .i64 (findZ n).2] this.1 this.2
      · cases hFr
    · cases hF
  · cases hF
/-- The reference's search: the same order. -/
noncomputable def T57 : FuncId → Option Pm.Spec := tab [(18, .pure false F67)]
theorem T57_eq (g : Nat) : T57 g = tab [(18, .pure false F67)] g := rfl
def Vn (i : Nat) : Int × Int := (((i / 4 : Nat) : Int) - 1, ((i % 4 : Nat) : Int))
theorem Vn_at (k d : Nat) (hd : d < 4) : Vn (4 * k + d) = ((k : Int) - 1, (d : Int)) := by
  unfold Vn
  have e1 : (4 * k + d) / 4 = k := by omega
  have e2 : (4 * k + d) % 4 = d := by omega
  rw [e1, e2]
theorem inner57 {F : List Fr} {P : SV × List Blk → Prop} (n : Int) (k : Nat) (hk : k < 10) : ∀ (r d : Nat) (Hx : List Blk), d + r = 4 →
    (∀ i, 4 * k + d ≤ i → i < 4 * (k + 1) → tkZ (Vn i) = n → (∀ j, 4 * k + d ≤ j → j < i → tkZ (Vn j) ≠ n) → ∀ H, P (.tuple [.agg [.i (Vn i).1, .i (Vn i).2], .bool true], H)) →
    ((∀ j, 4 * k + d ≤ j → j < 4 * (k + 1) → tkZ (Vn j) ≠ n) → ∀ Hx', X Y T57 [.cell 2 36, .tmp 3] F (.exit 2) ⟨mk 24 .J [(0, .i n), (2, .ptr 0 0), (4, .i ((k : Int) - 1))], .box [.i 0, .i 0] :: Hx'⟩ P) →
    X Y T57 [.cell 2 36, .tmp 3] F (.loop (loopN Tryd.f57 1)) ⟨mk 24 .J [(0, .i n), (2, .ptr 0 0), (4, .i ((k : Int) - 1)), (5, .i (d : Nat))], .box [.i 0, .i 0] :: Hx⟩ P := by
  intro r
  induction r with
  | zero =>
    intro d Hx e hp hx
    have e1 : d = 4 := by omega
    subst e1
    apply X_loop_of
    · simp only [loopN, Tryd.f57, loopsOf, List.nil_append, List.append_nil, List.cons_append, List.getD_cons_succ, List.getD_cons_zero]; rfl
    simp
    refine X_keep (hx (fun j h1 h2 => by omega) Hx) ?_
    simp
  | succ r ih =>
    intro d Hx e hp hx
    have hd : d < 4 := by omega
    have q2 : (d : Int) ≤ 3 := by omega
    have q3 := next_i (m := d) (by omega)
    have hv := Vn_at k d hd
    have c1 : -1 ≤ (k : Int) - 1 := by omega
    have c2 : (k : Int) - 1 ≤ 8 := by omega
    apply X_loop_of
    · simp only [loopN, Tryd.f57, loopsOf, List.nil_append, List.append_nil, List.cons_append, List.getD_cons_succ, List.getD_cons_zero]; rfl
    simp [-Int.natCast_add, -Int.not_lt, -Int.not_le, q2, q3, T57_eq, F67, c1, c2]
    refine ⟨fun h => ?_, fun h => ?_⟩
    · have := hp (4 * k + d) (Nat.le_refl _) (by omega) (by rw [hv]; exact h) (fun j h1 h2 => by omega)
      rw [hv] at this
      exact this _
    · refine X_keep (ih (d + 1) (Hx ++ [.box [.i ((k : Int) - 1), .i (d : Nat)]]) (by omega) (fun i h1 h2 h3 h4 => hp i (by omega) h2 h3 fun j h5 h6 => ?_) (fun h1 => hx fun j h2 h3 => ?_)) ?_
      · by_cases he : j = 4 * k + d
        · subst he; rw [hv]; exact h
        · exact h4 j (by omega) h6
      · by_cases he : j = 4 * k + d
        · subst he; rw [hv]; exact h
        · exact h1 j (by omega) h3
      · simp
theorem outer57 {F : List Fr} {P : SV × List Blk → Prop} (n : Int) : ∀ (r k : Nat) (Hx : List Blk), k + r = 10 →
    (∀ i, 4 * k ≤ i → i < 40 → tkZ (Vn i) = n → (∀ j, 4 * k ≤ j → j < i → tkZ (Vn j) ≠ n) → ∀ H, P (.tuple [.agg [.i (Vn i).1, .i (Vn i).2], .bool true], H)) →
    ((∀ j, 4 * k ≤ j → j < 40 → tkZ (Vn j) ≠ n) → ∀ Hx', X Y T57 [.cell 2 36, .tmp 3] F (.exit 0) ⟨mk 24 .J [(2, .ptr 0 0)], .box [.i 0, .i 0] :: Hx'⟩ P) →
    X Y T57 [.cell 2 36, .tmp 3] F (.loop (loopN Tryd.f57 0)) ⟨mk 24 .J [(0, .i n), (2, .ptr 0 0), (4, .i ((k : Int) - 1))], .box [.i 0, .i 0] :: Hx⟩ P := by
  intro r
  induction r with
  | zero =>
    intro k Hx e hp hx
    have e1 : k = 10 := by omega
    subst e1
    apply X_loop_of
    · simp only [loopN, Tryd.f57, loopsOf, List.nil_append, List.append_nil, List.cons_append, List.getD_cons_succ, List.getD_cons_zero]; rfl
    simp
    refine X_keep (hx (fun j h1 h2 => by omega) Hx) ?_
    simp
  | succ r ih =>
    intro k Hx e hp hx
    have hk : k < 10 := by omega
    have q2 : (k : Int) - 1 ≤ 8 := by omega
    have q3 : IntKind.i64.wrap ((k : Int) - 1 + 1) = ((k + 1 : Nat) : Int) - 1 := by rw [show (k : Int) - 1 + 1 = ((k + 1 : Nat) : Int) - 1 by omega]; exact wrap64 (by omega) (by omega)
    apply X_loop_of
    · simp only [loopN, Tryd.f57, loopsOf, List.nil_append, List.append_nil, List.cons_append, List.getD_cons_succ, List.getD_cons_zero]; rfl
    simp [-Int.natCast_add, -Int.not_lt, -Int.not_le, q2]
    refine X_keep (inner57 n k hk 4 0 Hx rfl (fun i h1 h2 h3 h4 => hp i (by omega) (by omega) h3 fun j h5 h6 => h4 j (by omega) h6) (fun h1 Hx' => ?_)) ?_
    · simp [-Int.natCast_add, -Int.not_lt, -Int.not_le, q3]
      refine X_keep (ih (k + 1) Hx' (by omega) (fun i h2 h3 h4 h5 => hp i (by omega) h3 h4 fun j h6 h7 => ?_) (fun h2 => hx fun j h3 h4 => ?_)) ?_
      · by_cases he : j < 4 * (k + 1)
        · exact h1 j (by omega) he
        · exact h5 j (by omega) h7
      · by_cases he : j < 4 * (k + 1)
        · exact h1 j (by omega) he
        · exact h2 j (by omega) h4
      · simp; exact wrap64 (by omega) (by omega)
    · simp
theorem V_Vn (i : Fin 40) : V i = Vn i.val := rfl
theorem mem_take_idx {i : Nat} {y : Fin 40} (h : y ∈ idx.take i) : y.val < i := by
  obtain ⟨j, hj⟩ := List.getElem?_of_mem h
  rw [List.getElem?_take] at hj
  split at hj
  · rename_i hlt
    have hj' := (List.getElem?_eq_some_iff.1 hj)
    obtain ⟨h1, h2⟩ := hj'
    simp [idx] at h2
    have : y.val = j := by rw [← h2]
    omega
  · cases hj
theorem find_first {n : Int} {i : Nat} (hi : i < 40) (h1 : tkZ (Vn i) = n) (h2 : ∀ j, j < i → tkZ (Vn j) ≠ n) : findZ n = (Vn i, 0) := by
  have := find_of (n := n) (p := idx.take i) (x := ⟨i, hi⟩) (by rw [take_snoc hi]; exact List.take_prefix _ _) (fun y hy => by rw [V_Vn]; exact h2 _ (mem_take_idx hy)) h1
  exact this
theorem find_never {n : Int} (h2 : ∀ j, j < 40 → tkZ (Vn j) ≠ n) : findZ n = ((0, 0), 17) := find_no fun y _ => by rw [V_Vn]; exact h2 _ y.isLt
theorem x57 (n : Int) : XFn Y T57 Tryd.f57 [.i n] [] (Is (.tuple [.agg [.i (findZ n).1.1, .i (findZ n).1.2], .bool (decide ((findZ n).2 = 0))])) := by
  unfold XFn Tryd.f57
  rw [enter_1 _ (by decide)]
  simp [-outR]
  refine X_keep (outer57 n 10 0 [] rfl (fun i h1 h2 h3 h4 H => ?_) (fun h1 Hx' => ?_)) ?_
  · rw [find_first h2 h3 fun j hj => h4 j (by omega) hj]
    simp
  · rw [find_never fun j hj => h1 j (by omega) hj]
    simp
  · simp
def F57 : List SV → Option SV
  | [.pv (.int .i64 n)] => some (.tuple [.agg [.i (findZ n).1.1, .i (findZ n).1.2], .bool (decide ((findZ n).2 = 0))])
  | _ => none
theorem meets57 (W0 : World) : OkAt W0 57 F57 := meets_fn env (tok_cons (meets18 W0) tok_nil) mixed Tryd.func57 (by kernel_rfl) (by kernel_rfl) fun args r h => by
  unfold F57 at h
  split at h
  · cases h; exact x57 _
  · cases h
end Go.Proofs.YtooajpojikkkdaaDoor
