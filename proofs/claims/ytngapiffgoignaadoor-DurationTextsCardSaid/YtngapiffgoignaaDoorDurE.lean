/- The note value with a duration: the program's search and the reference's. -/
import Derived.Test.YtngapiffgoignaaDoorDurD
set_option linter.unusedSimpArgs false
set_option linter.unusedVariables false
set_option maxRecDepth 1000000
set_option maxHeartbeats 400000
namespace Go.Proofs.YtngapiffgoignaaDoor
open Go Go.Pm Go.RowKit
theorem V_range (i : Fin 40) : (-1 ≤ (V i).1 ∧ (V i).1 ≤ 8) ∧ 0 ≤ (V i).2 ∧ (V i).2 ≤ 3 := by
  have := i.isLt
  unfold V
  simp only []
  omega
theorem rel_cells (C : Cf) (x : Int × Int) : RelS C (.agg [.i x.1, .i x.2]) (encV x) := by
  have : RelL C [SV.i x.1, .i x.2] [.int .i64 x.1, .int .i64 x.2] := RelL.cons (.pv _ _ (.int _ _)) (RelL.cons (.pv _ _ (.int _ _)) (RelL.nil _))
  refine .agg _ [.int .i64 x.1, .int .i64 x.2] this.1 (fun j c hj => ?_) this.2
  have := List.mem_of_getElem? hj
  simp at this
  rcases this with rfl | rfl <;> rfl
theorem ticks38 (x : Fin 40) (w : World) : Calls Tryd.prog 38 #[encV (V x)] w fun e w' => e = .returned (.int .i64 (tkZ (V x))) ∧ Below w.heap.size w w' := by
  have hF : specFn (.pure false F38) [.agg [.i (V x).1, .i (V x).2]] (Pm.start w).H = some (.i (tkZ (V x)), []) := by
    have := V_range x
    simp [specFn, F38, this]
  have hr : RelL (Pm.start w) [.agg [.i (V x).1, .i (V x).2]] [encV (V x)] := RelL.cons (rel_cells _ _) (RelL.nil _)
  refine ((meets38 w).2 (Pm.start w) _ _ _ [] hF (Pm.start_inv w) (Pm.start_j0 w) hr).mono ?_
  rintro e w' ⟨v, C', rfl, rfl, hg⟩
  have hrel := hg.rel
  cases hrel with | pv _ _ hp =>
  cases hp
  exact ⟨rfl, Pm.start_below hg.evo⟩
def F24 : List SV → Option SV
  | [.pv (.int .i64 n)] => some (.tuple [.agg [.i (findZ n).1.1, .i (findZ n).1.2], .i (findZ n).2])
  | _ => none
theorem meets24 (W0 : World) : OkAt W0 24 F24 := by
  refine ⟨enterable_of Tryd.func24 (by kernel_rfl), ?_⟩
  intro C args vs r' H' hF I J hr
  simp only [specFn] at hF
  split at hF
  · rename_i as1 has
    split at hF
    · rename_i r hFr
      have hra := purL_rel has hr
      unfold F24 at hFr
      split at hFr
      · rename_i n
        cases hFr
        obtain ⟨u, us, rfl, h1, h2⟩ := hra.uncons
        have : us = [] := by simpa using h2.1
        subst this
        cases h1 with | pv _ _ h1 =>
        cases h1
        simp [placeR, placeL, place, pcells, pcell] at hF
        obtain ⟨rfl, rfl⟩ := hF
        refine (c24 ticks38 n C.w).mono ?_
        rintro e w' ⟨rfl, hb⟩
        refine ⟨_, C.on w', rfl, rfl, rfl, below_inv I hb, below_evo I hb, ?_⟩
        have ha : RelS (C.on w') (.agg [.i (findZ n).1.1, .i (findZ n).1.2]) (encV (findZ n).1) := rel_cells _ _
        have : RelL (C.on w') [SV.agg [.i (findZ n).1.1, .i (findZ n).1.2], .i (findZ n).2] [encV (findZ n).1, .int .i64 (findZ n).2] := RelL.cons ha (RelL.cons (.pv _ _ (.int _ _)) (RelL.nil _))
        exact .tuple _ [encV (findZ n).1, .int .i64 (findZ n).2] this.1 this.2
      · cases hFr
    · cases hF
  · cases hF
/-- The reference's search: the longest first. -/
noncomputable def T25 : FuncId → Option Pm.Spec := tab [(16, .pure false F16), (17, .pure false F38)]
theorem T25_eq (g : Nat) : T25 g = tab [(16, .pure false F16), (17, .pure false F38)] g := rfl
theorem loop25 {F : List Fr} {P : SV × List Blk → Prop} (n : Int) : ∀ (r i : Nat) (H : List Blk), i + r = 40 → H[0]? = some (.box (some 23) [.i 0, .i 0]) → 
    (∀ j, i ≤ j → j < 40 → tkZ (AV j) = n → ∀ H', P (.tuple [.agg [.i (AV j).1, .i (AV j).2], .bool true], H')) →
    ((∀ j, i ≤ j → j < 40 → tkZ (AV j) ≠ n) → X Y T25 [.cell 2 23, .tmp 3] F (.exit 0) ⟨mk 25 .J [(2, .ptr 0 0)], H⟩ P) →
    X Y T25 [.cell 2 23, .tmp 3] F (.loop (loopN Tryd.f25 0)) ⟨mk 25 .J [(0, .i n), (2, .ptr 0 0), (4, .pv (.slice 2 rowsA)), (5, .i (i : Nat))], H⟩ P := by
  intro r
  induction r with
  | zero =>
    intro i H e hH hp hx
    have e1 : i = 40 := by omega
    subst e1
    have hl : rowsA.length = 40 := rfl
    apply X_loop_of
    · simp only [loopN, Tryd.f25, loopsOf, List.nil_append, List.append_nil, List.cons_append, List.getD_cons_succ, List.getD_cons_zero]; rfl
    simp [hl]
    refine X_keep (hx fun j h1 h2 => by omega) ?_
    simp
  | succ r ih =>
    intro i H e hH hp hx
    have hi : i < 40 := by omega
    have hl : rowsA.length = 40 := rfl
    have q3 := next_i (m := i) (by omega)
    have hat : rowsA[i]? = some [.int .i64 (AV i).1, .int .i64 (AV i).2] := rowsA_at hi
    have f1 := F38_ok (AV_ok hi)
    have c3 : ((i : Nat) : Int).toNat = i := by omega
    have c4 : ((i : Nat) : Int) < 40 := by omega
    have hlt := (List.getElem?_eq_some_iff.1 hH).1
    apply X_loop_of
    · simp only [loopN, Tryd.f25, loopsOf, List.nil_append, List.append_nil, List.cons_append, List.getD_cons_succ, List.getD_cons_zero]; rfl
    simp [-Int.natCast_add, -Int.not_lt, -Int.not_le, -getElem?_pos, List.getElem?_cons_zero, List.getElem?_cons_succ, T25_eq, hl, q3, hat, f1, c3, c4, hi, hH, hlt, beqZ]
    refine ⟨fun h => ?_, fun h => ?_⟩
    · simpa using hp i (Nat.le_refl _) hi h _
    · refine X_keep (ih (i + 1) H (by omega) hH (fun j h1 h2 h3 => hp j (by omega) h2 h3) (fun h1 => hx fun j h2 h3 => ?_)) ?_
      · by_cases he : j = i
        · subst he; exact h
        · exact h1 j (by omega) h3
      · simp
theorem x25 (n : Int) : XFn Y T25 Tryd.f25 [.i n] [] (Is (.tuple [.agg [.i (findZ n).1.1, .i (findZ n).1.2], .bool (decide ((findZ n).2 = 0))])) := by
  unfold XFn Tryd.f25
  rw [enter_1 _ (by decide)]
  simp [-outR, T25_eq, F16]
  refine X_keep (loop25 n 40 0 _ rfl rfl (fun i _ h2 h3 H => ?_) (fun h1 => ?_)) ?_
  · rw [← h3, find_at h2]
    simp
  · rw [find_non fun j hj => h1 j (by omega) hj]
    simp
  · simp
def F25 : List SV → Option SV
  | [.pv (.int .i64 n)] => some (.tuple [.agg [.i (findZ n).1.1, .i (findZ n).1.2], .bool (decide ((findZ n).2 = 0))])
  | _ => none
theorem meets25 (W0 : World) : OkAt W0 25 F25 := meets_fn env (tok_cons (meets16 W0) (tok_cons (meets17 W0) tok_nil)) mixed Tryd.func25 (by kernel_rfl) (by kernel_rfl) fun args r h => by
  unfold F25 at h
  split at h
  · cases h; exact x25 _
  · cases h
end Go.Proofs.YtngapiffgoignaaDoor
