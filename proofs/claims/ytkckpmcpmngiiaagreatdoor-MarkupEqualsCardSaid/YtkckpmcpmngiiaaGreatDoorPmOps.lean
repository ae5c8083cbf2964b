/- The interpreter's operations held against the model's: those that leave the world as it is. -/
import Derived.Test.YtkckpmcpmngiiaaGreatDoorPmPure
import Derived.Lib.Strings
namespace Go.Pm

theorem aShift_run {P : Program} {op : BinOp} {k k' : IntKind} {a b : Int} {p : PV} (t : TypeId) (w : World) (hop : op = .shl ∨ op = .shr) (h : aShift op k a b = some p) :
    ∃ v, (binOp op t (.int k a) (.int k' b)).run P w = .ok v w ∧ ∀ (S : Nat → Nat → Prop), RelP w S p v := by
  unfold aShift at h
  split at h
  · cases h
  · rename_i hb
    rcases hop with rfl | rfl
    · cases h; exact ⟨_, by simp [binOp, Op.shift, hb], fun S => .int _ _⟩
    · cases h; exact ⟨_, by simp [binOp, Op.shift, hb], fun S => .int _ _⟩

theorem toList_mk (l : List UInt8) : (⟨l.toArray⟩ : ByteArray).toList = l := by
  rw [ByteArray.toList_eq]

theorem beq_list (a b : List UInt8) : ((⟨a.toArray⟩ : ByteArray).toList == (⟨b.toArray⟩ : ByteArray).toList) = (a == b) := by
  rw [toList_mk, toList_mk]

theorem mk_append (a b : List UInt8) : (⟨a.toArray⟩ : ByteArray) ++ ⟨b.toArray⟩ = ⟨(a ++ b).toArray⟩ := by
  rw [← Lib.mk_data ((⟨a.toArray⟩ : ByteArray) ++ ⟨b.toArray⟩)]
  congr 1

theorem aStr_run {P : Program} {op : BinOp} {a b : List UInt8} {p : PV} (t : TypeId) (w : World) (h : aStr op a b = some p) :
    ∃ v, (binOp op t (.string ⟨a.toArray⟩) (.string ⟨b.toArray⟩)).run P w = .ok v w ∧ ∀ (S : Nat → Nat → Prop), RelP w S p v := by
  cases op <;> simp only [aStr] at h
  case add =>
    split at h
    · rename_i hl
      cases h
      refine ⟨.string ⟨(a ++ b).toArray⟩, ?_, fun S => .str _⟩
      have e1 : (⟨a.toArray⟩ : ByteArray).size = a.length := by simp [ByteArray.size]
      have e2 : (⟨b.toArray⟩ : ByteArray).size = b.length := by simp [ByteArray.size]
      simp [binOp, Op.stringOp, mk_append, e1, e2]
      omega
    · cases h
  case eql => cases h; exact ⟨_, by simp [binOp, Op.stringOp], fun S => .bool _⟩
  case neq => cases h; exact ⟨_, by simp [binOp, Op.stringOp], fun S => .bool _⟩
  case lss => cases h; exact ⟨_, by simp [binOp, Op.stringOp], fun S => .bool _⟩
  case leq => cases h; exact ⟨_, by simp [binOp, Op.stringOp], fun S => .bool _⟩
  case gtr => cases h; exact ⟨_, by simp [binOp, Op.stringOp], fun S => .bool _⟩
  case geq => cases h; exact ⟨_, by simp [binOp, Op.stringOp], fun S => .bool _⟩
  all_goals cases h

theorem aUn_run {P : Program} {C : Cf} {op : UnOp} {x s : SV} {v : Value} (h : aUn op x = some s) (hr : RelS C x v) :
    ∃ u, (Op.unary op v).run P C.w = .ok u C.w ∧ RelS C s u := by
  unfold aUn at h
  split at h
  · cases h
    cases hr with | pv _ _ hp => cases hp; exact ⟨_, by simp [Op.unary, Op.intArith], .pv _ _ (.int _ _)⟩
  · cases h
    cases hr with | pv _ _ hp => cases hp; exact ⟨_, by simp [Op.unary], .pv _ _ (.bool _)⟩
  · cases h

theorem cellAt_box {C : Cf} (I : Inv C) {t : Option TypeId} {k : Nat} {cs : List SV} {g : GB} (hH : C.H[k]? = some (.box t cs)) (hG : C.G[k]? = some g) (j : Nat) {c : SV} (hc : cs[j]? = some c) :
    ∃ u, C.w.cell? ⟨g.blk, j, none⟩ = some u ∧ RelS C c u := by
  obtain ⟨arr, T, h1, h2, h3, _⟩ := I.box k cs g hH hG
  have hj : j < arr.size := Nat.lt_of_lt_of_le (List.getElem?_eq_some_iff.1 hc).1 h2
  exact ⟨arr[j], by rw [cell_of_row _ _ _ _ _ _ h1]; simp [hj], h3 j c arr[j] hc (by simp [hj])⟩

/-- A list of related values, out of related cells. -/
theorem pick_rel {C : Cf} (cs : List SV) (cell : Nat → Option Value) (h : ∀ j c, cs[j]? = some c → ∃ u, cell j = some u ∧ RelS C c u) :
    ∃ us : List Value, us.length = cs.length ∧ (∀ j v, us[j]? = some v → cell j = some v) ∧ (∀ (j : Nat) (c : SV) (u : Value), cs[j]? = some c → us[j]? = some u → RelS C c u) := by
  induction cs generalizing cell with
  | nil => exact ⟨[], rfl, fun j v hj => by simp at hj, fun j c u hj => by simp at hj⟩
  | cons c r ih =>
    obtain ⟨u, hu, hr⟩ := h 0 c rfl
    obtain ⟨us, h1, h2, h3⟩ := ih (fun j => cell (j + 1)) (fun j c hj => h (j + 1) c (by simpa using hj))
    refine ⟨u :: us, by simp [h1], fun j v hj => ?_, fun j c' u' hj hj' => ?_⟩
    · cases j with
      | zero => simp at hj; subst hj; exact hu
      | succ j => exact h2 j v (by simpa using hj)
    · cases j with
      | zero => simp at hj hj'; subst hj; subst hj'; exact hr
      | succ j => exact h3 j c' u' (by simpa using hj) (by simpa using hj')

section
variable {P : Program} {Y : TypeId → Option Ty} (E : Env P Y)
include E

theorem loadAgg {t : TypeId} {y : Ty} (hy : Y t = some y) (hk : isAggK y.kind = true) (w : World) (b off : Nat) (us : List Value) (hl : us.length = y.size)
    (hc : ∀ j v, us[j]? = some v → w.cell? ⟨b, off + j, none⟩ = some v) :
    (Instr.loadAt t (.pointer (some ⟨b, off, none⟩))).run P w = .ok (.agg us.toArray) w := by
  have h1 := run_loadCells_list (P := P) w ⟨b, off, none⟩ us (fun j v hj => by rw [Addr.add_lit]; exact hc j v hj)
  simp only [Instr.loadAt, Instr.sureAddr, loadVar, Sem.run_bind, Sem.run_pure, Result.andThen_ok, E.isAgg hy, hk, Sem.run_ite, if_true, E.size hy, ← hl, h1]

theorem loadOne {t : TypeId} {y : Ty} (hy : Y t = some y) (hk : isAggK y.kind = false) (w : World) (b off : Nat) (u : Value) (hc : w.cell? ⟨b, off, none⟩ = some u) :
    (Instr.loadAt t (.pointer (some ⟨b, off, none⟩))).run P w = .ok u w := by
  simp only [Instr.loadAt, Instr.sureAddr, loadVar, Sem.run_bind, Sem.run_pure, Result.andThen_ok, E.isAgg hy, hk, Sem.run_ite, run_load, hc]
  rfl

theorem aLoad_run {C : Cf} (I : Inv C) {t : TypeId} {a s : SV} {v : Value} (h : aLoad Y C.H t a = some s) (hr : RelS C a v) :
    ∃ u, (Instr.loadAt t v).run P C.w = .ok u C.w ∧ RelS C s u := by
  unfold aLoad at h
  split at h
  · cases h
  · rename_i y hy
    split at h
    · rename_i k off
      split at h
      · rename_i cs hH
        cases hr with | ptr _ _ cs' g hH' hG =>
        have e : cs' = cs := by rw [hH] at hH'; cases hH'; rfl
        subst e
        split at h
        · rename_i hk
          split at h
          · rename_i hl
            cases h
            obtain ⟨us, h1, h2, h3⟩ := pick_rel (C := C) ((cs'.drop off).take y.size) (fun j => C.w.cell? ⟨g.blk, off + j, none⟩) (fun j c hj => by
              rw [List.getElem?_take] at hj
              split at hj
              · rw [List.getElem?_drop] at hj
                exact cellAt_box I hH hG (off + j) hj
              · cases hj)
            have hlen : us.length = y.size := by rw [h1]; simp; omega
            obtain ⟨arr, T, _, _, _, h4⟩ := I.box k cs' g hH hG
            refine ⟨_, loadAgg E hy hk C.w g.blk off us hlen h2, .agg _ us h1 (fun j c hj => ?_) h3⟩
            rw [List.getElem?_take] at hj
            split at hj
            · rw [List.getElem?_drop] at hj; exact h4 _ c hj
            · cases hj
          · cases h
        · rename_i hk
          obtain ⟨u, hu, hru⟩ := cellAt_box I hH hG off h
          exact ⟨u, loadOne E hy (by simpa using hk) C.w g.blk off u hu, hru⟩
      · cases h
    · rename_i cs
      cases hr with | cptr _ b off u hS hc hrp =>
      split at h
      · rename_i hk
        split at h
        · rename_i hl
          cases h
          obtain ⟨us, h1, h2, h3⟩ := pick_rel (C := C) ((cs.take y.size).map SV.pv) (fun j => C.w.cell? ⟨b, off + j, none⟩) (fun j c hj => by
            rw [List.getElem?_map, List.getElem?_take] at hj
            split at hj
            · cases hp : cs[j]? with
              | none => simp [hp] at hj
              | some p =>
                simp [hp] at hj
                subst hj
                exact ⟨u j, hc j p hp, .pv _ _ (hrp j p hp)⟩
            · cases hj)
          have hlen : us.length = y.size := by rw [h1]; simp; omega
          refine ⟨_, loadAgg E hy hk C.w b off us hlen h2, .agg _ us h1 (fun j c hj => ?_) h3⟩
          rw [List.getElem?_map] at hj
          cases hp : (cs.take y.size)[j]? with
          | none => simp [hp] at hj
          | some p => simp [hp] at hj; subst hj; rfl
        · cases h
      · rename_i hk
        split at h
        · rename_i c r
          cases h
          exact ⟨u 0, loadOne E hy (by simpa using hk) C.w b off _ (by simpa using hc 0 c rfl), .pv _ _ (hrp 0 c rfl)⟩
        · cases h
    · rename_i b off cs
      cases hr with | cadr _ _ _ u hS hc hrp =>
      split at h
      · rename_i hk
        split at h
        · rename_i hl
          cases h
          obtain ⟨us, h1, h2, h3⟩ := pick_rel (C := C) ((cs.take y.size).map SV.pv) (fun j => C.w.cell? ⟨b, off + j, none⟩) (fun j c hj => by
            rw [List.getElem?_map, List.getElem?_take] at hj
            split at hj
            · cases hp : cs[j]? with
              | none => simp [hp] at hj
              | some p =>
                simp [hp] at hj
                subst hj
                exact ⟨u j, hc j p hp, .pv _ _ (hrp j p hp)⟩
            · cases hj)
          have hlen : us.length = y.size := by rw [h1]; simp; omega
          refine ⟨_, loadAgg E hy hk C.w b off us hlen h2, .agg _ us h1 (fun j c hj => ?_) h3⟩
          rw [List.getElem?_map] at hj
          cases hp : (cs.take y.size)[j]? with
          | none => simp [hp] at hj
          | some p => simp [hp] at hj; subst hj; rfl
        · cases h
      · rename_i hk
        split at h
        · rename_i c r
          cases h
          exact ⟨u 0, loadOne E hy (by simpa using hk) C.w b off _ (by simpa using hc 0 c rfl), .pv _ _ (hrp 0 c rfl)⟩
        · cases h
    · cases h

end

end Go.Pm
