/- The binary operations of the interpreter, held against the model's. -/
import Derived.Test.YtkckpmcpmngiiaaGreatDoorPmEq
set_option maxHeartbeats 1000000
namespace Go.Pm

def plainV : Value → Bool
  | .int _ _ | .float _ _ | .complex _ _ _ | .string _ | .tuple _ | .map _ | .chan _ => false
  | _ => true

theorem eql_run {P : Program} (t : TypeId) (a b : Value) (w : World) (h : plainV a = true) : (binOp .eql t a b).run P w = ((Op.equal t a b).run P w).andThen fun r w' => .ok (.bool r) w' := by
  cases a <;> simp [plainV] at h <;> simp [binOp]

theorem neq_run {P : Program} (t : TypeId) (a b : Value) (w : World) (h : plainV a = true) : (binOp .neq t a b).run P w = ((Op.equal t a b).run P w).andThen fun r w' => .ok (.bool (!r)) w' := by
  cases a <;> simp [plainV] at h <;> simp [binOp]

theorem equal_run {P : Program} (t : TypeId) (x y : Value) (w : World) : (Op.equal t x y).run P w = (Op.equalIn (9999 + 1) t x y).run P w := rfl

theorem guard_any {P : Program} {op : BinOp} {t : TypeId} {x y : Operand} {a b : Value} (w : World) (h1 : ¬ (a = .nilIface ∧ b = .nilIface)) (h2 : ∀ xs, a ≠ .agg xs) : (eqGuard op t x y a b).run P w = .ok () w := by
  unfold eqGuard
  cases op <;> simp
  all_goals (split <;> first | (exact absurd ⟨rfl, rfl⟩ h1) | (exact absurd rfl (h2 _)) | simp)

section
variable {P : Program} {Y : TypeId → Option Ty} (E : Env P Y)
include E

theorem aeq_in {C : Cf} {t : TypeId} {x y : SV} {a b : Value} {r : Bool} (dp : Nat) (hdp : 6 ≤ dp) (h : aeq Y t x y = some r) (hx : RelS C x a) (hy : RelS C y b) :
    (Op.equalIn (dp + 1) t a b).run P C.w = .ok r C.w ∧ ¬ (a = .nilIface ∧ b = .nilIface) ∧ ((∀ xs, a ≠ .agg xs) ∨ P.eqGuardType P.depth t = false) ∧
      plainV a = true := by
  unfold aeq at h
  split at h
  · rename_i a1 b1 hk
    cases h
    cases hx with | pv _ _ hx => cases hx; cases hy with | pv _ _ hy => cases hy; exact ⟨by simp [Op.equalIn, run_underlying (E.bool hk)], by simp, by simp, rfl⟩
  · rename_i e hk
    cases h
    cases hx with | pv _ _ hx => cases hx; cases hy with | pv _ _ hy => cases hy; exact ⟨by simp [Op.equalIn, run_underlying (E.slice hk)], by simp, by simp, rfl⟩
  · rename_i e _ _ hk
    cases h
    cases hx with | pv _ _ hx => cases hx; cases hy with | pv _ _ hy => cases hy; exact ⟨by simp [Op.equalIn, run_underlying (E.slice hk)], by simp, by simp, rfl⟩
  · rename_i e _ _ _ _ hk
    cases h
    cases hx with | pv _ _ hx => cases hx; cases hy with | own _ _ _ _ _ _ _ _ _ _ _ hy _ => cases hy; exact ⟨by simp [Op.equalIn, run_underlying (E.slice hk)], by simp, by simp, rfl⟩
  · rename_i e _ _ hk
    cases h
    cases hx with | pv _ _ hx => cases hx; cases hy with | tight _ _ _ _ hy => exact ⟨by simp [Op.equalIn, run_underlying (E.slice hk)], by simp, by simp, rfl⟩
  · rename_i e _ _ _ _ hk
    cases h
    cases hx with | pv _ _ hx => cases hx; cases hy with | bsl _ _ _ _ _ _ _ _ _ _ => exact ⟨by simp [Op.equalIn, run_underlying (E.slice hk)], by simp, by simp, rfl⟩
  · rename_i e _ _ hk
    cases h
    cases hy with | pv _ _ hy => cases hy; cases hx with | pv _ _ hx => cases hx; exact ⟨by simp [Op.equalIn, run_underlying (E.slice hk)], by simp, by simp, rfl⟩
  · rename_i e _ _ _ _ hk
    cases h
    cases hy with | pv _ _ hy => cases hy; cases hx with | own _ _ _ _ _ _ _ _ _ _ _ hx _ => cases hx; exact ⟨by simp [Op.equalIn, run_underlying (E.slice hk)], by simp, by simp, rfl⟩
  · rename_i e _ _ hk
    cases h
    cases hy with | pv _ _ hy => cases hy; cases hx with | tight _ _ _ _ hx => exact ⟨by simp [Op.equalIn, run_underlying (E.slice hk)], by simp, by simp, rfl⟩
  · rename_i e _ _ _ _ hk
    cases h
    cases hy with | pv _ _ hy => cases hy; cases hx with | bsl _ _ _ _ _ _ _ _ _ _ => exact ⟨by simp [Op.equalIn, run_underlying (E.slice hk)], by simp, by simp, rfl⟩
  · rename_i hk
    obtain ⟨e, hu⟩ := E.ptr hk
    cases h
    cases hx with | pv _ _ hx => cases hx; cases hy with | pv _ _ hy => cases hy; exact ⟨by simp [Op.equalIn, run_underlying hu], by simp, by simp, rfl⟩
  · rename_i hk
    obtain ⟨e, hu⟩ := E.ptr hk
    cases h
    cases hy with | pv _ _ hy => cases hy; cases hx with | ptr _ _ cs g hH hG => exact ⟨by simp [Op.equalIn, run_underlying hu], by simp, by simp, rfl⟩
  · rename_i hk
    obtain ⟨e, hu⟩ := E.ptr hk
    cases h
    cases hx with | pv _ _ hx => cases hx; cases hy with | ptr _ _ cs g hH hG => exact ⟨by simp [Op.equalIn, run_underlying hu], by simp, by simp, rfl⟩
  · rename_i hk
    obtain ⟨e, hu⟩ := E.iface hk
    cases h
    cases hx with | pv _ _ hx => cases hx; cases hy with | pv _ _ hy => cases hy; exact ⟨by simp [Op.equalIn, run_underlying hu], by simp, by simp, rfl⟩
  · rename_i hk
    obtain ⟨e, hu⟩ := E.iface hk
    cases h
    cases hx with | pv _ _ hx => cases hx; cases hy with | pv _ _ hy => cases hy; exact ⟨by simp [Op.equalIn, run_underlying hu], by simp, by simp, rfl⟩
  · rename_i hk
    obtain ⟨e, hu⟩ := E.iface hk
    cases h
    cases hx with | pv _ _ hx => cases hx; cases hy with | pv _ _ hy => cases hy; exact ⟨by simp [Op.equalIn, run_underlying hu], by simp, by simp, rfl⟩
  · rename_i hk
    obtain ⟨e, hu⟩ := E.iface hk
    cases h
    cases hx with | pv _ _ hx => cases hx; cases hy with | pv _ _ hy => cases hy; exact ⟨by simp [Op.equalIn, run_underlying hu], by simp, by simp, rfl⟩
  · rename_i hk
    obtain ⟨_, _, _, hu⟩ := E.func hk
    cases h
    cases hx with | pv _ _ hx => cases hx; cases hy with | pv _ _ hy => cases hy; exact ⟨by simp [Op.equalIn, run_underlying hu], by simp, by simp, rfl⟩
  · rename_i hk
    obtain ⟨_, _, _, hu⟩ := E.func hk
    cases h
    cases hx with | pv _ _ hx => cases hx; cases hy with | pv _ _ hy => cases hy; exact ⟨by simp [Op.equalIn, run_underlying hu], by simp, by simp, rfl⟩
  · rename_i hk
    obtain ⟨_, _, _, hu⟩ := E.func hk
    cases h
    cases hy with | pv _ _ hy => cases hy; cases hx with | clo _ _ us hl hx => exact ⟨by simp [Op.equalIn, run_underlying hu], by simp, by simp, rfl⟩
  · rename_i k a1 b1 hk
    split at h
    · rename_i hc
      simp only [Bool.and_eq_true, Bool.not_eq_true', List.isEmpty_eq_false_iff] at hc
      cases hx with | agg _ us hl h1 h2 =>
      cases hy with | agg _ vs hl' h1' h2' =>
      unfold kindOf at hk
      unfold flatOf at h hc
      split at hk
      · rename_i y hy0
        simp only [hy0] at h hc
        cases hk
        obtain ⟨d, i, z, e1, e2, e3, e4, e5, e6, e7, e8⟩ := E.spec hy0
        have hf := e8 hc.2
        have hv := veq_cells h ⟨hl, h2⟩ ⟨hl', h2'⟩
        have hag : aggDesc d = true := by
          have := hc.1
          cases hkk : y.kind <;> rw [hkk] at this e3 <;> simp [isAggK] at this <;> cases d <;> simp [TK.fits] at e3 <;> rfl
        have hE := (flat_eq 6 t y.flat hf (dp + 1) (by omega)).1 d us vs r C.w e1 hv (fun _ => trivial)
        simp only [hag, if_true] at hE
        refine ⟨hE, by simp, .inr (flat_guard 6 t y.flat hf P.depth ?_), rfl⟩
        unfold Program.depth Made.depth
        omega
      · cases hk
    · cases h
  · cases h

theorem aBin_run {C : Cf} {op : BinOp} {t : TypeId} {x y : SV} {ox oy : Operand} {a b : Value} {s : SV} (h : aBin Y op t (cst ox) (cst oy) x y = some s) (hx : RelS C x a) (hy : RelS C y b) :
    ∃ u, (do eqGuard op t ox oy a b; binOp op t a b : Sem Value).run P C.w = .ok u C.w ∧ RelS C s u := by
  unfold aBin at h
  split at h
  · rename_i k a1 k' b1
    cases hx with | pv _ _ hx => cases hx; cases hy with | pv _ _ hy =>
    cases hy
    have hg := guard_any (P := P) (op := op) (t := t) (x := ox) (y := oy) (a := .int k a1) (b := .int k' b1) C.w (by simp) (by simp)
    split at h
    · rename_i hop
      cases hp : aShift op k a1 b1 with
      | none => simp [hp] at h
      | some p =>
        simp [hp] at h; subst h
        obtain ⟨v, hv, hr⟩ := aShift_run (P := P) (k' := k') t C.w hop hp
        exact ⟨v, by simp only [Sem.run_bind, hg, Result.andThen_ok, hv], .pv _ _ (hr _)⟩
    · rename_i hop
      split at h
      · rename_i hk
        subst hk
        cases hp : aInt op k a1 b1 with
        | none => simp [hp] at h
        | some p =>
          simp [hp] at h; subst h
          obtain ⟨v, hv, hr⟩ := aInt_run (P := P) t C.w hop hp
          exact ⟨v, by simp only [Sem.run_bind, hg, Result.andThen_ok, hv], .pv _ _ (hr _)⟩
      · cases h
  · rename_i l1 l2
    cases hx with | pv _ _ hx => cases hx; cases hy with | pv _ _ hy =>
    cases hy
    have hg := guard_any (P := P) (op := op) (t := t) (x := ox) (y := oy) (a := .string ⟨l1.toArray⟩) (b := .string ⟨l2.toArray⟩) C.w (by simp) (by simp)
    cases hp : aStr op l1 l2 with
    | none => simp [hp] at h
    | some p =>
      simp [hp] at h; subst h
      obtain ⟨v, hv, hr⟩ := aStr_run (P := P) t C.w hp
      exact ⟨v, by simp only [Sem.run_bind, hg, Result.andThen_ok, hv], .pv _ _ (hr _)⟩
  · rename_i h1 h2
    cases hx with | pv _ _ hx => cases hx; cases hy with | pv _ _ hy =>
    cases hy
    split at h
    · rename_i hk
      obtain ⟨e, hu⟩ := E.iface hk
      split at h
      · rename_i hc
        have hg : (eqGuard op t ox oy .nilIface .nilIface).run P C.w = .ok () C.w := by
          unfold eqGuard
          cases op <;> simp <;> (cases ox <;> cases oy <;> simp [cst] at hc ⊢)
        have he : ∀ d, (Op.equalIn (d + 1) t .nilIface .nilIface).run P C.w = .ok true C.w := fun d => by simp [Op.equalIn, run_underlying hu]
        split at h <;> cases h
        · exact ⟨_, by simp only [Sem.run_bind, hg, Result.andThen_ok, eql_run (P := P) t .nilIface .nilIface C.w rfl, equal_run, he 9999], .pv _ _ (.bool _)⟩
        · exact ⟨_, by simp only [Sem.run_bind, hg, Result.andThen_ok, neq_run (P := P) t .nilIface .nilIface C.w rfl, equal_run, he 9999]; rfl, .pv _ _ (.bool _)⟩
      · cases h
    · cases h
  · rename_i h1 h2 h3
    have key : ∀ r, aeq Y t x y = some r → (eqGuard op t ox oy a b).run P C.w = .ok () C.w ∧ (Op.equal t a b).run P C.w = .ok r C.w ∧ plainV a = true := by
      intro r hq
      obtain ⟨he, g1, g2, g3⟩ := aeq_in E 9999 (by omega) hq hx hy
      refine ⟨?_, he, g3⟩
      by_cases hag : ∃ xs ys, a = .agg xs ∧ b = .agg ys
      · obtain ⟨xs, ys, rfl, rfl⟩ := hag
        rcases g2 with g2 | g2
        · exact absurd rfl (g2 xs)
        · exact run_eqGuard_agg C.w op t ox oy xs ys g2
      · unfold eqGuard
        cases op <;> simp
        all_goals (split <;> first | (exact absurd ⟨rfl, rfl⟩ g1) | (exact absurd ⟨_, _, rfl, rfl⟩ hag) | simp)
    split at h
    · cases hq : aeq Y t x y with
      | none => simp [hq] at h
      | some r =>
        simp [hq] at h; subst h
        obtain ⟨hg, he, hp⟩ := key r hq
        exact ⟨_, by simp only [Sem.run_bind, hg, Result.andThen_ok, eql_run t a b C.w hp, he], .pv _ _ (.bool _)⟩
    · cases hq : aeq Y t x y with
      | none => simp [hq] at h
      | some r =>
        simp [hq] at h; subst h
        obtain ⟨hg, he, hp⟩ := key r hq
        exact ⟨_, by simp only [Sem.run_bind, hg, Result.andThen_ok, neq_run t a b C.w hp, he], .pv _ _ (.bool _)⟩
    · cases h
end
end Go.Pm
