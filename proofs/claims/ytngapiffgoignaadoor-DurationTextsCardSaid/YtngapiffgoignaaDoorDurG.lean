/- Lists of note values: their sum, and whether two are equal, as contracts. -/
import Derived.Test.YtngapiffgoignaaDoorDurF
set_option linter.unusedSimpArgs false
set_option linter.unusedVariables false
set_option maxRecDepth 1000000
set_option maxHeartbeats 400000
namespace Go.Proofs.YtngapiffgoignaaDoor
open Go Go.Pm Go.RowKit
def F28 : List SV → Option SV
  | [.pv p] => match lstP p with
    | some l => if l.length ≤ 1000000 then some (if l.length ≤ 1024 then .tuple [.i (sumZ l 0).1, .i (sumZ l 0).2] else .tuple [.i 0, .i 5]) else none
    | none => none
  | _ => none
theorem meets28 (W0 : World) : OkAt W0 28 F28 := meets_fn env (tok_cons (meets22 W0) tok_nil) mixed Tryd.func28 (by kernel_rfl) (by kernel_rfl) fun args r h => by
  unfold F28 at h
  split at h
  · split at h
    · split at h
      · cases h; exact x28 _ _ (by assumption) (by assumption)
      · cases h
    · cases h
  · cases h
theorem loop15 {F : List Fr} {P : SV × List Blk → Prop} (p q : PV) (l m : List (Int × Int)) (hp : lstP p = some l) (hq : lstP q = some m) (hlm : l.length = m.length) (hl : l.length ≤ 100000) : ∀ (r i : Nat) (H : List Blk), i + r = l.length →
    (l.drop i ≠ m.drop i → P (.bool false, H)) → (l.drop i = m.drop i → X Y T0 [.tmp 4] F (.exit 0) ⟨mk 26 .J [], H⟩ P) →
    X Y T0 [.tmp 4] F (.loop (loopN Tryd.f15 0)) ⟨mk 26 .J [(0, .pv p), (1, .pv q), (5, .i (i : Nat))], H⟩ P := by
  intro r
  induction r with
  | zero =>
    intro i H e hp0 hx
    have e1 : i = l.length := by omega
    subst e1
    have hlen := lst_len hp
    apply X_loop_of
    · simp only [loopN, Tryd.f15, loopsOf, List.nil_append, List.append_nil, List.cons_append, List.getD_cons_succ, List.getD_cons_zero]; rfl
    simp [-aLen, hlen]
    refine X_keep (hx ?_) (by simp)
    rw [List.drop_of_length_le (Nat.le_refl _), List.drop_of_length_le (by omega)]
  | succ r ih =>
    intro i H e hp0 hx
    have hi : i < l.length := by omega
    have hi' : i < m.length := by omega
    obtain ⟨x, hxi⟩ : ∃ x, l[i]? = some x := ⟨_, List.getElem?_eq_getElem hi⟩
    obtain ⟨y, hyi⟩ : ∃ y, m[i]? = some y := ⟨_, List.getElem?_eq_getElem hi'⟩
    have hd : l.drop i = x :: l.drop (i + 1) := by
      rw [List.drop_eq_getElem_cons hi]; congr 1
      have := List.getElem?_eq_getElem hi; rw [this] at hxi; exact Option.some.inj hxi
    have hd' : m.drop i = y :: m.drop (i + 1) := by
      rw [List.drop_eq_getElem_cons hi']; congr 1
      have := List.getElem?_eq_getElem hi'; rw [this] at hyi; exact Option.some.inj hyi
    have q3 := next_i (m := i) (by omega)
    have hat := lst_at hp hxi
    have hat' := lst_at hq hyi
    rw [hd, hd'] at hp0 hx
    have c4 : ((i : Nat) : Int) < (l.length : Nat) := by omega
    have hlen := lst_len hp
    obtain ⟨xl, xd⟩ := x
    obtain ⟨yl, yd⟩ := y
    apply X_loop_of
    · simp only [loopN, Tryd.f15, loopsOf, List.nil_append, List.append_nil, List.cons_append, List.getD_cons_succ, List.getD_cons_zero]; rfl
    simp [-Int.natCast_add, -Int.not_lt, -Int.not_le, -aIndexAddr, -aLen, hlen, q3, hat, hat', c4, hi, beqZ]
    refine ⟨fun h1 => ⟨fun h2 => ?_, fun h2 => ?_⟩, fun h1 => ?_⟩
    · subst h1; subst h2
      refine X_keep (ih (i + 1) H (by omega) (fun h => hp0 fun h' => h (by simpa using h')) (fun h => hx (by rw [h]))) ?_
      simp
    · exact hp0 fun h => by simp at h; exact h2 h.1.2
    · exact hp0 fun h => by simp at h; exact h1 h.1.1
theorem x15 (p q : PV) (l m : List (Int × Int)) (hp : lstP p = some l) (hq : lstP q = some m) (hl : l.length ≤ 100000) : XFn Y T0 Tryd.f15 [.pv p, .pv q] [] (Is (.bool (decide (l = m)))) := by
  unfold XFn Tryd.f15
  rw [enter_2 _ (by decide)]
  have hlen := lst_len hp
  have hlen' := lst_len hq
  by_cases hlm : l.length = m.length
  · simp [-outR, -aLen, hlen, hlen', hlm, beqZ]
    refine X_keep (loop15 p q l m hp hq hlm hl l.length 0 [] (by omega) (fun h => ?_) (fun h => ?_)) ?_
    · rw [List.drop_zero, List.drop_zero] at h
      simp [h]
    · rw [List.drop_zero, List.drop_zero] at h
      simp [h]
    · simp
  · have h : ¬ l = m := fun h => hlm (by rw [h])
    have c1 : ¬ (l.length : Int) = (m.length : Nat) := by omega
    simp [-aLen, hlen, hlen', hlm, c1, beqZ, h]
def F15 : List SV → Option SV
  | [.pv p, .pv q] => match lstP p, lstP q with
    | some l, some m => if l.length ≤ 100000 then some (.bool (decide (l = m))) else none
    | _, _ => none
  | _ => none
theorem meets15 (W0 : World) : OkAt W0 15 F15 := meets_fn env tok_nil mixed Tryd.func15 (by kernel_rfl) (by kernel_rfl) fun args r h => by
  unfold F15 at h
  split at h
  · split at h
    · split at h
      · cases h; exact x15 _ _ _ _ (by assumption) (by assumption) (by assumption)
      · cases h
    · cases h
  · cases h
end Go.Proofs.YtngapiffgoignaaDoor
