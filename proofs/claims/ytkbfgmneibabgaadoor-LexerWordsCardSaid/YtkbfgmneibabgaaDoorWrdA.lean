/- IsWord, Symbols, and the law of words, by the machine. -/
import Derived.Test.YtkbfgmneibabgaaDoorQuoA
set_option linter.unusedSimpArgs false
set_option linter.unusedVariables false
set_option maxRecDepth 1000000
set_option maxHeartbeats 1000000
namespace LexP
theorem word_scan {s : Bs} {m : List Tk} (h : scan s = .ok m) : isW s = true ↔ ∃ t1 t2, m = [t1, t2] ∧ t1.kind = 1 ∧ t1.text = s := by
  obtain ⟨m1, h1, h2⟩ := sc_of_scan _ _ _ _ _ h
  have h1 : m = m1 := by simpa using h1
  subst h1
  have h2 : Sc true s (m.map Tk.core) := h2
  constructor
  · intro hw
    obtain ⟨m', h3, h4⟩ := scan_of_sc (sc_word hw) (s.length + 1) [] 0 rfl (by omega)
    have h3 : scan s = .ok m' := by simpa [scan] using h3
    rw [h] at h3
    cases h3
    have hl : m.length = 2 := by simpa using congrArg List.length h4
    obtain ⟨t1, t2, rfl⟩ : ∃ t1 t2, m = [t1, t2] := by
      cases m with
      | nil => simp at hl
      | cons a m =>
        cases m with
        | nil => simp at hl
        | cons b m =>
          have : m = [] := List.length_eq_zero_iff.1 (by simpa using hl)
          subst this; exact ⟨a, b, rfl⟩
    simp [Tk.core] at h4
    exact ⟨t1, t2, rfl, h4.1.1, h4.1.2.1⟩
  · rintro ⟨t1, t2, rfl, hk, ht⟩
    have h2 : Sc true s [(t1.kind, t1.text, t1.val, t1.bytes, t1.joined), t2.core] := h2
    rw [hk] at h2
    exact word_sc ht h2
theorem word_err {s : Bs} {p : Nat × Int} (h : scan s = .error p) : isW s = false := by
  cases hw : isW s with
  | false => rfl
  | true =>
    obtain ⟨m', h3, h4⟩ := scan_of_sc (sc_word hw) (s.length + 1) [] 0 rfl (by omega)
    have h3 : scan s = .ok m' := by simpa [scan] using h3
    rw [h] at h3
    cases h3
/-- The first that is no letter, digit or underscore. -/
def notAt : Bs → Nat → Int
  | [], _ => -1
  | c :: r, i => if inwZ (z c) then notAt r (i + 1) else i
theorem notAt_or : ∀ (s : Bs) (i : Nat), (notAt s i = -1 ∧ (s.all fun d => inwZ (z d)) = true) ∨ (0 ≤ notAt s i ∧ (s.all fun d => inwZ (z d)) = false)
  | [], i => by simp [notAt]
  | c :: r, i => by
    by_cases h : inwZ (z c) = true
    · have e : notAt (c :: r) i = notAt r (i + 1) := by simp only [notAt]; rw [if_pos h]
      rw [e, List.all_cons, h, Bool.true_and]
      exact notAt_or r (i + 1)
    · have e : notAt (c :: r) i = i := by simp only [notAt]; rw [if_neg h]
      rw [e, List.all_cons]
      simp at h
      exact .inr ⟨by omega, by simp [h]⟩
end LexP
namespace Go.Proofs.YtkbfgmneibabgaaDoor
open Go Go.Pm Go.RowKit
open LexP hiding place Sep Run
def F67 : List SV → Option SV := bF fun n => !inwZ n
noncomputable def T67 : FuncId → Option Pm.Spec := tab [(68, .pure false (bF inwZ))]
theorem T67_eq (g : Nat) : T67 g = tab [(68, .pure false (bF inwZ))] g := rfl
theorem tok67 (W0 : World) : TOk Tryd.prog W0 T67 := tok_cons (meets68 W0) tok_nil
theorem meets67 (W0 : World) : OkAt W0 67 F67 := meets_fn env (tok67 W0) mixed Tryd.func67 (by kernel_rfl) (by kernel_rfl) fun args r h => by
  refine of_bF h fun n hn e1 e2 => ?_
  subst e1; subst e2
  unfold XFn Tryd.f67
  rw [enter_1 _ (by decide)]
  simp [T67_eq, bF, hn, Is_mk, outR, outP]
noncomputable def T83 : FuncId → Option Pm.Spec := tab [(67, .pure false F67)]
theorem T83_eq (g : Nat) : T83 g = tab [(67, .pure false F67)] g := rfl
theorem tok83 (W0 : World) : TOk Tryd.prog W0 T83 := tok_cons (meets67 W0) tok_nil
theorem brow_at {l : Bs} {i : Nat} {b : UInt8} (h : l[i]? = some b) : (byteRow l)[i]? = some [PV.int .u8 (z b)] := by simp [byteRow, h, z]
theorem loop83 {F : List Fr} {P : SV × List Blk → Prop} {l : Bs} {H : List Blk} (hl : l.length ≤ 1000000) : ∀ (r pre : Bs), pre ++ r = l → P (.i (notAt r pre.length), H) →
    (notAt r pre.length = -1 → X Y T83 [.tmp 4] F (.exit 0) ⟨mk 19 .J [], H⟩ P) →
    X Y T83 [.tmp 4] F (.loop (loopN Tryd.f83 0)) ⟨mk 19 .J [(0, .pv (.slice 1 (byteRow l))), (1, .pv (.fn 67)), (7, .i l.length), (8, .i pre.length)], H⟩ P
  | [], pre, h1, hp, he => by
    have e1 : pre.length = l.length := by rw [← h1]; simp
    have hq := he rfl
    rw [e1]
    apply X_loop_of
    · simp only [loopN, Tryd.f83, loopsOf, List.nil_append, List.append_nil, List.cons_append, List.getD_cons_succ, List.getD_cons_zero]; rfl
    simp
    refine X_keep hq ?_
    simp
  | c :: r, pre, h1, hp, he => by
    have n1 : l.length = pre.length + (r.length + 1) := by rw [← h1]; simp
    have hc : l[pre.length]? = some c := by rw [← h1]; simp
    have hrow := brow_at hc
    have hbl : (byteRow l).length = l.length := by simp [byteRow]
    have lt : (pre.length : Int) < (l.length : Int) := by omega
    have ltn : pre.length < l.length := by omega
    have w1 : IntKind.i64.wrap ((pre.length : Int) + 1) = ((pre ++ [c]).length : Int) := by rw [wrap64 (by omega) (by omega)]; simp
    have hz := z_range c
    have q3 : T83 2 = none := rfl
    by_cases h : inwZ (z c) = true
    · have hn : notAt (c :: r) pre.length = notAt r (pre ++ [c]).length := by simp [notAt, h]
      rw [hn] at hp he
      have ih := loop83 (F := F) (P := P) (H := H) hl r (pre ++ [c]) (by rw [← h1]; simp) hp he
      generalize ((pre ++ [c]).length : Int) = E at *
      generalize z c = n at *
      have hF : F67 [u8 n] = some (.bool false) := by simp [F67, bF, hz, h]
      apply X_loop_of
      · simp only [loopN, Tryd.f83, loopsOf, List.nil_append, List.append_nil, List.cons_append, List.getD_cons_succ, List.getD_cons_zero]; rfl
      simp [-getElem?_pos, List.getElem?_cons_zero, List.getElem?_cons_succ, lt, ltn, hrow, hbl, w1, T83_eq, q3, hF]
      refine X_keep ih ?_
      simp
    · have h' : inwZ (z c) = false := by simpa using h
      have hn : notAt (c :: r) pre.length = pre.length := by simp [notAt, h']
      rw [hn] at hp
      generalize z c = n at *
      have hF : F67 [u8 n] = some (.bool true) := by simp [F67, bF, hz, h']
      apply X_loop_of
      · simp only [loopN, Tryd.f83, loopsOf, List.nil_append, List.append_nil, List.cons_append, List.getD_cons_succ, List.getD_cons_zero]; rfl
      simp [-getElem?_pos, List.getElem?_cons_zero, List.getElem?_cons_succ, lt, ltn, hrow, hbl, w1, T83_eq, q3, hF, hp]
open Classical in
noncomputable def F83 : List SV → Option SV
  | [.pv (.slice s es), .pv (.fn f)] => match bytesOf es with
    | some l => if s = 1 ∧ es = byteRow l ∧ f = 67 ∧ l.length ≤ 1000000 then some (.i (notAt l 0)) else none
    | none => none
  | _ => none
theorem bytesOf_b (l : Bs) : bytesOf (byteRow l) = some l := bytesOf_row l
theorem F83_at {l : Bs} (h : l.length ≤ 1000000) : F83 [.pv (.slice 1 (byteRow l)), .pv (.fn 67)] = some (.i (notAt l 0)) := by
  simp only [F83, bytesOf_b]
  rw [if_pos ⟨trivial, trivial, trivial, h⟩]
theorem meets83 (W0 : World) : OkAt W0 83 F83 := meets_fn env (tok83 W0) mixed Tryd.func83 (by kernel_rfl) (by kernel_rfl) fun args r h => by
  unfold F83 at h
  split at h
  · split at h
    · rename_i l hl
      split at h
      · rename_i hc
        cases h
        obtain ⟨rfl, rfl, rfl, hc⟩ := hc
        have hbl : (byteRow l).length = l.length := by simp [byteRow]
        have L := fun F P => loop83 (F := F) (P := P) (l := l) (H := []) hc l [] rfl
        unfold XFn Tryd.f83
        rw [enter_2 _ (by decide)]
        simp [hbl]
        refine X_keep (L _ _ ?_ ?_) (by simp)
        · simp [Is_mk, outR, outP]
        · intro e
          have e : notAt l 0 = -1 := e
          simp [e, Is_mk, outR, outP]
      · cases h
    · cases h
  · cases h
open Classical in
noncomputable def F66 : List SV → Option SV
  | [.pv (.slice s es), .pv (.fn f)] => match bytesOf es with
    | some l => if s = 1 ∧ es = byteRow l ∧ f = 67 ∧ l.length ≤ 1000000 then some (.bool (!(l.all fun d => inwZ (z d)))) else none
    | none => none
  | _ => none
theorem F66_at {l : Bs} (h : l.length ≤ 1000000) : F66 [.pv (.slice 1 (byteRow l)), .pv (.fn 67)] = some (.bool (!(l.all fun d => inwZ (z d)))) := by
  simp only [F66, bytesOf_b]
  rw [if_pos ⟨trivial, trivial, trivial, h⟩]
noncomputable def T66 : FuncId → Option Pm.Spec := tab [(83, .pure false F83)]
theorem T66_eq (g : Nat) : T66 g = tab [(83, .pure false F83)] g := rfl
theorem tok66 (W0 : World) : TOk Tryd.prog W0 T66 := tok_cons (meets83 W0) tok_nil
theorem meets66 (W0 : World) : OkAt W0 66 F66 := meets_fn env (tok66 W0) mixed Tryd.func66 (by kernel_rfl) (by kernel_rfl) fun args r h => by
  unfold F66 at h
  split at h
  · split at h
    · rename_i l hl
      split at h
      · rename_i hc
        cases h
        obtain ⟨rfl, rfl, rfl, hc⟩ := hc
        have q := F83_at hc
        unfold XFn Tryd.f66
        rw [enter_2 _ (by decide)]
        rcases notAt_or l 0 with ⟨e1, e2⟩ | ⟨e1, e2⟩
        · rw [e1] at q
          simp [T66_eq, q, e2, Is_mk, outR, outP]
        · simp [T66_eq, q, e1, e2, Is_mk, outR, outP]
      · cases h
    · cases h
  · cases h
def F38 : List SV → Option SV
  | [.pv (.str s)] => if s.length ≤ 1000 then some (.bool (isW s)) else none
  | _ => none
noncomputable def T38 : FuncId → Option Pm.Spec := tab [(65, .pure false (bF letZ)), (66, .pure false F66)]
theorem T38_eq (g : Nat) : T38 g = tab [(65, .pure false (bF letZ)), (66, .pure false F66)] g := rfl
theorem tok38 (W0 : World) : TOk Tryd.prog W0 T38 := tok_cons (meets65 W0) (tok_cons (meets66 W0) tok_nil)
theorem meets38 (W0 : World) : OkAt W0 38 F38 := meets_fn env (tok38 W0) mixed Tryd.func38 (by kernel_rfl) (by kernel_rfl) fun args r h => by
  unfold F38 at h
  split at h
  · rename_i s
    split at h
    · rename_i hs
      cases h
      have q := F66_at (l := s) (by omega)
      unfold XFn Tryd.f38
      rw [enter_1 _ (by decide)]
      cases s with
      | nil => simp [isW, Is_mk, outR, outP]
      | cons c r =>
        have hz := z_range c
        have hb : bF letZ [u8 (z c)] = some (.bool (letZ (z c))) := by simp [bF, hz]
        have hb : bF letZ [u8 (c.toNat : Int)] = some (.bool (letZ (z c))) := hb
        by_cases hl : 64 < (c :: r).length
        · have hl1 : (64 : Int) < (r.length : Int) + 1 := by simp at hl; omega
          have hl2 : ¬ (r.length : Int) + 1 ≤ 64 := by omega
          have hl3 : ¬ r.length + 1 ≤ 64 := by omega
          have e : isW (c :: r) = false := by simp only [isW]; rw [decide_eq_false (by omega)]; rfl
          rw [e]
          simp [-Int.not_lt, -Int.not_le, hl1, hl2, hl3, Is_mk, outR, outP]
        · have hl1 : ¬ (64 : Int) < (r.length : Int) + 1 := by simp at hl; omega
          have hl2 : (r.length : Int) + 1 ≤ 64 := by omega
          have hl3 : r.length + 1 ≤ 64 := by omega
          have e : isW (c :: r) = (letZ (z c) && (c :: r).all fun d => inwZ (z d)) := by simp only [isW]; rw [decide_eq_true (by omega)]; rfl
          rw [e]
          generalize ((c :: r).all fun d => inwZ (z d)) = b at *
          cases hlt : letZ (z c) with
          | false =>
            rw [hlt] at hb
            simp [-Int.not_lt, -Int.not_le, hl1, hl2, hl3, T38_eq, hb, Is_mk, outR, outP]
          | true =>
            rw [hlt] at hb
            simp [-Int.not_lt, -Int.not_le, hl1, hl2, hl3, T38_eq, hb, q, Is_mk, outR, outP]
    · cases h
  · cases h
end Go.Proofs.YtkbfgmneibabgaaDoor
