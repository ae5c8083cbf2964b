/- Lists of note values: their sum, and whether two are equal, by the machine. -/
import Derived.Test.YtngapiffgoignaaDoorDurE
set_option linter.unusedSimpArgs false
set_option linter.unusedVariables false
set_option maxRecDepth 1000000
set_option maxHeartbeats 400000
namespace Go.Proofs.YtngapiffgoignaaDoor
open Go Go.Pm Go.RowKit
def rowsV (l : List (Int × Int)) : List (List PV) := l.map cV
theorem rowsV_len (l : List (Int × Int)) : (rowsV l).length = l.length := by simp [rowsV]
def unV : List (List PV) → Option (List (Int × Int))
  | [] => some []
  | [.int .i64 a, .int .i64 b] :: r => (unV r).map ((a, b) :: ·)
  | _ => none
theorem unV_eq : ∀ {es : List (List PV)} {l : List (Int × Int)}, unV es = some l → es = rowsV l
  | [], l, h => by simp [unV] at h; subst h; rfl
  | e :: r, l, h => by
    unfold unV at h
    split at h
    · rename_i h0; cases h0
    · rename_i a b r' h0
      cases h0
      cases hr : unV r with
      | none => simp [hr] at h
      | some l' => simp [hr] at h; subst h; rw [unV_eq hr]; rfl
    · cases h
theorem unV_rows : ∀ (l : List (Int × Int)), unV (rowsV l) = some l
  | [] => rfl
  | s :: r => by
    show (unV (rowsV r)).map ((s.1, s.2) :: ·) = _
    rw [unV_rows r]; rfl
/-- A list of note values as a value. -/
def lstP : PV → Option (List (Int × Int))
  | .nilSlice => some []
  | .slice 2 es => unV es
  | _ => none
theorem lstP_or {p : PV} {l : List (Int × Int)} (h : lstP p = some l) : (l = [] ∧ p = .nilSlice) ∨ p = .slice 2 (rowsV l) := by
  unfold lstP at h
  split at h
  · cases h; exact .inl ⟨rfl, rfl⟩
  · exact .inr (by rw [unV_eq h])
  · cases h
theorem lst_len {p : PV} {l : List (Int × Int)} (h : lstP p = some l) : aLen Y 24 (.pv p) = some l.length := by
  rcases lstP_or h with ⟨rfl, rfl⟩ | rfl
  · rfl
  · simp [sliceElems, rowsV_len]
theorem lst_at {p : PV} {l : List (Int × Int)} (h : lstP p = some l) {i : Nat} {x : Int × Int} (hi : l[i]? = some x) : aIndexAddr Y 24 (.pv p) (i : Nat) = some (.cptr [.int .i64 x.1, .int .i64 x.2]) := by
  rcases lstP_or h with ⟨rfl, rfl⟩ | rfl
  · simp at hi
  · have : (rowsV l)[i]? = some (cV x) := by simp [rowsV, hi]
    simp [aElem, this, -getElem?_pos]; rfl
/-- The sum of note values, and the error. -/
def sumZ : List (Int × Int) → Int → Int × Int
  | [], s => (s, 0)
  | x :: r, s => if okV x.1 x.2 then sumZ r (s + tkZ x) else (0, 17)
theorem tk_bound {l d : Int} (h : okV l d) : 0 < tkZ (l, d) ∧ tkZ (l, d) ≤ 7257600 := by
  rw [← AV_ix h, tk_sz _ (ix_lt h)]
  have := sz_pos (ixV l d)
  have := sz_le (ixV l d)
  omega
noncomputable def T28 : FuncId → Option Pm.Spec := tab [(22, .pure false F22)]
theorem T28_eq (g : Nat) : T28 g = tab [(22, .pure false F22)] g := rfl
theorem loop28 {F : List Fr} {P : SV × List Blk → Prop} (p : PV) (l : List (Int × Int)) (hp : lstP p = some l) (hl : l.length ≤ 1024) : ∀ (r i : Nat) (s : Int) (H : List Blk), i + r = l.length → (0 ≤ s ∧ s ≤ i * 7257600) → 
    (∀ H', (sumZ (l.drop i) s).2 ≠ 0 → P (.tuple [.i (sumZ (l.drop i) s).1, .i (sumZ (l.drop i) s).2], H')) →
    (∀ H', (sumZ (l.drop i) s).2 = 0 → X Y T28 [.tmp 2, .tmp 3] F (.exit 0) ⟨mk 31 .J [(4, .i (sumZ (l.drop i) s).1)], H'⟩ P) →
    X Y T28 [.tmp 2, .tmp 3] F (.loop (loopN Tryd.f28 0)) ⟨mk 31 .J [(4, .i s), (12, .pv p), (13, .i (l.length : Nat)), (14, .i (i : Nat))], H⟩ P := by
  intro r
  induction r with
  | zero =>
    intro i s H e hs hp0 hx
    have e1 : i = l.length := by omega
    subst e1
    have hx := hx H
    rw [List.drop_of_length_le (Nat.le_refl _)] at hx
    apply X_loop_of
    · simp only [loopN, Tryd.f28, loopsOf, List.nil_append, List.append_nil, List.cons_append, List.getD_cons_succ, List.getD_cons_zero]; rfl
    simp
    refine X_keep (hx rfl) ?_
    simp [sumZ]
  | succ r ih =>
    intro i s H e hs hp0 hx
    have hi : i < l.length := by omega
    obtain ⟨x, hxi⟩ : ∃ x, l[i]? = some x := ⟨_, List.getElem?_eq_getElem hi⟩
    have hd : l.drop i = x :: l.drop (i + 1) := by
      rw [List.drop_eq_getElem_cons hi]; congr 1
      have := List.getElem?_eq_getElem hi; rw [this] at hxi; exact Option.some.inj hxi
    have q3 := next_i (m := i) (by omega)
    have hat := lst_at hp hxi
    rw [hd] at hp0 hx
    have c4 : ((i : Nat) : Int) < (l.length : Nat) := by omega
    obtain ⟨xl, xd⟩ := x
    apply X_loop_of
    · simp only [loopN, Tryd.f28, loopsOf, List.nil_append, List.append_nil, List.cons_append, List.getD_cons_succ, List.getD_cons_zero]; rfl
    by_cases hok : okV xl xd
    · have hb := tk_bound hok
      have w1 : IntKind.i64.wrap (s + tkZ (xl, xd)) = s + tkZ (xl, xd) := wrap64 (by omega) (by omega)
      have es : sumZ ((xl, xd) :: l.drop (i + 1)) s = sumZ (l.drop (i + 1)) (s + tkZ (xl, xd)) := by rw [sumZ, if_pos hok]
      rw [es] at hp0 hx
      simp [-Int.natCast_add, -Int.not_lt, -Int.not_le, -aIndexAddr, -getElem?_pos, List.getElem?_cons_zero, List.getElem?_cons_succ, T28_eq, F22, q3, hat, c4, hi, hok, w1, set_last, get_last]
      refine X_keep (ih (i + 1) (s + tkZ (xl, xd)) _ (by omega) (by omega) hp0 hx) ?_
      simp
      rw [if_pos hok]; exact w1
    · have es : sumZ ((xl, xd) :: l.drop (i + 1)) s = (0, 17) := by rw [sumZ, if_neg hok]
      rw [es] at hp0
      simp [-Int.natCast_add, -Int.not_lt, -Int.not_le, -aIndexAddr, -getElem?_pos, List.getElem?_cons_zero, List.getElem?_cons_succ, T28_eq, F22, q3, hat, c4, hi, hok, set_last, get_last]
      exact hp0 _ (by simp)
theorem x28 (p : PV) (l : List (Int × Int)) (hp : lstP p = some l) (hm : l.length ≤ 1000000) : XFn Y T28 Tryd.f28 [.pv p] [] (fun x => Is (if l.length ≤ 1024 then .tuple [.i (sumZ l 0).1, .i (sumZ l 0).2] else .tuple [.i 0, .i 5]) x) := by
  unfold XFn Tryd.f28
  rw [enter_1 _ (by decide)]
  have hlen := lst_len hp
  by_cases hl : l.length ≤ 1024
  · have c1 : ¬ (1024 : Int) < (l.length : Nat) := by omega
    have c2 : ¬ 1024 < l.length := by omega
    simp [-outR, -aLen, hlen, c1, c2, hl]
    refine X_keep (loop28 p l hp hl l.length 0 0 [] (by omega) (by omega) (fun H' h => ?_) (fun H' h => ?_)) ?_
    · simp
    · rw [List.drop_zero] at h
      simp [h]
    · simp
  · have c1 : (1024 : Int) < (l.length : Nat) := by omega
    have c2 : 1024 < l.length := by omega
    simp [-outR, -aLen, hlen, c1, c2, hl]
    simp
end Go.Proofs.YtngapiffgoignaaDoor
