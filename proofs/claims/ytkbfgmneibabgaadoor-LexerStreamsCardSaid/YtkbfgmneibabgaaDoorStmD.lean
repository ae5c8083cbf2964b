/- Of, by the machine. -/
import Derived.Test.YtkbfgmneibabgaaDoorStmA
import Derived.Test.YtkbfgmneibabgaaDoorLexY
set_option linter.unusedSimpArgs false
set_option linter.unusedVariables false
set_option maxRecDepth 1000000
set_option maxHeartbeats 2000000
namespace Go.Proofs.YtkbfgmneibabgaaDoor
open Go Go.Pm Go.RowKit
open LexP hiding place Sep Run
def decT : List PV → Option Tp
  | [.int .i64 k, .str tx, .int .i64 v, .str b, .int .i64 l, .int .i64 c, .bool j] => some ⟨k, tx, v, b, l, c, j⟩
  | _ => none
def decTs : List (List PV) → Option (List Tp)
  | [] => some []
  | a :: r => match decT a, decTs r with
    | some c, some l => some (c :: l)
    | _, _ => none
theorem decT_of {a : List PV} {t : Tp} (h : decT a = some t) : a = t.cells := by
  unfold decT at h
  split at h
  · cases h; rfl
  · cases h
theorem decTs_of : ∀ {es : List (List PV)} {ts : List Tp}, decTs es = some ts → es = ts.map Tp.cells
  | [], ts, h => by cases h; rfl
  | a :: r, ts, h => by
    unfold decTs at h
    split at h
    · rename_i c l hc hl
      cases h
      rw [decT_of hc, decTs_of hl]; rfl
    · cases h
theorem decTs_cells : ∀ ts : List Tp, decTs (ts.map Tp.cells) = some ts
  | [] => rfl
  | t :: ts => by
    show decTs (t.cells :: ts.map Tp.cells) = _
    simp only [decTs, decTs_cells ts]
    rfl
def F55 : List SV → Option SV
  | [.agg [.pv (.int .i64 k), .pv (.str _), .pv (.int .i64 _), .pv (.str _), .pv (.int .i64 _), .pv (.int .i64 _), .pv (.bool _)]] => some (.bool (decide (k = 0)))
  | _ => none
theorem meets55 (W0 : World) : OkAt W0 55 F55 := meets_fn env tok_nil mixed Tryd.func55 (by kernel_rfl) (by kernel_rfl) fun args r h => by
  unfold F55 at h
  split at h
  · rename_i k _ _ _ _ _ _
    cases h
    unfold XFn Tryd.f55
    rw [enter_1 _ (by decide)]
    by_cases hk : k = 0
    · simp [hk, Is_mk, outR, outP]
    · simp [hk, Is_mk, outR, outP]
  · cases h
/-- The first end. -/
def endAt : List Tp → Nat → Int
  | [], _ => -1
  | t :: r, i => if t.k = 0 then i else endAt r (i + 1)
noncomputable def T54 : FuncId → Option Pm.Spec := tab [(55, .pure false F55)]
theorem T54_eq (g : Nat) : T54 g = tab [(55, .pure false F55)] g := rfl
theorem tok54 (W0 : World) : TOk Tryd.prog W0 T54 := tok_cons (meets55 W0) tok_nil
theorem loop54 {F : List Fr} {P : SV × List Blk → Prop} {x : SV} {ts : List Tp} (hx : RowF 23 x (ts.map Tp.cells)) (hm : ts.length ≤ 10000000) {H : List Blk} :
    ∀ (r pre : List Tp), pre ++ r = ts → P (.i (endAt r pre.length), H) → (endAt r pre.length = -1 → X Y T54 [.tmp 4] F (.exit 0) ⟨mk 19 .J [], H⟩ P) →
    X Y T54 [.tmp 4] F (.loop (loopN Tryd.f54 0)) ⟨mk 19 .J [(0, x), (1, .pv (.fn 55)), (7, .i ts.length), (8, .i pre.length)], H⟩ P
  | [], pre, h1, hp, he => by
    have e1 : pre.length = ts.length := by rw [← h1]; simp
    have hq := he rfl
    rw [e1]
    apply X_loop_of
    · simp only [loopN, Tryd.f54, loopsOf, List.nil_append, List.append_nil, List.cons_append, List.getD_cons_succ, List.getD_cons_zero]; rfl
    simp
    refine X_keep hq ?_
    simp
  | t :: r, pre, h1, hp, he => by
    have n1 : ts.length = pre.length + (r.length + 1) := by rw [← h1]; simp
    have ia : (ts.map Tp.cells)[pre.length]? = some t.cells := by rw [← h1]; simp
    have ra1 := hx.at_ _ _ ia
    have lt : (pre.length : Int) < (ts.length : Int) := by omega
    have ltn : pre.length < ts.length := by omega
    have w1 : IntKind.i64.wrap ((pre.length : Int) + 1) = ((pre ++ [t]).length : Int) := by rw [wrap64 (by omega) (by omega)]; simp
    have q3 : T54 2 = none := rfl
    have hF : F55 [.agg [.i t.k, .str t.tx, .i t.v, .str t.b, .i t.l, .i t.c, .bool t.j]] = some (.bool (decide (t.k = 0))) := rfl
    unfold Tp.cells at ra1
    by_cases h : t.k = 0
    · have hn : endAt (t :: r) pre.length = pre.length := by simp [endAt, h]
      rw [hn] at hp
      rw [decide_eq_true h] at hF
      apply X_loop_of
      · simp only [loopN, Tryd.f54, loopsOf, List.nil_append, List.append_nil, List.cons_append, List.getD_cons_succ, List.getD_cons_zero]; rfl
      simp [-aLen, -aIndexAddr, hx.len, hx.live, lt, ltn, ra1, w1, T54_eq, q3, hF, hp]
    · have hn : endAt (t :: r) pre.length = endAt r (pre ++ [t]).length := by simp [endAt, h]
      rw [hn] at hp he
      rw [decide_eq_false h] at hF
      have ih := loop54 (F := F) (P := P) hx hm (H := H) r (pre ++ [t]) (by rw [← h1]; simp) hp he
      generalize ((pre ++ [t]).length : Int) = E at *
      apply X_loop_of
      · simp only [loopN, Tryd.f54, loopsOf, List.nil_append, List.append_nil, List.cons_append, List.getD_cons_succ, List.getD_cons_zero]; rfl
      simp [-aLen, -aIndexAddr, hx.len, hx.live, lt, ltn, ra1, w1, T54_eq, q3, hF]
      refine X_keep ih ?_
      simp
def F54 : List SV → Option SV
  | [x, .pv (.fn f)] => match rowsOf x with
    | some es => match decTs es with
      | some ts => if f = 55 ∧ ts.length ≤ 10000000 then some (.i (endAt ts 0)) else none
      | none => none
    | none => none
  | _ => none
theorem meets54 (W0 : World) : OkAt W0 54 F54 := meets_fn env (tok54 W0) mixed Tryd.func54 (by kernel_rfl) (by kernel_rfl) fun args r h => by
  unfold F54 at h
  split at h
  · rename_i x f
    split at h
    · rename_i es h1
      split at h
      · rename_i ts h2
        split at h
        · rename_i hc
          cases h
          obtain ⟨rfl, hc⟩ := hc
          have h2 := decTs_of h2
          subst h2
          have hx := rowsOf_F h1
          have L := fun F P => loop54 (F := F) (P := P) hx hc (H := []) ts [] rfl
          unfold XFn Tryd.f54
          rw [enter_2 _ (by decide)]
          simp [-aLen, -aIndexAddr, hx.len, hx.live]
          refine X_keep (L _ _ ?_ ?_) (by simp)
          · simp [Is_mk, outR, outP]
          · intro e
            have e : endAt ts 0 = -1 := e
            simp [e, Is_mk, outR, outP]
        · cases h
      · cases h
    · cases h
  · cases h
def F56 : List SV → Option SV
  | [.pv .nilSlice] => some (.pv .nilSlice)
  | [.pv (.slice s es)] => if s = 7 ∧ es.length ≤ 1000000 then some (if es = [] then .tight 7 [] else .fresh 42 7 es) else none
  | _ => none
theorem meets56 (W0 : World) : OkAt W0 56 F56 := meets_fn env tok_nil mixed Tryd.func56 (by kernel_rfl) (by kernel_rfl) fun args r h => by
  unfold F56 at h
  split at h
  · cases h
    unfold XFn Tryd.f56
    rw [enter_1 _ (by decide)]
    simp [Is_mk, outR, outP]
  · rename_i s es
    split at h
    · rename_i hc
      cases h
      obtain ⟨rfl, hc⟩ := hc
      unfold XFn Tryd.f56
      rw [enter_1 _ (by decide)]
      cases es with
      | nil => simp [Is_mk, outR, outP]
      | cons a r =>
        have q1 : (r.length + 1) * 72 ≤ maxRow := by simp at hc; simp [maxRow]; omega
        have q2 : r.length + 1 ≤ maxRow := by simp at hc; simp [maxRow]; omega
        simp only [maxRow] at q1 q2
        simp [Is_mk, outR, outP, q1, q2]
    · cases h
  · cases h
noncomputable def T24 : FuncId → Option Pm.Spec := tab [(54, .pure false F54), (56, .pure false F56)]
theorem T24_eq (g : Nat) : T24 g = tab [(54, .pure false F54), (56, .pure false F56)] g := rfl
theorem tok24 (W0 : World) : TOk Tryd.prog W0 T24 := tok_cons (meets54 W0) (tok_cons (meets56 W0) tok_nil)
theorem meets24 (W0 : World) : Enterable Tryd.prog 24 ∧ Meets Tryd.prog W0 24 (specFn (.heap (arunAll Y T24 Tryd.f24))) := meets_heap env (tok24 W0) mixed Tryd.func24 (by kernel_rfl) (by kernel_rfl)
theorem endAt_or : ∀ (ts : List Tp) (i : Nat), (endAt ts i = -1 ∧ ∀ t ∈ ts, t.k ≠ 0) ∨ ∃ a t r, ts = a ++ t :: r ∧ endAt ts i = (i + a.length : Nat) ∧ t.k = 0 ∧ ∀ x ∈ a, x.k ≠ 0
  | [], i => .inl ⟨rfl, fun _ h => by cases h⟩
  | t :: ts, i => by
    by_cases h : t.k = 0
    · exact .inr ⟨[], t, ts, rfl, by simp [endAt, h], h, fun _ h => by cases h⟩
    · have e : endAt (t :: ts) i = endAt ts (i + 1) := by simp [endAt, h]
      rw [e]
      rcases endAt_or ts (i + 1) with ⟨h1, h2⟩ | ⟨a, t', r, rfl, h2, h3, h4⟩
      · refine .inl ⟨h1, fun x hx => ?_⟩
        rcases List.mem_cons.1 hx with rfl | hx
        · exact h
        · exact h2 x hx
      · refine .inr ⟨t :: a, t', r, rfl, by rw [h2]; simp; omega, h3, fun x hx => ?_⟩
        rcases List.mem_cons.1 hx with rfl | hx
        · exact h
        · exact h4 x hx
/-- The stream of a row of tokens. -/
theorem all24 {x : SV} {ts : List Tp} {H : List Blk} (hx : x = .pv (.slice 7 (ts.map Tp.cells)) ∨ ∃ k v, x = .own k v 7 (ts.map Tp.cells)) (hm : ts.length ≤ 100000) :
    ((∀ t ∈ ts, t.k ≠ 0) → ∃ b, arunAll Y T24 Tryd.f24 [x] H = some (.ptr H.length 0, H ++ [b]) ∧ Str H.length ⟨ts, zTp, 0, 0, 0⟩ (H ++ [b])) ∧
    ∀ a t r, ts = a ++ t :: r → t.k = 0 → (∀ x ∈ a, x.k ≠ 0) → ∃ b, arunAll Y T24 Tryd.f24 [x] H = some (.ptr H.length 0, H ++ [b]) ∧ Str H.length ⟨a, t, 0, 0, 0⟩ (H ++ [b]) := by
  have hF : F54 [.pv (.slice 7 (ts.map Tp.cells)), .pv (.fn 55)] = some (.i (endAt ts 0)) := by
    simp only [F54, rowsOf, if_pos, decTs_cells]
    rw [if_pos ⟨trivial, by omega⟩]
  have hC : ∀ us : List Tp, us.length ≤ 100000 → ∃ y, F56 [.pv (.slice 7 (us.map Tp.cells))] = some y ∧ (y = .tight 7 [] ∧ us = [] ∨ y = .fresh 42 7 (us.map Tp.cells)) := fun us hu => by
    refine ⟨_, by simp only [F56]; rw [if_pos ⟨trivial, by simp; omega⟩], ?_⟩
    cases us with
    | nil => exact .inl ⟨rfl, rfl⟩
    | cons u us => exact .inr rfl
  refine ⟨fun hn => ?_, fun a t r e hk ha => ?_⟩
  · have he : endAt ts 0 = -1 := by
      rcases endAt_or ts 0 with ⟨h1, h2⟩ | ⟨a, t', r, rfl, h2, h3, h4⟩
      · exact h1
      · exact absurd h3 (hn t' (by simp))
    rw [he] at hF
    obtain ⟨y0, hy, hy2⟩ := hC ts hm
    have hq : XFn Y T24 Tryd.f24 [x] H (fun y => ∃ x0, RowT x0 ts ∧ y = (.ptr H.length 0, H ++ [stB x0 ⟨ts, zTp, 0, 0, 0⟩])) := by
      unfold XFn Tryd.f24
      rw [enter_1 _ (by decide)]
      rcases hy2 with ⟨rfl, h0⟩ | rfl
      · subst h0
        simp at hy hF
        rcases hx with rfl | ⟨k, v, rfl⟩
        · simp [T24_eq, hF, hy, stB, zTp]
          exact .inl ⟨rfl, .inr rfl⟩
        · simp [T24_eq, hF, hy, stB, zTp]
          exact .inl ⟨rfl, .inr rfl⟩
      · rcases hx with rfl | ⟨k, v, rfl⟩
        · simp [T24_eq, hF, hy, stB, zTp]
          exact .inr rfl
        · simp [T24_eq, hF, hy, stB, zTp]
          exact .inr rfl
    obtain ⟨y, H', g1, x0, g2, g3⟩ := all_of_XFn (by rfl) hq
    cases g3
    exact ⟨_, g1, x0, g2, by simp⟩
  · have he : endAt ts 0 = (a.length : Int) := by
      rcases endAt_or ts 0 with ⟨h1, h2⟩ | ⟨a', t', r', e', h2, h3, h4⟩
      · exact absurd hk (h2 t (by rw [e]; simp))
      · have hl : a'.length = a.length := by
          rcases Nat.lt_trichotomy a'.length a.length with h | h | h
          · have : ts[a'.length]? = some t' := by rw [e']; simp
            rw [e, List.getElem?_append_left h] at this
            exact absurd h3 (ha t' (List.mem_of_getElem? this))
          · exact h
          · have : ts[a.length]? = some t := by rw [e]; simp
            rw [e', List.getElem?_append_left h] at this
            exact absurd hk (h4 t (List.mem_of_getElem? this))
        rw [h2, hl]; simp
    rw [he] at hF
    obtain ⟨y0, hy, hy2⟩ := hC a (by rw [e] at hm; simp at hm; omega)
    have htk : (ts.map Tp.cells).take a.length = a.map Tp.cells := by rw [e]; simp
    have hat : (ts.map Tp.cells)[a.length]? = some t.cells := by rw [e]; simp
    have hle : a.length ≤ ts.length := by rw [e]; simp
    have hlt : a.length < ts.length := by rw [e]; simp
    have hlz : (a.length : Int) < (ts.length : Int) := by omega
    have hnn : ¬ (a.length : Int) < 0 := by omega
    rw [show t.cells = [.int .i64 t.k, .str t.tx, .int .i64 t.v, .str t.b, .int .i64 t.l, .int .i64 t.c, .bool t.j] from rfl] at hat
    have hml : (ts.map Tp.cells).length = ts.length := by simp
    generalize ts.map Tp.cells = rows at *
    have hq : XFn Y T24 Tryd.f24 [x] H (fun y => ∃ x0, RowT x0 a ∧ y = (.ptr H.length 0, H ++ [stB x0 ⟨a, t, 0, 0, 0⟩])) := by
      unfold XFn Tryd.f24
      rw [enter_1 _ (by decide)]
      rcases hy2 with ⟨rfl, h0⟩ | rfl
      · subst h0
        simp at hy hF hat hle hlt hlz hnn htk
        rcases hx with rfl | ⟨k, v, rfl⟩
        · simp [-getElem?_pos, -Int.not_lt, -Int.not_le, List.getElem?_cons_zero, List.getElem?_cons_succ, T24_eq, hF, hy, htk, hat, hle, hlt, hlz, hnn, hml, stB]
          exact .inl ⟨rfl, .inr rfl⟩
        · simp [-getElem?_pos, -Int.not_lt, -Int.not_le, List.getElem?_cons_zero, List.getElem?_cons_succ, T24_eq, hF, hy, htk, hat, hle, hlt, hlz, hnn, hml, stB]
          exact .inl ⟨rfl, .inr rfl⟩
      · rcases hx with rfl | ⟨k, v, rfl⟩
        · simp [-getElem?_pos, -Int.not_lt, -Int.not_le, List.getElem?_cons_zero, List.getElem?_cons_succ, T24_eq, hF, hy, htk, hat, hle, hlt, hlz, hnn, hml, stB]
          exact .inr rfl
        · simp [-getElem?_pos, -Int.not_lt, -Int.not_le, List.getElem?_cons_zero, List.getElem?_cons_succ, T24_eq, hF, hy, htk, hat, hle, hlt, hlz, hnn, hml, stB]
          exact .inr rfl
    obtain ⟨y, H', g1, x0, g2, g3⟩ := all_of_XFn (by rfl) hq
    cases g3
    exact ⟨_, g1, x0, g2, by simp⟩
end Go.Proofs.YtkbfgmneibabgaaDoor
