/- Respell and its reference, by the machine. -/
import Derived.Test.YthoampbpeiehhaaDoorEnhZ
set_option linter.unusedSimpArgs false
set_option linter.unusedVariables false
set_option maxRecDepth 1000000
set_option maxHeartbeats 400000
namespace Go.Proofs.YthoampbpeiehhaaDoor
open Go.Pm
/-- How many steps a pitch lies from another. -/
def dif (s o : Int) : List PV → Int
  | [.int _ qs, .int _ _, .int _ qo] => 7 * (qo - o) + (qs - s)
  | _ => 0
abbrev Z3 : List PV := V3 0 0 0
def found (s o t : Int) (L : List (List PV)) : Option (List PV) := L.find? fun q => dif s o q == t

noncomputable def T15 : FuncId → Option Pm.Spec := tab [(12, .pure true F12), (27, .pure false F27), (37, .pure false F37)]
theorem T15_eq (g : Nat) : T15 g = tab [(12, .pure true F12), (27, .pure false F27), (37, .pure false F37)] g := rfl
theorem tok15 (W0 : World) : TOk Tryd.prog W0 T15 := tok_cons (meets12 W0) (tok_cons (meets27 W0) (tok_cons (meets37 W0) tok_nil))
theorem get3 {α : Type} (a b c : α) (l : List α) (x : α) : (a :: b :: c :: (l ++ [x]))[l.length + 3]? = some x := by simp
theorem set3 {α : Type} (a b c : α) (l : List α) (x y : α) : (a :: b :: c :: (l ++ [x])).set (l.length + 3) y = a :: b :: c :: (l ++ [y]) := by simp
theorem loop15 {F : List Fr} {P : SV × List Blk → Prop} (s a o t : Int) (hp : inR s a o) (L : List (List PV)) (hL : Pitches L) (hN : L.length ≤ 385) : ∀ (r m : Nat) (Hx : List Blk), m + r = L.length →
    (∀ Hx', match found s o t (L.drop m) with
      | some q => P (.tuple [.agg (q.map .pv), .i 0], .box [.i s, .i a, .i o] :: .box (q.map .pv) :: .tok 0 29 :: Hx')
      | none => X Y T15 [.cell 4 29, .tmp 5] F (.exit 0) ⟨mk 46 .J [(4, .ptr 1 0)], .box [.i s, .i a, .i o] :: .box (Z3.map .pv) :: .tok 0 29 :: Hx'⟩ P) →
    X Y T15 [.cell 4 29, .tmp 5] F (.loop (loopN Tryd.f15 0)) ⟨mk 46 .J [(1, .i t), (2, .ptr 0 0), (4, .ptr 1 0), (23, .own 2 0 3 L), (24, .i L.length), (25, .i (m : Nat))], .box [.i s, .i a, .i o] :: .box (Z3.map .pv) :: .tok 0 29 :: Hx⟩ P := by
  intro r
  induction r with
  | zero =>
    intro m Hx h1 hx
    have e1 : m = L.length := by omega
    subst e1
    apply X_loop_of
    · simp only [loopN, Tryd.f15, loopsOf, List.nil_append, List.append_nil, List.cons_append, List.getD_cons_succ, List.getD_cons_zero]; rfl
    simp
    have := hx Hx
    simp [found] at this
    refine X_keep this ?_
    simp
  | succ r ih =>
    intro m Hx h1 hx
    have hm : m < L.length := by omega
    have hg : L[m]? = some L[m] := List.getElem?_eq_getElem hm
    obtain ⟨qs, qa, qo, e, hv⟩ := hL L[m] (List.getElem_mem hm)
    rw [e] at hg
    have hd : L.drop m = V3 qs qa qo :: L.drop (m + 1) := by rw [List.drop_eq_getElem_cons hm, e]
    rw [hd] at hx
    have q2 : ((m : Int) < (L.length : Int)) := by omega
    have q3 : IntKind.i64.wrap ((m : Int) + 1) = ((m + 1 : Nat) : Int) := by rw [show ((m : Int) + 1) = ((m + 1 : Nat) : Int) by omega]; exact w64_id (by omega) (by omega)
    have hq := hv.1
    have q4 : IntKind.i64.wrap (IntKind.i64.wrap (IntKind.i64.wrap (7 * IntKind.i64.wrap (qo - o)) + qs) - s) = 7 * (qo - o) + (qs - s) := by
      rw [wrap64 (n := qo - o) (by omega) (by omega), wrap64 (n := 7 * (qo - o)) (by omega) (by omega), wrap64 (n := 7 * (qo - o) + qs) (by omega) (by omega), wrap64 (by omega) (by omega)]; omega
    apply X_loop_of
    · simp only [loopN, Tryd.f15, loopsOf, List.nil_append, List.append_nil, List.cons_append, List.getD_cons_succ, List.getD_cons_zero]; rfl
    simp [-Int.natCast_add, q2, q3, hg, q4]
    refine ⟨fun he => ?_, fun he => ?_⟩
    · have := hx (Hx ++ [.box [.i qs, .i qa, .i qo]])
      rw [show found s o t (V3 qs qa qo :: L.drop (m + 1)) = some (V3 qs qa qo) from List.find?_cons_of_pos (by simpa [dif] using he)] at this
      simpa using this
    · refine X_keep (ih (m + 1) _ (by omega) ?_) ?_
      · intro Hx'
        have := hx Hx'
        rw [show found s o t (V3 qs qa qo :: L.drop (m + 1)) = found s o t (L.drop (m + 1)) from List.find?_cons_of_neg (by simpa [dif] using he)] at this
        exact this
      · simp
def respR (s a o t : Int) : SV := if valid s a o then (match found s o t (refE (numW s a o)) with
    | some q => .tuple [.agg (q.map .pv), .i 0]
    | none => .tuple [P3 0 0 0, .i 18]) else .tuple [P3 0 0 0, .i 18]
theorem x15 (s a o t : Int) : XFn Y T15 Tryd.f15 [P3 s a o, .i t] [] (Is (respR s a o t)) := by
  unfold XFn Tryd.f15
  rw [enter_2 _ (by decide)]
  by_cases hv : valid s a o
  · have h06 : 0 ≤ s ∧ s ≤ 6 := ⟨hv.1.1, hv.1.2.1⟩
    have e0 : chk s a o = 0 := if_pos hv
    simp [T15_eq, F12, enhR, onQ, onP, e0, h06, hv.2]
    refine X_keep (loop15 s a o t hv.1 (refE (numW s a o)) (refE_p _) (refE_len _) (refE (numW s a o)).length 0 [] (by omega) ?_) ?_
    · intro Hx'
      unfold respR
      rw [if_pos hv, List.drop_zero]
      cases hf : found s o t (refE (numW s a o)) with
      | some q =>
        obtain ⟨qs, qa, qo, rfl, _⟩ := refE_p _ q (List.mem_of_find?_eq_some hf)
        simp
      | none => simp
    · simp
  · have e0 : chk s a o = 18 := if_neg hv
    simp [T15_eq, onQ, e0, respR, hv]

def F15 : List SV → Option SV
  | [.agg [.pv (.int .i64 s), .pv (.int .i64 a), .pv (.int .i64 o)], .pv (.int .i64 t)] => some (respR s a o t)
  | _ => none
theorem meets15 (W0 : World) : OkAt W0 15 F15 := meets_fn env (tok15 W0) mixed Tryd.func15 (by kernel_rfl) (by kernel_rfl) fun args r h => by
  unfold F15 at h
  split at h
  · cases h; exact x15 _ _ _ _
  · cases h
theorem diaW_eqX {s o : Int} (h : 0 ≤ s ∧ s ≤ 6 ∧ -1 ≤ o ∧ o ≤ 9) : diaW s o = 7 * o + s := by
  unfold diaW
  rw [w64_id (n := 7 * o) (by omega) (by omega), w64_id (by omega) (by omega)]

noncomputable def T17 : FuncId → Option Pm.Spec := tab [(28, .pure false F28), (14, .pure true F14), (25, .pure false F25)]
theorem T17_eq (g : Nat) : T17 g = tab [(28, .pure false F28), (14, .pure true F14), (25, .pure false F25)] g := rfl
theorem tok17 (W0 : World) : TOk Tryd.prog W0 T17 := tok_cons (meets28 W0) (tok_cons (meets14 W0) (tok_cons (meets25 W0) tok_nil))
theorem loop17 {F : List Fr} {P : SV × List Blk → Prop} (s a o t : Int) (hp : inR s a o) (L : List (List PV)) (hL : Pitches L) (hN : L.length ≤ 385) : ∀ (r m : Nat), m + r = L.length →
    (match found s o t (L.drop m) with
      | some q => P (.tuple [.agg (q.map .pv), .bool true], [.box [.i s, .i a, .i o], .box (q.map .pv), .tok 0 29])
      | none => X Y T17 [.cell 4 29, .tmp 5] F (.exit 0) ⟨mk 32 .J [(4, .ptr 1 0)], [.box [.i s, .i a, .i o], .box (Z3.map .pv), .tok 0 29]⟩ P) →
    X Y T17 [.cell 4 29, .tmp 5] F (.loop (loopN Tryd.f17 0)) ⟨mk 32 .J [(1, .i t), (2, .ptr 0 0), (4, .ptr 1 0), (6, .own 2 0 3 L), (7, .i (m : Nat))], [.box [.i s, .i a, .i o], .box (Z3.map .pv), .tok 0 29]⟩ P := by
  intro r
  induction r with
  | zero =>
    intro m h1 hx
    have e1 : m = L.length := by omega
    subst e1
    apply X_loop_of
    · simp only [loopN, Tryd.f17, loopsOf, List.nil_append, List.append_nil, List.cons_append, List.getD_cons_succ, List.getD_cons_zero]; rfl
    simp
    simp [found] at hx
    refine X_keep hx ?_
    simp
  | succ r ih =>
    intro m h1 hx
    have hm : m < L.length := by omega
    have hg : L[m]? = some L[m] := List.getElem?_eq_getElem hm
    obtain ⟨qs, qa, qo, e, hv⟩ := hL L[m] (List.getElem_mem hm)
    rw [e] at hg
    have hd : L.drop m = V3 qs qa qo :: L.drop (m + 1) := by rw [List.drop_eq_getElem_cons hm, e]
    rw [hd] at hx
    have q2 : ((m : Int) < (L.length : Int)) := by omega
    have q3 : IntKind.i64.wrap ((m : Int) + 1) = ((m + 1 : Nat) : Int) := by rw [show ((m : Int) + 1) = ((m + 1 : Nat) : Int) by omega]; exact w64_id (by omega) (by omega)
    have hq := hv.1
    have q4 : IntKind.i64.wrap (diaW qs qo - diaW s o) = 7 * (qo - o) + (qs - s) := by
      rw [diaW_eqX (by omega), diaW_eqX (by omega), wrap64 (by omega) (by omega)]; omega
    apply X_loop_of
    · simp only [loopN, Tryd.f17, loopsOf, List.nil_append, List.append_nil, List.cons_append, List.getD_cons_succ, List.getD_cons_zero]; rfl
    simp [-Int.natCast_add, T17_eq, onQ, q2, q3, hg, q4]
    refine ⟨fun he => ?_, fun he => ?_⟩
    · have := hx
      rw [show found s o t (V3 qs qa qo :: L.drop (m + 1)) = some (V3 qs qa qo) from List.find?_cons_of_pos (by simpa [dif] using he)] at this
      simpa using this
    · refine X_keep (ih (m + 1) (by omega) ?_) ?_
      · have := hx
        rw [show found s o t (V3 qs qa qo :: L.drop (m + 1)) = found s o t (L.drop (m + 1)) from List.find?_cons_of_neg (by simpa [dif] using he)] at this
        exact this
      · simp
def respT (s a o t : Int) : SV := match found s o t (refE (numW s a o)) with
    | some q => .tuple [.agg (q.map .pv), .bool true]
    | none => .tuple [P3 0 0 0, .bool false]
theorem x17 (s a o t : Int) (hv : valid s a o) : XFn Y T17 Tryd.f17 [P3 s a o, .i t] [] (Is (respT s a o t)) := by
  unfold XFn Tryd.f17
  rw [enter_2 _ (by decide)]
  have h06 : 0 ≤ s ∧ s ≤ 6 := ⟨hv.1.1, hv.1.2.1⟩
  have hne := (enh_row hv.2).2
  simp [T17_eq, F14, onQ, onP, h06, hne]
  refine X_keep (loop17 s a o t hv.1 (refE (numW s a o)) (refE_p _) (refE_len _) (refE (numW s a o)).length 0 (by omega) ?_) ?_
  · unfold respT
    rw [List.drop_zero]
    cases hf : found s o t (refE (numW s a o)) with
    | some q =>
      obtain ⟨qs, qa, qo, rfl, _⟩ := refE_p _ q (List.mem_of_find?_eq_some hf)
      simp
    | none => simp
  · simp
def F17 : List SV → Option SV
  | [.agg [.pv (.int .i64 s), .pv (.int .i64 a), .pv (.int .i64 o)], .pv (.int .i64 t)] => if valid s a o then some (respT s a o t) else none
  | _ => none
theorem meets17 (W0 : World) : OkAt W0 17 F17 := meets_fn env (tok17 W0) mixed Tryd.func17 (by kernel_rfl) (by kernel_rfl) fun args r h => by
  unfold F17 at h
  split at h
  · split at h
    · cases h; rename_i hv; exact x17 _ _ _ _ hv
    · cases h
  · cases h

/-- Every pitch stands in the row of all. -/
theorem rowsC_has {s a o : Int} (hv : valid s a o) : ∀ r : Nat, 3 - (r : Int) ≤ a → V3 s a o ∈ rowsC s o r
  | 0, h => by have := hv.1; omega
  | r + 1, h => by
    simp only [rowsC, List.mem_append]
    by_cases e : a = 2 - r
    · left
      subst e
      rw [if_pos (show ex s (2 - r) o = true from if_pos hv)]
      simp
    · exact .inr (rowsC_has hv r (by omega))
theorem rowsB_has {s a o : Int} (hv : valid s a o) : ∀ r : Nat, 7 - (r : Int) ≤ s → V3 s a o ∈ rowsB o r
  | 0, h => by have := hv.1; omega
  | r + 1, h => by
    simp only [rowsB, List.mem_append]
    by_cases e : s = 6 - r
    · left
      subst e
      exact rowsC_has hv 5 (by have := hv.1; omega)
    · exact .inr (rowsB_has hv r (by omega))
theorem rowsA_has {s a o : Int} (hv : valid s a o) : ∀ r : Nat, 10 - (r : Int) ≤ o → V3 s a o ∈ rowsA r
  | 0, h => by have := hv.1; omega
  | r + 1, h => by
    simp only [rowsA, List.mem_append]
    by_cases e : o = 9 - r
    · left
      subst e
      exact rowsB_has hv 7 (by have := hv.1; omega)
    · exact .inr (rowsA_has hv r (by omega))
theorem all_has {s a o : Int} (hv : valid s a o) : V3 s a o ∈ allL := rowsA_has hv 11 (by have := hv.1; omega)
/-- A pitch is told by its number and its place. -/
theorem found_back {s a o t qs qa qo : Int} (hv : valid s a o) (hf : found s o t (refE (numW s a o)) = some (V3 qs qa qo)) :
    valid qs qa qo ∧ (-100 ≤ t ∧ t ≤ 100) ∧ found qs qo (-t) (refE (numW qs qa qo)) = some (V3 s a o) := by
  have h1 := List.find?_some hf
  have h2 := List.mem_of_find?_eq_some hf
  obtain ⟨s1, a1, o1, e1, hq⟩ := refE_p _ _ h2
  simp only [List.cons.injEq, PV.int.injEq, true_and, and_true] at e1
  obtain ⟨rfl, rfl, rfl⟩ := e1
  have hn : numW qs qa qo = numW s a o := by
    have := (List.mem_filter.1 h2).2
    simpa [numOf] using this
  simp only [dif, beq_iff_eq] at h1
  have r1 := hv.1
  have r2 := hq.1
  refine ⟨hq, by omega, ?_⟩
  rw [hn]
  -- p stands in the row, and nothing else of the row stands at its place
  have main : ∀ x ∈ refE (numW s a o), dif qs qo x = -t → x = V3 s a o := by
    intro x hx hd
    obtain ⟨xs, xa, xo, rfl, hxv⟩ := refE_p _ _ hx
    have hxn : numW xs xa xo = numW s a o := by
      have := (List.mem_filter.1 hx).2
      simpa [numOf] using this
    simp only [dif] at hd
    have r3 := hxv.1
    have eo : xo = o := by omega
    have es : xs = s := by omega
    subst eo; subst es
    rw [numW_eqX hxv.1, numW_eqX hv.1] at hxn
    have : xa = a := by omega
    rw [this]
  have hmem : V3 s a o ∈ refE (numW s a o) := by
    have hall : V3 s a o ∈ allL := by
      have := all_has hv
      exact this
    exact List.mem_filter.2 ⟨hall, by simp [numOf]⟩
  cases hf2 : found qs qo (-t) (refE (numW s a o)) with
  | none =>
    have := List.find?_eq_none.1 hf2 _ hmem
    simp only [dif, beq_iff_eq] at this
    omega
  | some x =>
    have e2 := List.find?_some hf2
    rw [main x (List.mem_of_find?_eq_some hf2) (by simpa using e2)]
theorem found_or (s a o t : Int) : (∃ qs qa qo, found s o t (refE (numW s a o)) = some (V3 qs qa qo)) ∨ found s o t (refE (numW s a o)) = none := by
  generalize hL : refE (numW s a o) = L
  have hp : Pitches L := by rw [← hL]; exact refE_p _
  cases hf : found s o t L with
  | none => exact .inr rfl
  | some q =>
    obtain ⟨qs, qa, qo, rfl, _⟩ := hp q (List.mem_of_find?_eq_some hf)
    exact .inl ⟨qs, qa, qo, rfl⟩
theorem respR_some {s a o t qs qa qo : Int} (hv : valid s a o) (hf : found s o t (refE (numW s a o)) = some (V3 qs qa qo)) : respR s a o t = .tuple [P3 qs qa qo, .i 0] := by
  unfold respR; rw [if_pos hv, hf]; rfl
theorem respR_none {s a o t : Int} (hv : valid s a o) (hf : found s o t (refE (numW s a o)) = none) : respR s a o t = .tuple [P3 0 0 0, .i 18] := by
  unfold respR; rw [if_pos hv, hf]
theorem respR_bad {s a o t : Int} (hv : ¬ valid s a o) : respR s a o t = .tuple [P3 0 0 0, .i 18] := by
  unfold respR; rw [if_neg hv]
theorem respT_some {s a o t qs qa qo : Int} (hf : found s o t (refE (numW s a o)) = some (V3 qs qa qo)) : respT s a o t = .tuple [P3 qs qa qo, .bool true] := by
  unfold respT; rw [hf]; rfl
theorem respT_none {s a o t : Int} (hf : found s o t (refE (numW s a o)) = none) : respT s a o t = .tuple [P3 0 0 0, .bool false] := by
  unfold respT; rw [hf]
noncomputable def T4 : FuncId → Option Pm.Spec := tab [(13, .pure false F13), (15, .pure false F15), (16, .pure false F16), (17, .pure false F17)]
theorem T4_eq (g : Nat) : T4 g = tab [(13, .pure false F13), (15, .pure false F15), (16, .pure false F16), (17, .pure false F17)] g := rfl
theorem tok4 {W0 : World} (L : Laid W0) : TOk Tryd.prog W0 T4 := tok_cons (meets13 L) (tok_cons (meets15 W0) (tok_cons (meets16 W0) (tok_cons (meets17 W0) tok_nil)))
theorem x4 (s a o t : Int) : XFn Y T4 Tryd.f4 [P3 s a o, .i t] [] (Is (.bool true)) := by
  unfold XFn Tryd.f4
  rw [enter_2 _ (by decide)]
  by_cases hv : valid s a o
  · have e1 : ex s a o = true := if_pos hv
    rcases found_or s a o t with ⟨qs, qa, qo, hf⟩ | hf
    · obtain ⟨b1, b2, b3⟩ := found_back hv hf
      have b4 : IntKind.i64.wrap (-t) = -t := wrap64 (by omega) (by omega)
      have r1 := respR_some hv hf
      have r2 := respT_some hf
      have r3 := respR_some b1 b3
      simp [T4_eq, F13, F15, F17, onQ, hv, e1, r1, r2, r3, b4]
    · have r1 := respR_none hv hf
      have r2 := respT_none hf
      simp [T4_eq, F13, F15, F17, onQ, hv, e1, r1, r2]
  · have e1 : ex s a o = false := if_neg hv
    have r1 := respR_bad (t := t) hv
    simp [T4_eq, F13, F15, onQ, e1, r1]
theorem run4 (s a o t : Int) (_h : (-9223372036854775808 ≤ s ∧ s ≤ 9223372036854775807) ∧ (-9223372036854775808 ≤ a ∧ a ≤ 9223372036854775807) ∧ (-9223372036854775808 ≤ o ∧ o ≤ 9223372036854775807))
    (_h' : -9223372036854775808 ≤ t ∧ t ≤ 9223372036854775807) : XFn Y T4 Tryd.f4 [P3 s a o, .i t] [] (Is (.bool true)) := x4 s a o t
end Go.Proofs.YthoampbpeiehhaaDoor
