/- The text of a time signature, by the machine. -/
import Derived.Test.YtooajpojikkkdaaDoorMetreM
set_option linter.unusedSimpArgs false
set_option linter.unusedVariables false
set_option maxRecDepth 1000000
set_option maxHeartbeats 400000
namespace Go.Proofs.YtooajpojikkkdaaDoor
open Go Go.Pm Go.RowKit
/-- A number below 100 in decimal. -/
def d100 (n : Nat) : List UInt8 := if n < 10 then [UInt8.ofNat (48 + n)] else [UInt8.ofNat (48 + n / 10), UInt8.ofNat (48 + n % 10)]
theorem dec_d100 {n : Nat} (h : n < 100) : Lib.decDigits n = d100 n := by
  unfold Lib.decDigits d100
  by_cases h1 : n < 10
  · rw [dif_pos h1, if_pos h1]
  · rw [dif_neg h1, if_neg h1]
    unfold Lib.decDigits
    rw [dif_pos (by omega)]; rfl
theorem d100_len (n : Nat) : 1 ≤ (d100 n).length ∧ (d100 n).length ≤ 2 := by unfold d100; split <;> simp
def F68 : List SV → Option SV
  | [.pv (.int .i64 n)] => if 0 ≤ n ∧ n < 100 then some (.str (d100 n.toNat)) else none
  | _ => none
theorem rel_strN (C : Cf) (l : List UInt8) : RelS C (.str l) (.string ⟨l.toArray⟩) := .pv _ _ (.str l)
theorem meets68 (W0 : World) : OkAt W0 68 F68 := by
  refine ⟨enterable_of Tryd.func68 (by kernel_rfl), meets_lib fun C args vs r hF J hr => ?_⟩
  unfold F68 at hF
  split at hF
  · rename_i n
    split at hF
    · rename_i hn
      cases hF
      obtain ⟨u, us, rfl, h1, h2⟩ := hr.uncons
      have : us = [] := by simpa using h2.1
      subst this
      cases h1 with | pv _ _ h1 =>
      cases h1
      obtain ⟨m, rfl⟩ : ∃ m : Nat, n = m := ⟨n.toNat, by omega⟩
      refine ⟨trivial, (Any.strconv_Itoa_small Tryd.lays171 m (by omega) C.w).mono ?_⟩
      rintro e w' ⟨rfl, rfl⟩
      refine ⟨_, rfl, Below.refl _ _, fun D => ?_⟩
      rw [dec_d100 (by omega)]
      exact rel_strN D _
    · cases hF
  · cases hF
def rowS (l : List (List UInt8)) : List (List PV) := l.map fun s => [PV.str s]
theorem rowS_len (l : List (List UInt8)) : (rowS l).length = l.length := by simp [rowS]
def unrowS : List (List PV) → Option (List (List UInt8))
  | [] => some []
  | [.str s] :: r => (unrowS r).map (s :: ·)
  | _ => none
theorem unrowS_eq : ∀ {es : List (List PV)} {l : List (List UInt8)}, unrowS es = some l → es = rowS l
  | [], l, h => by simp [unrowS] at h; subst h; rfl
  | e :: r, l, h => by
    unfold unrowS at h
    split at h
    · rename_i h0; cases h0
    · rename_i s r' h0
      cases h0
      cases hr : unrowS r with
      | none => simp [hr] at h
      | some l' => simp [hr] at h; subst h; rw [unrowS_eq hr]; rfl
    · cases h
theorem unrowS_row : ∀ (l : List (List UInt8)), unrowS (rowS l) = some l
  | [] => rfl
  | s :: r => by
    show (unrowS (rowS r)).map (s :: ·) = _
    rw [unrowS_row r]; rfl
def F69 : List SV → Option SV
  | [.pv (.slice 1 es), .pv (.str sep)] => match unrowS es with
    | some l => if l.length ≤ 1000000 ∧ (Lib.join l sep).length ≤ 140737488355328 then some (.str (Lib.join l sep)) else none
    | none => none
  | _ => none
theorem meets69 (W0 : World) : OkAt W0 69 F69 := by
  refine ⟨enterable_of Tryd.func69 (by kernel_rfl), meets_lib fun C args vs r hF J hr => ?_⟩
  unfold F69 at hF
  split at hF
  · rename_i es sep
    split at hF
    · rename_i l hl
      split at hF
      · rename_i hc
        cases hF
        have hes := unrowS_eq hl
        subst hes
        obtain ⟨u, us, rfl, h1, h2⟩ := hr.uncons
        obtain ⟨u2, us2, rfl, h3, h4⟩ := h2.uncons
        have : us2 = [] := by simpa using h4.1
        subst this
        cases h1 with | pv _ _ h1 =>
        cases h3 with | pv _ _ h3 =>
        cases h3
        cases h1 with | slice _ _ b off cap u hcap hs hS hcl hrl =>
        refine ⟨trivial, ?_⟩
        by_cases h0 : l = []
        · subst h0
          refine (Any.strings_Join_none Tryd.lays156 Tryd.Builder_Extra_156 (some ⟨b, off, none⟩) cap ⟨sep.toArray⟩ C.w).mono ?_
          rintro e w' ⟨rfl, rfl⟩
          exact ⟨_, rfl, Below.refl _ _, fun D => rel_strN D _⟩
        · have hcells : ∀ (j : Nat) (x : ByteArray), (l.map fun s => (⟨s.toArray⟩ : ByteArray))[j]? = some x → C.w.cell? ⟨b, off + j, none⟩ = some (.string x) := by
            intro j x hj
            rw [List.getElem?_map] at hj
            cases hlj : l[j]? with
            | none => simp [hlj] at hj
            | some s =>
              simp [hlj] at hj
              subst hj
              have e1 : (rowS l)[j]? = some [.str s] := by simp [rowS, hlj]
              have h5 := hcl j _ 0 _ e1 rfl
              have h6 := hrl j _ 0 _ e1 rfl
              simp only [Nat.mul_one, Nat.add_zero] at h5
              rw [h5]
              generalize u j 0 = q at h6
              cases h6; rfl
          have hb : b < C.w.heap.size := by
            cases l with
            | nil => exact absurd rfl h0
            | cons s r => exact Lib.lt_of_cell (hcells 0 ⟨s.toArray⟩ (by simp))
          have hm : (l.map fun s => (⟨s.toArray⟩ : ByteArray)).map (·.data.toList) = l := by
            rw [List.map_map]
            conv => rhs; rw [← List.map_id l]
            exact List.map_congr_left fun x _ => rfl
          have hj := Any.strings_Join Tryd.lays156 Tryd.Builder_Extra_156 b off cap (l.map fun s => (⟨s.toArray⟩ : ByteArray)) ⟨sep.toArray⟩ C.w hcells hb (by simp; omega) (by simp; rw [rowS_len] at hcap; exact hcap) (by rw [hm]; exact hc.2)
          rw [hm] at hj
          have e2 : (rowS l).length = (l.map fun s => (⟨s.toArray⟩ : ByteArray)).length := by simp [rowS_len]
          rw [e2]
          refine hj.mono ?_
          rintro e w' ⟨rfl, hB⟩
          exact ⟨_, rfl, hB, fun D => rel_strN D _⟩
      · cases hF
    · cases hF
  · cases hF
theorem app69 {H : List Blk} {es : List (List UInt8)} {out : SV} (x : List UInt8) (hl : es.length ≤ 100000) (h : Pm.Acc 9 1 H (rowS es) out) :
    ∃ out' H', aAppend Y H 69 69 out (.tight 1 [[.str x]]) = some (out', H') ∧ Pm.Acc 9 1 H' (rowS (es ++ [x])) out' ∧ (∀ (k : Nat) (cs : List SV), H[k]? = some (.box cs) → H'[k]? = some (.box cs)) := by
  obtain ⟨out', H', a, b, -, c⟩ := Acc.app (Y := Y) (t := 69) (e := 9) (y := ⟨.str, 1, 16, [.str []], []⟩) (x := [.str x]) rfl rfl (by decide) (by decide) (by decide) (by rw [rowS_len]; simp [maxRow]; omega) h
  exact ⟨out', H', a, by simpa [rowS] using b, c⟩
noncomputable def T48 : FuncId → Option Pm.Spec := tab [(68, .pure false F68), (69, .pure false F69)]
theorem T48_eq (g : Nat) : T48 g = tab [(68, .pure false F68), (69, .pure false F69)] g := rfl
def txs (l : List Int) : List (List UInt8) := (l.filter fun g => decide (0 < g)).map fun g => d100 g.toNat
theorem txs_pos {g : Int} (l : List Int) (h : 0 < g) : txs (g :: l) = d100 g.toNat :: txs l := by simp [txs, h]
theorem txs_neg {g : Int} (l : List Int) (h : ¬ 0 < g) : txs (g :: l) = txs l := by simp [txs, h]
theorem loop48 {F : List Fr} {P : SV × List Blk → Prop} {rs : List ResultVar} (c u g0 g1 g2 g3 g4 g5 : Int) : ∀ (r m : Nat) (H : List Blk) (es : List (List UInt8)) (out : SV), m + r = 6 → es.length ≤ m → H[0]? = some (.box (M8 c u g0 g1 g2 g3 g4 g5)) → Pm.Acc 9 1 H (rowS es) out →
    (∀ g ∈ [g0, g1, g2, g3, g4, g5].drop m, g < 100) →
    (∀ H' out', H'[0]? = some (.box (M8 c u g0 g1 g2 g3 g4 g5)) → Pm.Acc 9 1 H' (rowS (es ++ txs ([g0, g1, g2, g3, g4, g5].drop m))) out' → X Y T48 rs F (.exit 0) ⟨mk 33 .J [(1, .ptr 0 0), (3, out')], H'⟩ P) →
    X Y T48 rs F (.loop (loopN Tryd.f48 0)) ⟨mk 33 .J [(1, .ptr 0 0), (3, out), (7, .agg (G6 g0 g1 g2 g3 g4 g5)), (8, .i (m : Nat))], H⟩ P := by
  intro r
  induction r with
  | zero =>
    intro m H es out h1 hl hb hA h100 hx
    have e1 : m = 6 := by omega
    subst e1
    apply X_loop_of
    · simp only [loopN, Tryd.f48, loopsOf, List.nil_append, List.append_nil, List.cons_append, List.getD_cons_succ, List.getD_cons_zero]; rfl
    simp
    refine X_keep (hx H out hb (by simpa [txs] using hA)) ?_
    simp
  | succ r ih =>
    intro m H es out h1 hl hb hA h100 hx
    have hm : m < 6 := by omega
    have hg := g6_at g0 g1 g2 g3 g4 g5 hm
    rw [g6_drop g0 g1 g2 g3 g4 g5 hm] at hx h100
    generalize gAt g0 g1 g2 g3 g4 g5 m = g at hg hx h100
    have hg100 := h100 g (by simp)
    have q2 : ((m : Int) < 6) := by omega
    have q3 := next_i (m := m) (by omega)
    obtain ⟨out1, H1, a1, a2, a3⟩ := app69 (d100 g.toNat) (by omega) hA
    apply X_loop_of
    · simp only [loopN, Tryd.f48, loopsOf, List.nil_append, List.append_nil, List.cons_append, List.getD_cons_succ, List.getD_cons_zero]; rfl
    by_cases hp : 0 < g
    · have hp' : 0 ≤ g := by omega
      simp [-aAppend, -Int.natCast_add, -Int.not_lt, -Int.not_le, q2, q3, hg, hb, a1, hA.live, a2.live, T48_eq, F68, hp, hp', hg100]
      refine X_keep (ih (m + 1) H1 (es ++ [d100 g.toNat]) out1 (by omega) (by simp; omega) (a3 _ _ hb) a2 (fun x hx => h100 x (List.mem_cons_of_mem _ hx)) (fun H' out' hb' hA' => hx H' out' hb' ?_)) ?_
      · rw [txs_pos _ hp, List.append_cons]; exact hA'
      · simp
    · simp [-aAppend, -Int.natCast_add, -Int.not_lt, -Int.not_le, q2, q3, hg, hb, hA.live, T48_eq, hp]
      refine X_keep (ih (m + 1) H es out (by omega) (by omega) hb hA (fun x hx => h100 x (List.mem_cons_of_mem _ hx)) (fun H' out' hb' hA' => hx H' out' hb' ?_)) ?_
      · rw [txs_neg _ hp]; exact hA'
      · simp
/-- The text of a valid time signature. -/
def textZ (c u : Int) (gs : List Int) : List UInt8 := Lib.join (if txs gs = [] then [d100 c.toNat] else txs gs) [43] ++ [47] ++ d100 u.toNat
theorem txs_facts (l : List Int) : (txs l).length ≤ l.length ∧ Lib.lens (txs l) ≤ 2 * (txs l).length := by
  induction l with
  | nil => simp [txs, Lib.lens]
  | cons g r ih =>
    by_cases h : 0 < g
    · rw [txs_pos _ h]
      have := d100_len g.toNat
      simp only [List.length_cons, Lib.lens, List.map_cons, List.sum_cons] at *
      omega
    · rw [txs_neg _ h]; simp only [List.length_cons]; omega
theorem join_small (l : List (List UInt8)) (h1 : l.length ≤ 6) (h2 : Lib.lens l ≤ 12) : (Lib.join l [43]).length ≤ 20 := by
  cases l with
  | nil => simp [Lib.join]
  | cons a r =>
    rw [Lib.join_length]
    simp at h1 ⊢
    omega
theorem okM_small {c u g0 g1 g2 g3 g4 g5 : Int} (h : okM c u [g0, g1, g2, g3, g4, g5]) : ∀ g ∈ [g0, g1, g2, g3, g4, g5], g < 100 := by
  obtain ⟨hc, hu, hg⟩ := h
  have main : ∀ (l : List Int) (i s n : Int) (r : Int × Int), gfold l i s n = some r → ∀ g ∈ l, g ≤ 64 := by
    intro l
    induction l with
    | nil => intro i s n r _ g hg; simp at hg
    | cons a t ih =>
      intro i s n r hf g hg
      rw [gfold] at hf
      split at hf
      · cases hf
      · rename_i hc
        have ht : ∀ g ∈ t, g ≤ 64 := by
          split at hf
          · exact ih _ _ _ _ hf
          · exact ih _ _ _ _ hf
        rcases List.mem_cons.1 hg with rfl | hg
        · omega
        · exact ht g hg
  intro g hm
  unfold grpB at hg
  by_cases hz : [g0, g1, g2, g3, g4, g5] = [0, 0, 0, 0, 0, 0]
  · rw [hz] at hm; simp at hm; omega
  · rw [decide_eq_false hz, Bool.false_or] at hg
    cases hf : gfold [g0, g1, g2, g3, g4, g5] 0 0 0 with
    | none => rw [hf] at hg; cases hg
    | some r => have := main _ _ _ _ _ hf g hm; omega
theorem x48 (c u g0 g1 g2 g3 g4 g5 : Int) (h : okM c u [g0, g1, g2, g3, g4, g5]) : XFn Y T48 Tryd.f48 [.agg (M8 c u g0 g1 g2 g3 g4 g5)] [] (Is (.str (textZ c u [g0, g1, g2, g3, g4, g5]))) := by
  unfold XFn Tryd.f48
  rw [enter_1 _ (by decide)]
  have hc := h.1
  have hu : 0 ≤ u ∧ u < 100 := by rcases uOk_cases h.2.1 with rfl | rfl | rfl | rfl | rfl | rfl | rfl <;> decide
  have hs := okM_small h
  simp [-Int.not_lt, -Int.not_le]
  refine X_keep (loop48 c u g0 g1 g2 g3 g4 g5 6 0 _ [] _ (by omega) (by simp) rfl Acc.nil (by simpa using hs) ?_) ?_
  · intro H' out' hb hA
    simp only [List.nil_append, List.drop_zero] at hA
    obtain ⟨t1, t2⟩ := txs_facts [g0, g1, g2, g3, g4, g5]
    unfold textZ
    generalize txs [g0, g1, g2, g3, g4, g5] = L at *
    have c1 : 0 ≤ c := by omega
    have c2 : c < 100 := by omega
    have dl := d100_len c.toNat
    have du := d100_len u.toNat
    simp only [List.length_cons, List.length_nil] at t1
    rcases hA with ⟨e1, rfl⟩ | ⟨e1, k, v, rfl, hk⟩
    · have e2 : L = [] := by cases L with | nil => rfl | cons a r => simp [rowS] at e1
      subst e2
      have hj := join_small [d100 c.toNat] (by simp) (by simp [Lib.lens]; omega)
      have w1 : (Lib.join [d100 c.toNat] [43]).length ≤ 140737488355328 := by omega
      have w2 : (Lib.join [d100 c.toNat] [43]).length + 1 ≤ 4611686018427387904 := by omega
      have w3 : (Lib.join [d100 c.toNat] [43]).length + 1 + (d100 u.toNat).length ≤ 4611686018427387904 := by omega
      have f9 : F69 [.pv (.slice 1 [[.str (d100 c.toNat)]]), .pv (.str [43])] = some (.str (Lib.join [d100 c.toNat] [43])) := by
        simp [F69, unrowS, w1]
      simp [-Int.not_lt, -Int.not_le, hb, T48_eq, F68, f9, c1, c2, hu, w2, w3]
    · have e2 : L ≠ [] := by intro e; subst e; exact e1 rfl
      have hj := join_small L (by omega) (by omega)
      have w1 : (Lib.join L [43]).length ≤ 140737488355328 := by omega
      have w2 : (Lib.join L [43]).length + 1 ≤ 4611686018427387904 := by omega
      have w3 : (Lib.join L [43]).length + 1 + (d100 u.toNat).length ≤ 4611686018427387904 := by omega
      have f9 : F69 [.pv (.slice 1 (rowS L)), .pv (.str [43])] = some (.str (Lib.join L [43])) := by
        simp [F69, unrowS_row, w1]; omega
      have l0 : ¬ (rowS L).length = 0 := by rw [rowS_len]; intro e; exact e2 (List.length_eq_zero_iff.1 e)
      have l1 : ¬ ((rowS L).length : Int) = 0 := by omega
      simp [-Int.not_lt, -Int.not_le, hb, T48_eq, F68, f9, c1, c2, hu, w2, w3, e2, l0, l1, e1]
  · simp
def F48 : List SV → Option SV
  | [.agg [.pv (.int .i64 c), .pv (.int .i64 u), .pv (.int .i64 g0), .pv (.int .i64 g1), .pv (.int .i64 g2), .pv (.int .i64 g3), .pv (.int .i64 g4), .pv (.int .i64 g5)]] =>
    if okM c u [g0, g1, g2, g3, g4, g5] then some (.str (textZ c u [g0, g1, g2, g3, g4, g5])) else none
  | _ => none
theorem meets48 (W0 : World) : OkAt W0 48 F48 := meets_fn env (tok_cons (meets68 W0) (tok_cons (meets69 W0) tok_nil)) mixed Tryd.func48 (by kernel_rfl) (by kernel_rfl) fun args r h => by
  unfold F48 at h
  split at h
  · split at h
    · cases h; rename_i hu; exact x48 _ _ _ _ _ _ _ _ hu
    · cases h
  · cases h
noncomputable def T32 : FuncId → Option Pm.Spec := tab [(26, .pure false F26), (48, .pure false F48)]
theorem T32_eq (g : Nat) : T32 g = tab [(26, .pure false F26), (48, .pure false F48)] g := rfl
/-- Text and its error. -/
def textR (c u : Int) (gs : List Int) : List UInt8 × Int := if chkM c u gs = 0 then (textZ c u gs, 0) else ([], chkM c u gs)
theorem x32 (c u g0 g1 g2 g3 g4 g5 : Int) : XFn Y T32 Tryd.f32 [.agg (M8 c u g0 g1 g2 g3 g4 g5)] [] (Is (.tuple [.str (textR c u [g0, g1, g2, g3, g4, g5]).1, .i (textR c u [g0, g1, g2, g3, g4, g5]).2])) := by
  unfold XFn Tryd.f32
  rw [enter_1 _ (by decide)]
  by_cases h0 : chkM c u [g0, g1, g2, g3, g4, g5] = 0
  · have hok := okM_chk.2 h0
    simp [T32_eq, F26, F48, h0, hok, textR]
  · simp [T32_eq, F26, F48, h0, textR]
def F32 : List SV → Option SV
  | [.agg [.pv (.int .i64 c), .pv (.int .i64 u), .pv (.int .i64 g0), .pv (.int .i64 g1), .pv (.int .i64 g2), .pv (.int .i64 g3), .pv (.int .i64 g4), .pv (.int .i64 g5)]] =>
    some (.tuple [.str (textR c u [g0, g1, g2, g3, g4, g5]).1, .i (textR c u [g0, g1, g2, g3, g4, g5]).2])
  | _ => none
theorem meets32 (W0 : World) : OkAt W0 32 F32 := meets_fn env (tok_cons (meets26 W0) (tok_cons (meets48 W0) tok_nil)) mixed Tryd.func32 (by kernel_rfl) (by kernel_rfl) fun args r h => by
  unfold F32 at h
  split at h
  · cases h; exact x32 _ _ _ _ _ _ _ _
  · cases h
end Go.Proofs.YtooajpojikkkdaaDoor
