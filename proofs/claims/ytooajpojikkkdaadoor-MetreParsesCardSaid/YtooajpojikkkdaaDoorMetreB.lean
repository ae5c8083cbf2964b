/- Time signatures: lengths, groups and beats of the reference, by the machine. -/
import Derived.Test.YtooajpojikkkdaaDoorMetreA
set_option linter.unusedSimpArgs false
set_option linter.unusedVariables false
set_option maxRecDepth 1000000
set_option maxHeartbeats 400000
namespace Go.Proofs.YtooajpojikkkdaaDoor
open Go Go.Pm
/-- A valid time signature. -/
def okM (c u : Int) (gs : List Int) : Prop := (1 ≤ c ∧ c ≤ 64) ∧ uOk u = true ∧ grpB c gs = true
theorem okM_chk {c u : Int} {gs : List Int} : okM c u gs ↔ chkM c u gs = 0 := by
  unfold okM chkM
  constructor
  · rintro ⟨h1, h2, h3⟩
    rw [if_neg (by omega), if_neg (by rw [h2]; decide), if_neg (by rw [h3]; decide)]
  · intro h
    split at h
    · cases h
    · split at h
      · cases h
      · split at h
        · cases h
        · rename_i h1 h2 h3
          exact ⟨by omega, by simpa using h2, by simpa using h3⟩
instance (c u : Int) (gs : List Int) : Decidable (okM c u gs) := inferInstanceAs (Decidable ((1 ≤ c ∧ c ≤ 64) ∧ uOk u = true ∧ grpB c gs = true))
theorem uOk_cases {u : Int} (h : uOk u = true) : u = 1 ∨ u = 2 ∨ u = 4 ∨ u = 8 ∨ u = 16 ∨ u = 32 ∨ u = 64 := by
  unfold uOk at h
  simp at h
  omega
def unitZ (u : Int) : Int := 1935360 / u
theorem unitZ_range {u : Int} (h : uOk u = true) : 30240 ≤ unitZ u ∧ unitZ u ≤ 1935360 := by
  rcases uOk_cases h with rfl | rfl | rfl | rfl | rfl | rfl | rfl <;> decide
def lenZ (c u : Int) : Int := c * unitZ u
theorem lenZ_range {c u : Int} (hc : 1 ≤ c ∧ c ≤ 64) (h : uOk u = true) : 30240 ≤ lenZ c u ∧ lenZ c u ≤ 123863040 := by
  unfold lenZ
  rcases uOk_cases h with rfl | rfl | rfl | rfl | rfl | rfl | rfl <;> simp only [unitZ] <;> omega
theorem unit_div {u : Int} (h : uOk u = true) : IntKind.i64.wrap ((1935360 : Int).tdiv u) = unitZ u := by
  rcases uOk_cases h with rfl | rfl | rfl | rfl | rfl | rfl | rfl <;> rfl
def F39 : List SV → Option SV
  | [.agg [.pv (.int .i64 _), .pv (.int .i64 u), .pv (.int .i64 _), .pv (.int .i64 _), .pv (.int .i64 _), .pv (.int .i64 _), .pv (.int .i64 _), .pv (.int .i64 _)]] => if uOk u = true then some (.i (unitZ u)) else none
  | _ => none
theorem x39 (c u g0 g1 g2 g3 g4 g5 : Int) (hu : uOk u = true) : XFn Y T0 Tryd.f39 [.agg (M8 c u g0 g1 g2 g3 g4 g5)] [] (Is (.i (unitZ u))) := by
  unfold XFn Tryd.f39
  rw [enter_1 _ (by decide)]
  have h0 : u ≠ 0 := by rcases uOk_cases hu with rfl | rfl | rfl | rfl | rfl | rfl | rfl <;> decide
  simp [h0, unit_div hu]
theorem x58 (c u g0 g1 g2 g3 g4 g5 : Int) (hu : uOk u = true) : XFn Y T0 Tryd.f58 [.agg (M8 c u g0 g1 g2 g3 g4 g5)] [] (Is (.i (unitZ u))) := by
  unfold XFn Tryd.f58
  rw [enter_1 _ (by decide)]
  have h0 : u ≠ 0 := by rcases uOk_cases hu with rfl | rfl | rfl | rfl | rfl | rfl | rfl <;> decide
  simp [h0, unit_div hu]
theorem meets39 (W0 : World) : OkAt W0 39 F39 := meets_fn env tok_nil mixed Tryd.func39 (by kernel_rfl) (by kernel_rfl) fun args r h => by
  unfold F39 at h
  split at h
  · split at h
    · cases h; rename_i hu; exact x39 _ _ _ _ _ _ _ _ hu
    · cases h
  · cases h
theorem meets58 (W0 : World) : OkAt W0 58 F39 := meets_fn env tok_nil mixed Tryd.func58 (by kernel_rfl) (by kernel_rfl) fun args r h => by
  unfold F39 at h
  split at h
  · split at h
    · cases h; rename_i hu; exact x58 _ _ _ _ _ _ _ _ hu
    · cases h
  · cases h
def F20 : List SV → Option SV
  | [.agg [.pv (.int .i64 c), .pv (.int .i64 u), .pv (.int .i64 _), .pv (.int .i64 _), .pv (.int .i64 _), .pv (.int .i64 _), .pv (.int .i64 _), .pv (.int .i64 _)]] => if uOk u = true ∧ 1 ≤ c ∧ c ≤ 64 then some (.i (lenZ c u)) else none
  | _ => none
noncomputable def T20 : FuncId → Option Pm.Spec := tab [(39, .pure false F39), (58, .pure false F39)]
theorem T20_eq (g : Nat) : T20 g = tab [(39, .pure false F39), (58, .pure false F39)] g := rfl
theorem tok20 (W0 : World) : TOk Tryd.prog W0 T20 := tok_cons (meets39 W0) (tok_cons (meets58 W0) tok_nil)
theorem x20 (c u g0 g1 g2 g3 g4 g5 : Int) (hu : uOk u = true) (hc : 1 ≤ c ∧ c ≤ 64) : XFn Y T20 Tryd.f20 [.agg (M8 c u g0 g1 g2 g3 g4 g5)] [] (Is (.i (lenZ c u))) := by
  unfold XFn Tryd.f20
  rw [enter_1 _ (by decide)]
  have hl := lenZ_range hc hu
  have e : IntKind.i64.wrap (c * unitZ u) = lenZ c u := wrap64 (n := lenZ c u) (by omega) (by omega)
  simp [T20_eq, F39, hu, e]
theorem x38 (c u g0 g1 g2 g3 g4 g5 : Int) (hu : uOk u = true) (hc : 1 ≤ c ∧ c ≤ 64) : XFn Y T20 Tryd.f38 [.agg (M8 c u g0 g1 g2 g3 g4 g5)] [] (Is (.i (lenZ c u))) := by
  unfold XFn Tryd.f38
  rw [enter_1 _ (by decide)]
  have hl := lenZ_range hc hu
  have e : IntKind.i64.wrap (c * unitZ u) = lenZ c u := wrap64 (n := lenZ c u) (by omega) (by omega)
  simp [T20_eq, F39, hu, e]
theorem meets20 (W0 : World) : OkAt W0 20 F20 := meets_fn env (tok20 W0) mixed Tryd.func20 (by kernel_rfl) (by kernel_rfl) fun args r h => by
  unfold F20 at h
  split at h
  · split at h
    · cases h; rename_i hu; exact x20 _ _ _ _ _ _ _ _ hu.1 hu.2
    · cases h
  · cases h
theorem meets38 (W0 : World) : OkAt W0 38 F20 := meets_fn env (tok20 W0) mixed Tryd.func38 (by kernel_rfl) (by kernel_rfl) fun args r h => by
  unfold F20 at h
  split at h
  · split at h
    · cases h; rename_i hu; exact x38 _ _ _ _ _ _ _ _ hu.1 hu.2
    · cases h
  · cases h

/-- The groups of a valid time signature. -/
def sizeZ (c u : Int) : Int := if 8 ≤ u ∧ c % 3 = 0 then 3 else 1
def grpL (c u : Int) (gs : List Int) : List Int := if gs.getD 0 0 = 0 then List.replicate (c / sizeZ c u).toNat (sizeZ c u) else gs.takeWhile fun g => decide (0 < g)
def rowI (l : List Int) : List (List PV) := l.map fun g => [PV.int .i64 g]
theorem rowI_len (l : List Int) : (rowI l).length = l.length := by simp [rowI]
theorem rowI_get (l : List Int) (i : Nat) : (rowI l)[i]? = (l[i]?).map fun g => [PV.int .i64 g] := by simp [rowI]
abbrev ty3 : Ty := ⟨.int .i64, 1, 8, [.int .i64 0], []⟩
theorem app3 {H : List Blk} {es : List Int} {out : SV} (x : Int) (hl : es.length ≤ 100000) (h : Pm.Acc 3 1 H (rowI es) out) :
    ∃ out' H', aAppend Y H 44 44 out (.tight 1 [[.int .i64 x]]) = some (out', H') ∧ Pm.Acc 3 1 H' (rowI (es ++ [x])) out' ∧ (∀ (k : Nat) (cs : List SV), H[k]? = some (.box cs) → H'[k]? = some (.box cs)) := by
  obtain ⟨out', H', a, b, -, c⟩ := Acc.app (Y := Y) (t := 44) (e := 3) (y := ty3) (x := [.int .i64 x]) rfl rfl (by decide) (by decide) (by decide) (by rw [rowI_len]; simp [maxRow]; omega) h
  exact ⟨out', H', a, by simpa [rowI] using b, c⟩
theorem loop28a {F : List Fr} {P : SV × List Blk → Prop} {rs : List ResultVar} (c u g0 g1 g2 g3 g4 g5 : Int) : ∀ (r m : Nat) (H : List Blk) (es : List Int) (out : SV), m + r = 6 → es.length ≤ m → H[0]? = some (.box (M8 c u g0 g1 g2 g3 g4 g5)) → Pm.Acc 3 1 H (rowI es) out →
    (∀ H' out', H'[0]? = some (.box (M8 c u g0 g1 g2 g3 g4 g5)) → Pm.Acc 3 1 H' (rowI (es ++ ([g0, g1, g2, g3, g4, g5].drop m).takeWhile fun g => decide (0 < g))) out' → X Y T0 rs F (.exit 0) ⟨mk 52 .J [(1, .ptr 0 0), (3, out')], H'⟩ P) →
    X Y T0 rs F (.loop (loopN Tryd.f28 0)) ⟨mk 52 .J [(1, .ptr 0 0), (3, out), (4, .i (m : Nat))], H⟩ P := by
  intro r
  induction r with
  | zero =>
    intro m H es out h1 hl hb hA hx
    have e1 : m = 6 := by omega
    subst e1
    apply X_loop_of
    · simp only [loopN, Tryd.f28, loopsOf, List.nil_append, List.append_nil, List.cons_append, List.getD_cons_succ, List.getD_cons_zero]; rfl
    simp
    refine X_keep (hx H out hb (by simpa using hA)) ?_
    simp
  | succ r ih =>
    intro m H es out h1 hl hb hA hx
    have hm : m < 6 := by omega
    have hg := m8_at c u g0 g1 g2 g3 g4 g5 hm
    rw [g6_drop g0 g1 g2 g3 g4 g5 hm] at hx
    generalize gAt g0 g1 g2 g3 g4 g5 m = g at hg hx
    have q2 : ((m : Int) < 6) := by omega
    have q3 : IntKind.i64.wrap ((m : Int) + 1) = ((m + 1 : Nat) : Int) := by rw [show ((m : Int) + 1) = ((m + 1 : Nat) : Int) by omega]; exact wrap64 (by omega) (by omega)
    obtain ⟨out1, H1, a1, a2, a3⟩ := app3 g (by omega) hA
    apply X_loop_of
    · simp only [loopN, Tryd.f28, loopsOf, List.nil_append, List.append_nil, List.cons_append, List.getD_cons_succ, List.getD_cons_zero]; rfl
    simp [-aAppend, -Int.natCast_add, -Int.not_lt, -Int.not_le, q2, q3, hg, hb, a1, hA.live, a2.live]
    refine ⟨fun h => ?_, fun h => ?_⟩
    · refine X_keep (ih (m + 1) H1 (es ++ [g]) out1 (by omega) (by simp; omega) (a3 _ _ hb) a2 (fun H' out' hb' hA' => hx H' out' hb' ?_)) ?_
      · rw [List.takeWhile_cons_of_pos (by simpa using h), List.append_cons]; exact hA'
      · simp
    · refine X_keep (hx H out hb ?_) ?_
      · rw [List.takeWhile_cons_of_neg (by simpa using h)]; simpa using hA
      · simp
theorem loop28b {F : List Fr} {P : SV × List Blk → Prop} {rs : List ResultVar} (c u g0 g1 g2 g3 g4 g5 z : Int) (hz : z = 1 ∨ z = 3) (hc : 1 ≤ c ∧ c ≤ 64) : ∀ (r m : Nat) (H : List Blk) (es : List Int) (out : SV), ((m + r : Nat) : Int) * z = c → es.length = m → H[0]? = some (.box (M8 c u g0 g1 g2 g3 g4 g5)) → Pm.Acc 3 1 H (rowI es) out →
    g0 = 0 →
    (∀ H' out', Pm.Acc 3 1 H' (rowI (es ++ List.replicate r z)) out' → X Y T0 rs F (.exit 2) ⟨mk 52 .J [(3, out')], H'⟩ P) →
    X Y T0 rs F (.loop (loopN Tryd.f28 1)) ⟨mk 52 .J [(1, .ptr 0 0), (3, out), (5, .i z), (6, .i (m * z))], H⟩ P := by
  intro r
  induction r with
  | zero =>
    intro m H es out h1 hl hb hA h0 hx
    have e1 : (m : Int) * z = c := by simpa using h1
    have q2 : ¬ (m : Int) * z < c := by omega
    apply X_loop_of
    · simp only [loopN, Tryd.f28, loopsOf, List.nil_append, List.append_nil, List.cons_append, List.getD_cons_succ, List.getD_cons_zero]; rfl
    simp [-Int.not_lt, -Int.not_le, hb, q2]
    refine X_keep (hx H out (by simpa using hA)) ?_
    simp
  | succ r ih =>
    intro m H es out h1 hl hb hA h0 hx
    have hmul : ((m + (r + 1) : Nat) : Int) * z = m * z + (r + 1) * z := by rw [← Int.add_mul]; congr 1
    have hz1 : 0 ≤ (r : Int) * z := Int.mul_nonneg (by omega) (by omega)
    have hz2 : ((r : Int) + 1) * z = r * z + z := by rw [Int.add_mul, Int.one_mul]
    have hm0 : 0 ≤ (m : Int) * z := Int.mul_nonneg (by omega) (by omega)
    have q2 : (m : Int) * z < c := by omega
    have q4 : ((m : Int) + 1) * z = m * z + z := by rw [Int.add_mul, Int.one_mul]
    have q3 : IntKind.i64.wrap ((m : Int) * z + z) = ((m + 1 : Nat) : Int) * z := by
      rw [show (((m + 1 : Nat) : Int)) = (m : Int) + 1 by omega, q4]; exact wrap64 (by omega) (by omega)
    have hml : m ≤ 64 := by
      rcases hz with rfl | rfl <;> omega
    obtain ⟨out1, H1, a1, a2, a3⟩ := app3 z (by omega) hA
    apply X_loop_of
    · simp only [loopN, Tryd.f28, loopsOf, List.nil_append, List.append_nil, List.cons_append, List.getD_cons_succ, List.getD_cons_zero]; rfl
    subst h0
    simp [-aAppend, -Int.natCast_add, -Int.not_lt, -Int.not_le, q2, q3, hb, a1, hA.live, a2.live]
    refine X_keep (ih (m + 1) H1 (es ++ [z]) out1 (by rw [← h1]; congr 2; omega) (by simp; omega) (a3 _ _ hb) a2 rfl (fun H' out' hA' => hx H' out' ?_)) ?_
    · rw [List.replicate_succ, List.append_cons]; exact hA'
    · simp

theorem loop28c {F : List Fr} {P : SV × List Blk → Prop} {rs : List ResultVar} (c u g0 g1 g2 g3 g4 g5 z : Int) (hc : 1 ≤ c ∧ c ≤ 64) (H : List Blk) (out : SV) (hb : H[0]? = some (.box (M8 c u g0 g1 g2 g3 g4 g5))) (hl : live out = some out) (h0 : g0 ≠ 0)
    (hx : X Y T0 rs F (.exit 2) ⟨mk 52 .J [(3, out)], H⟩ P) :
    X Y T0 rs F (.loop (loopN Tryd.f28 1)) ⟨mk 52 .J [(1, .ptr 0 0), (3, out), (5, .i z), (6, .i 0)], H⟩ P := by
  have q2 : (0 : Int) < c := by omega
  apply X_loop_of
  · simp only [loopN, Tryd.f28, loopsOf, List.nil_append, List.append_nil, List.cons_append, List.getD_cons_succ, List.getD_cons_zero]; rfl
  simp [-Int.not_lt, -Int.not_le, hb, q2, h0, hl]
  refine X_keep hx ?_
  simp

/-- A valid time signature has no groups, or a first one. -/
theorem grp_first {c g0 g1 g2 g3 g4 g5 : Int} (h : grpB c [g0, g1, g2, g3, g4, g5] = true) : ([g0, g1, g2, g3, g4, g5] = [0, 0, 0, 0, 0, 0]) ∨ 0 < g0 := by
  by_cases hz : [g0, g1, g2, g3, g4, g5] = [0, 0, 0, 0, 0, 0]
  · exact .inl hz
  · right
    unfold grpB at h
    rw [decide_eq_false hz, Bool.false_or] at h
    cases hf : gfold [g0, g1, g2, g3, g4, g5] 0 0 0 with
    | none => rw [hf] at h; cases h
    | some st =>
      obtain ⟨s, n⟩ := st
      rw [hf] at h
      have h1 := gfold_le _ _ _ _ _ _ hf
      by_cases hg : 0 < g0
      · exact hg
      · exfalso
        -- without a first group there is none
        have none_ : ∀ (l : List Int) (i s n s' n' : Int), n < i → gfold l i s n = some (s', n') → n' = n := by
          intro l
          induction l with
          | nil => intro i s n s' n' _ h; simp [gfold] at h; omega
          | cons g r ih =>
            intro i s n s' n' hi h
            rw [gfold] at h
            split at h
            · cases h
            · split at h
              · omega
              · exact ih _ _ _ _ _ (by omega) h
        rw [gfold] at hf
        split at hf
        · cases hf
        · have := none_ _ _ _ _ _ _ (by omega) hf
          subst this
          simp at h
theorem size_div {c u : Int} (hc : 1 ≤ c ∧ c ≤ 64) : ((c / sizeZ c u).toNat : Int) * sizeZ c u = c ∧ (sizeZ c u = 1 ∨ sizeZ c u = 3) := by
  unfold sizeZ
  split
  · rename_i h
    exact ⟨by omega, .inr rfl⟩
  · exact ⟨by omega, .inl rfl⟩
theorem x28 (c u g0 g1 g2 g3 g4 g5 : Int) (h : okM c u [g0, g1, g2, g3, g4, g5]) : XFn Y T0 Tryd.f28 [.agg (M8 c u g0 g1 g2 g3 g4 g5)] [] (Is (.fresh 3 1 (rowI (grpL c u [g0, g1, g2, g3, g4, g5])))) := by
  unfold XFn Tryd.f28
  rw [enter_1 _ (by decide)]
  obtain ⟨hc, hu, hg⟩ := h
  have fin : ∀ (F : List Fr) (l : List Int) (H' : List Blk) (out' : SV), l ≠ [] → l = grpL c u [g0, g1, g2, g3, g4, g5] → Pm.Acc 3 1 H' (rowI l) out' → outR H' out' = some (.fresh 3 1 (rowI (grpL c u [g0, g1, g2, g3, g4, g5]))) := by
    intro F l H' out' h1 h2 hA
    rw [hA.outR, if_neg (by simpa [rowI] using h1), h2]
  simp [-outR]
  refine X_keep (loop28a c u g0 g1 g2 g3 g4 g5 6 0 _ [] _ (by omega) (by simp) rfl Acc.nil ?_) ?_
  · intro H' out' hb hA
    simp only [List.nil_append, List.drop_zero] at hA
    rcases grp_first hg with hz | hp
    · simp only [List.cons.injEq, and_true] at hz
      obtain ⟨rfl, rfl, rfl, rfl, rfl, rfl⟩ := hz
      simp only [List.takeWhile] at hA
      obtain ⟨d1, d2⟩ := size_div (c := c) (u := u) hc
      have c3 : c.tmod 3 = c % 3 := by rw [Int.tmod_eq_emod_of_nonneg (by omega)]
      have last : ∀ H' out', Pm.Acc 3 1 H' (rowI ([] ++ List.replicate (c / sizeZ c u).toNat (sizeZ c u))) out' → outR H' out' = some (.fresh 3 1 (rowI (grpL c u [0, 0, 0, 0, 0, 0]))) := by
        intro H' out' hA'
        refine fin [] (List.replicate (c / sizeZ c u).toNat (sizeZ c u)) H' out' ?_ (by simp [grpL]) (by simpa using hA')
        intro e
        have := congrArg List.length e
        simp at this
        rcases d2 with d2 | d2 <;> rw [d2] at d1 this <;> omega
      simp [-outR, -Int.not_lt, -Int.not_le, hb, hA.live, c3]
      refine ⟨fun h8 => ⟨fun h3 => ?_, fun h3 => ?_⟩, fun h8 => ?_⟩
      · have e : sizeZ c u = 3 := if_pos ⟨h8, h3⟩
        rw [e] at d1 last
        refine X_keep (loop28b c u 0 0 0 0 0 0 3 (.inr rfl) hc (c / 3).toNat 0 H' [] out' (by simpa using d1) rfl hb hA rfl ?_) ?_
        · intro H2 out2 hA2
          simp [-outR, hA2.live]
          exact last _ _ hA2
        · simp
      · have e : sizeZ c u = 1 := if_neg (by omega)
        rw [e] at d1 last
        refine X_keep (loop28b c u 0 0 0 0 0 0 1 (.inl rfl) hc (c / 1).toNat 0 H' [] out' (by simpa using d1) rfl hb hA rfl ?_) ?_
        · intro H2 out2 hA2
          simp [-outR, hA2.live]
          exact last _ _ hA2
        · simp
      · have e : sizeZ c u = 1 := if_neg (by omega)
        rw [e] at d1 last
        refine X_keep (loop28b c u 0 0 0 0 0 0 1 (.inl rfl) hc (c / 1).toNat 0 H' [] out' (by simpa using d1) rfl hb hA rfl ?_) ?_
        · intro H2 out2 hA2
          simp [-outR, hA2.live]
          exact last _ _ hA2
        · simp
    · have hne : g0 ≠ 0 := by omega
      have c0 : (0 : Int) < c := by omega
      have last := fin [] _ H' out' (by rw [List.takeWhile_cons_of_pos (by simpa using hp)]; simp) (by simp [grpL, hne]) hA
      have done_ : ∀ z : Int, ∀ F : List Fr, X Y T0 [.tmp 2] F (.exit 2) ⟨mk 52 .J [(3, out')], H'⟩ (Is (.fresh 3 1 (rowI (grpL c u [g0, g1, g2, g3, g4, g5])))) → X Y T0 [.tmp 2] F (.loop (loopN Tryd.f28 1)) ⟨mk 52 .J [(1, .ptr 0 0), (3, out'), (5, .i z), (6, .i 0)], H'⟩ (Is (.fresh 3 1 (rowI (grpL c u [g0, g1, g2, g3, g4, g5])))) :=
        fun z F hF => loop28c c u g0 g1 g2 g3 g4 g5 z hc H' out' hb hA.live hne hF
      simp [-outR, -Int.not_lt, -Int.not_le, hb, hA.live]
      refine ⟨fun h8 => ⟨fun h3 => ?_, fun h3 => ?_⟩, fun h8 => ?_⟩
      · refine X_keep (done_ 3 _ ?_) ?_
        · simp [-outR, hA.live]
          exact last
        · simp
      · refine X_keep (done_ 1 _ ?_) ?_
        · simp [-outR, hA.live]
          exact last
        · simp
      · refine X_keep (done_ 1 _ ?_) ?_
        · simp [-outR, hA.live]
          exact last
        · simp
  · simp
end Go.Proofs.YtooajpojikkkdaaDoor
