/- The law of Sum, by the machine. -/
import Derived.Test.YtngapiffgoignaaDoorLawE
set_option linter.unusedSimpArgs false
set_option linter.unusedVariables false
set_option maxRecDepth 1000000
set_option maxHeartbeats 1000000
namespace Go.Proofs.YtngapiffgoignaaDoor
open Go Go.Pm Go.RowKit
/-- A list of note values under way: handed in, or appended to. -/
def Cur (cv : SV) (M : List (Int × Int)) : Prop := (∃ p, cv = .pv p ∧ lstP p = some M) ∨ ∃ k v, cv = .own k v 2 (rowsV M)
theorem Cur.live {cv : SV} {M : List (Int × Int)} (h : Cur cv M) : live cv = some cv := by
  rcases h with ⟨p, rfl, _⟩ | ⟨k, v, rfl⟩ <;> rfl
theorem Cur.len {cv : SV} {M : List (Int × Int)} (h : Cur cv M) : aLen Y 24 cv = some M.length := by
  rcases h with ⟨p, rfl, hp⟩ | ⟨k, v, rfl⟩
  · exact lst_len hp
  · simp [aLen, sliceElems, rowsV_len]
theorem Cur.at {cv : SV} {M : List (Int × Int)} (h : Cur cv M) {i : Nat} {x : Int × Int} (hi : M[i]? = some x) : aIndexAddr Y 24 cv (i : Nat) = some (.cptr [.int .i64 x.1, .int .i64 x.2]) := by
  rcases h with ⟨p, rfl, hp⟩ | ⟨k, v, rfl⟩
  · exact lst_at hp hi
  · have : (rowsV M)[i]? = some (cV x) := by simp [rowsV, hi]
    simp [aIndexAddr, aElem, this, -getElem?_pos]; rfl
theorem Cur.pur {cv : SV} {M : List (Int × Int)} (h : Cur cv M) : ∃ q, pur cv = some (.pv q) ∧ lstP q = some M := by
  rcases h with ⟨p, rfl, hp⟩ | ⟨k, v, rfl⟩
  · exact ⟨p, rfl, hp⟩
  · exact ⟨_, rfl, lst_rows M⟩
noncomputable def T10 : FuncId → Option Pm.Spec := tab [(14, .pure false F14), (28, .pure false F28), (18, .pure false F18), (17, .pure false F38)]
theorem T10_eq (g : Nat) : T10 g = tab [(14, .pure false F14), (28, .pure false F28), (18, .pure false F18), (17, .pure false F38)] g := rfl
theorem tok10 {W0 : World} (L : Laid W0) : TOk Tryd.prog W0 T10 := tok_cons (meets14 L) (tok_cons (meets28 W0) (tok_cons (meets18 W0) (tok_cons (meets17 W0) tok_nil)))
theorem loop10a {F : List Fr} {P : SV × List Blk → Prop} {rs : List ResultVar} {more : Int} {a b : Nat} (hm : 0 ≤ more ∧ more ≤ 255) (ha : Int.tdiv more 8 = (a : Int)) (hb : Int.tmod (a : Int) 3 = (b : Int)) (ha3 : a ≤ 31) (hb2 : b ≤ 2) (x0 : Int × Int) : ∀ (r : Nat) (M : List (Int × Int)) (cv : SV) (H : List Blk), M.length + r = 1023 + b → M[0]? = some x0 → Cur cv M →
    (∀ H' cv', Cur cv' (M ++ List.replicate r x0) → X Y T10 rs F (.exit 0) ⟨mk 91 .J [(0, cv')], H'⟩ P) →
    X Y T10 rs F (.loop (loopN Tryd.f10 0)) ⟨mk 91 .J [(0, cv), (1, .int .u8 more)], H⟩ P := by
  have w0 : IntKind.i64.wrap more = more := wrap64 (by omega) (by omega)
  have wa : IntKind.i64.wrap (a : Int) = (a : Nat) := wrap64 (by omega) (by omega)
  have wb : IntKind.i64.wrap (b : Int) = (b : Nat) := wrap64 (by omega) (by omega)
  have w1 : IntKind.i64.wrap (1024 + (b : Int)) = 1024 + (b : Int) := wrap64 (by omega) (by omega)
  have w2 : IntKind.i64.wrap (1024 + (b : Int) - 1) = 1024 + (b : Int) - 1 := wrap64 (by omega) (by omega)
  intro r
  induction r with
  | zero =>
    intro M cv H e h0 hc hx
    have hx := hx H cv (by simpa using hc)
    have c1 : ¬ ((M.length : Nat) : Int) < 1024 + (b : Int) - 1 := by omega
    have hlv := hc.live
    have hln := hc.len
    apply X_loop_of
    · simp only [loopN, Tryd.f10, loopsOf, List.nil_append, List.append_nil, List.cons_append, List.getD_cons_succ, List.getD_cons_zero]; rfl
    simp [-Int.not_lt, -Int.not_le, -aLen, hlv, hln, w0, ha, wa, hb, wb, w1, w2, c1]
    refine X_keep hx ?_
    simp
  | succ r ih =>
    intro M cv H e h0 hc hx
    have c1 : ((M.length : Nat) : Int) < 1024 + (b : Int) - 1 := by omega
    have hlv := hc.live
    have hln := hc.len
    have hat : aIndexAddr Y 24 cv 0 = some (.cptr [.int .i64 x0.1, .int .i64 x0.2]) := hc.at h0
    have hrl : (rowsV M).length = M.length := rowsV_len M
    have hM : 0 < M.length := (List.getElem?_eq_some_iff.1 h0).1
    have hsnoc : rowsV M ++ [[.int .i64 x0.1, .int .i64 x0.2]] = rowsV (M ++ [x0]) := by simp [rowsV]; rfl
    have hih := fun H' k v => ih (M ++ [x0]) (.own k v 2 (rowsV (M ++ [x0]))) H' (by simp; omega) (by rw [List.getElem?_append_left hM]; exact h0) (.inr ⟨k, v, rfl⟩) (fun H'' cv' h' => hx H'' cv' (by simpa [List.replicate_succ] using h'))
    apply X_loop_of
    · simp only [loopN, Tryd.f10, loopsOf, List.nil_append, List.append_nil, List.cons_append, List.getD_cons_succ, List.getD_cons_zero]; rfl
    rcases hc with ⟨p, rfl, hp⟩ | ⟨k, v, rfl⟩
    · rcases lstP_or hp with ⟨rfl, _⟩ | rfl
      · simp at hM
      · generalize rowsV M = rows at *
        simp [-Int.not_lt, -Int.not_le, -aLen, -aIndexAddr, hlv, hln, hat, w0, ha, wa, hb, wb, w1, w2, c1, hrl, hM]
        refine ⟨fun _ _ => ?_, by omega, by omega⟩
        rw [hsnoc]
        refine X_keep (hih _ H.length 0) ?_
        simp
    · generalize rowsV M = rows at *
      simp [-Int.not_lt, -Int.not_le, -aLen, -aIndexAddr, hlv, hln, hat, w0, ha, wa, hb, wb, w1, w2, c1, hrl, hM]
      refine ⟨fun _ _ => ?_, by omega, by omega⟩
      rw [hsnoc]
      refine X_keep (hih _ H.length 0) ?_
      simp
theorem loop10b {F : List Fr} {P : SV × List Blk → Prop} {H : List Blk} {cv : SV} {M : List (Int × Int)} (hc : Cur cv M) (hl : M.length ≤ 1024) (n e : Int) : ∀ (r i : Nat) (s : Int), i + r = M.length → (0 ≤ s ∧ s ≤ i * 7257600) → sumZ (M.drop i) s = (n, e) →
    (∀ H, P (.bool true, H)) →
    X Y T10 [.tmp 4] F (.exit 2) ⟨mk 91 .J [(5, .i n), (6, .i 0), (7, .i n)], H⟩ P →
    X Y T10 [.tmp 4] F (.loop (loopN Tryd.f10 1)) ⟨mk 91 .J [(0, cv), (5, .i n), (6, .i e), (7, .i s), (8, .i (i : Nat))], H⟩ P := by
  have hlv := hc.live
  have hln := hc.len
  intro r
  induction r with
  | zero =>
    intro i s er hs hz hp0 hx
    have e1 : i = M.length := by omega
    subst e1
    rw [List.drop_of_length_le (Nat.le_refl _)] at hz
    have hz : s = n ∧ 0 = e := by simpa [sumZ] using hz
    obtain ⟨rfl, rfl⟩ := hz
    apply X_loop_of
    · simp only [loopN, Tryd.f10, loopsOf, List.nil_append, List.append_nil, List.cons_append, List.getD_cons_succ, List.getD_cons_zero]; rfl
    simp [-aLen, hlv, hln]
    refine X_keep hx ?_
    simp
  | succ r ih =>
    intro i s er hs hz hp0 hx
    have hi : i < M.length := by omega
    obtain ⟨x, hxi⟩ : ∃ x, M[i]? = some x := ⟨_, List.getElem?_eq_getElem hi⟩
    have hd : M.drop i = x :: M.drop (i + 1) := by
      rw [List.drop_eq_getElem_cons hi]; congr 1
      have := List.getElem?_eq_getElem hi; rw [this] at hxi; exact Option.some.inj hxi
    have q3 := next_i (m := i) (by omega)
    have hat := hc.at hxi
    rw [hd] at hz
    have c4 : ((i : Nat) : Int) < (M.length : Nat) := by omega
    obtain ⟨xl, xd⟩ := x
    apply X_loop_of
    · simp only [loopN, Tryd.f10, loopsOf, List.nil_append, List.append_nil, List.cons_append, List.getD_cons_succ, List.getD_cons_zero]; rfl
    by_cases hok : okV xl xd
    · have hb := tk_bound hok
      have f1 := F38_ok hok
      have w1 : IntKind.i64.wrap (s + tkZ (xl, xd)) = s + tkZ (xl, xd) := wrap64 (by omega) (by omega)
      rw [sumZ, if_pos hok] at hz
      simp [-Int.natCast_add, -Int.not_lt, -Int.not_le, -aIndexAddr, -aLen, -getElem?_pos, List.getElem?_cons_zero, List.getElem?_cons_succ, T10_eq, F18, hlv, hln, q3, hat, c4, hi, hok, f1, w1]
      refine X_keep (ih (i + 1) (s + tkZ (xl, xd)) (by omega) (by omega) hz hp0 hx) ?_
      simp
    · rw [sumZ, if_neg hok] at hz
      cases hz
      simp [-Int.natCast_add, -Int.not_lt, -Int.not_le, -aIndexAddr, -aLen, -getElem?_pos, List.getElem?_cons_zero, List.getElem?_cons_succ, T10_eq, F18, hlv, hln, q3, hat, c4, hi, hok]
      exact hp0 _
theorem x10 (p : PV) (l : List (Int × Int)) (hp : lstP p = some l) (more : Int) (hm : (Lit.int .u8 more).wf = true) : XFn Y T10 Tryd.f10 [.pv p, .int .u8 more] [] (Is (.bool true)) := by
  unfold XFn Tryd.f10
  rw [enter_2 _ (by decide)]
  have f14 : F14 [] = some (.bool true) := rfl
  have hm' : 0 ≤ more ∧ more ≤ 255 := by
    simp [Lit.wf, IntKind.min, IntKind.max, IntKind.bits, IntKind.signed] at hm
    omega
  have hln := lst_len hp
  by_cases h30 : 30 < l.length
  · have c1 : (30 : Int) < (l.length : Nat) := by omega
    simp [-Int.not_lt, -Int.not_le, -outR, -aLen, T10_eq, f14, hln, c1, h30]
    simp
  have c1 : ¬ (30 : Int) < (l.length : Nat) := by omega
  have t1 : Int.tmod more 8 = more % 8 := Int.tmod_eq_emod_of_nonneg (by omega)
  have w1 : IntKind.u8.wrap (more % 8) = more % 8 := by unfold IntKind.wrap; simp [IntKind.bits, IntKind.signed]; omega
  -- what comes behind the loop
  have fin : ∀ (cv : SV) (M : List (Int × Int)), Cur cv M → M.length ≤ 1025 → ∃ q n e, pur cv = some (.pv q) ∧ F28 [.pv q] = some (.tuple [.i n, .i e]) ∧ (1024 < M.length → n = 0 ∧ e = 5) ∧ (M.length ≤ 1024 → sumZ M 0 = (n, e)) := fun cv M hc hM => by
    obtain ⟨q, h1, h2⟩ := hc.pur
    have h3 := F28_ok h2 (by omega)
    by_cases h4 : M.length ≤ 1024
    · rw [if_pos h4] at h3
      exact ⟨q, _, _, h1, h3, fun h => by omega, fun _ => rfl⟩
    · rw [if_neg h4] at h3
      exact ⟨q, _, _, h1, h3, fun _ => ⟨rfl, rfl⟩, fun h => by omega⟩
  by_cases h8 : more % 8 = 1 ∧ 0 < l.length
  · obtain ⟨h8, h0⟩ := h8
    have c2 : (0 : Int) < (l.length : Nat) := by omega
    obtain ⟨x0, hx0⟩ : ∃ x, l[0]? = some x := ⟨_, List.getElem?_eq_getElem h0⟩
    obtain ⟨a, ha⟩ : ∃ a : Nat, Int.tdiv more 8 = (a : Int) := ⟨(more / 8).toNat, by rw [Int.tdiv_eq_ediv_of_nonneg hm'.1]; omega⟩
    have ha' : (a : Int) = more / 8 := by rw [← ha, Int.tdiv_eq_ediv_of_nonneg hm'.1]
    obtain ⟨b, hb⟩ : ∃ b : Nat, Int.tmod (a : Int) 3 = (b : Int) := ⟨a % 3, by rw [Int.tmod_eq_emod_of_nonneg (by omega)]; omega⟩
    have hb' : (b : Int) = (a : Int) % 3 := by rw [← hb, Int.tmod_eq_emod_of_nonneg (by omega)]
    have La := fun F P rs H => loop10a (F := F) (P := P) (rs := rs) hm' ha hb (by omega) (by omega) x0 (1023 + b - l.length) l (.pv p) H (by omega) hx0 (.inl ⟨p, rfl, hp⟩)
    simp [-Int.not_lt, -Int.not_le, -outR, -aLen, T10_eq, f14, hln, c1, h30, t1, w1, h8, c2, h0]
    refine X_keep (La _ _ _ _ fun H' cv' hc => ?_) ?_
    · have hML : (l ++ List.replicate (1023 + b - l.length) x0).length = 1023 + b := by simp; omega
      generalize l ++ List.replicate (1023 + b - l.length) x0 = M at *
      obtain ⟨q, n, e, g1, g2, g3, g4⟩ := fin _ _ hc (by omega)
      have hlv := hc.live
      have hlM := hc.len
      by_cases h1024 : 1024 < M.length
      · obtain ⟨rfl, rfl⟩ := g3 h1024
        have c5 : (1024 : Int) < (M.length : Nat) := by omega
        rcases hc with ⟨p', rfl, hp'⟩ | ⟨k, v, rfl⟩
        · have gq : q = p' := by cases g1; rfl
          subst gq
          simp [-Int.not_lt, -Int.not_le, -aLen, T10_eq, hlM, g2, c5, h1024]
        · have gq : q = .slice 2 (rowsV M) := by cases g1; rfl
          subst gq
          simp [-Int.not_lt, -Int.not_le, -aLen, T10_eq, hlM, g2, c5, h1024]
      · have g4 := g4 (by omega)
        have c5 : ¬ (1024 : Int) < (M.length : Nat) := by omega
        have L := fun F P H => loop10b (F := F) (P := P) (H := H) hc (by omega) n e M.length 0 0 (by omega) (by omega) (by rw [List.drop_zero]; exact g4)
        rcases hc with ⟨p', rfl, hp'⟩ | ⟨k, v, rfl⟩
        · have gq : q = p' := by cases g1; rfl
          subst gq
          simp [-Int.not_lt, -Int.not_le, -outR, -aLen, T10_eq, hlM, g2, c5, h1024]
          refine X_keep (L _ _ _ ?_ ?_) ?_
          · simp
          · simp
          · simp
        · have gq : q = .slice 2 (rowsV M) := by cases g1; rfl
          subst gq
          simp [-Int.not_lt, -Int.not_le, -outR, -aLen, T10_eq, hlM, g2, c5, h1024]
          refine X_keep (L _ _ _ ?_ ?_) ?_
          · simp
          · simp
          · simp
    · simp
  · have hc : Cur (.pv p) l := .inl ⟨p, rfl, hp⟩
    obtain ⟨q, n, e, g1, g2, g3, g4⟩ := fin _ _ hc (by omega)
    have g4 := g4 (by omega)
    have gq : q = p := by cases g1; rfl
    subst gq
    have c5 : ¬ (1024 : Int) < (l.length : Nat) := by omega
    have c6 : ¬ 1024 < l.length := by omega
    have L := fun F P H => loop10b (F := F) (P := P) (H := H) hc (by omega) n e l.length 0 0 (by omega) (by omega) (by rw [List.drop_zero]; exact g4)
    by_cases h9 : more % 8 = 1
    · have h0 : ¬ 0 < l.length := fun h => h8 ⟨h9, h⟩
      have c2 : ¬ (0 : Int) < (l.length : Nat) := by omega
      simp [-Int.not_lt, -Int.not_le, -outR, -aLen, T10_eq, f14, hln, c1, h30, t1, w1, h9, c2, h0, g2, c5, c6]
      refine X_keep (L _ _ _ ?_ ?_) ?_
      · simp
      · simp
      · simp
    · simp [-Int.not_lt, -Int.not_le, -outR, -aLen, T10_eq, f14, hln, c1, h30, t1, w1, h9, g2, c5, c6]
      refine X_keep (L _ _ _ ?_ ?_) ?_
      · simp
      · simp
      · simp
end Go.Proofs.YtngapiffgoignaaDoor
