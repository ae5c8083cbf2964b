/- Durations divided by the program, by the machine. -/
import Derived.Test.YtooajpojikkkdaaDoorMetreK
set_option linter.unusedSimpArgs false
set_option linter.unusedVariables false
set_option maxRecDepth 1000000
set_option maxHeartbeats 400000
namespace Go.Proofs.YtooajpojikkkdaaDoor
open Go Go.Pm Go.RowKit
theorem none_meets (W0 : World) (f : Nat) (F : List SV → Option SV) (hF : ∀ args, F args = none) : Meets Tryd.prog W0 f (specFn (.pure true F)) := by
  intro C args vs r H' h
  exfalso
  simp only [specFn] at h
  split at h
  · rw [hF] at h; cases h
  · cases h
theorem F36_zero (args : List SV) : F36 0 args = none := by
  unfold F36
  split
  · split
    · simp [splitZ]
    · rfl
  · rfl
theorem meets37 (W0 : World) : ∀ n, OkFr W0 37 (F36 n)
  | 0 => ⟨enterable_of Tryd.func37 (by kernel_rfl), none_meets W0 37 _ F36_zero⟩
  | n + 1 => meets_fn env (tok_cons (meets56 W0) (tok_cons (meets57 W0) (tok_cons (meets22 W0) (tok_cons (meets37 W0 n) tok_nil)))) mixed Tryd.func37 (by kernel_rfl) (by kernel_rfl) fun args r h => by
    unfold F36 at h
    split at h
    · split at h
      · rename_i hu
        rw [Option.map_eq_some_iff] at h
        obtain ⟨l, h1, rfl⟩ := h
        exact x37 n _ _ _ _ _ _ _ _ _ _ hu.1 hu.2 l h1
      · cases h
    · cases h
theorem x36 (n : Nat) (c u g0 g1 g2 g3 g4 g5 a b : Int) (h : okM c u [g0, g1, g2, g3, g4, g5]) (hd : dom2 a b) (l : List (Int × Int)) (hs : splitZ (levelZ c u [g0, g1, g2, g3, g4, g5]) (n + 1) a b = some l) :
    XFn Y (T36 n) Tryd.f36 [.agg (M8 c u g0 g1 g2 g3 g4 g5), .i a, .i b] [] (Is (listSV l)) := by
  unfold XFn Tryd.f36
  rw [enter_3 _ (by decide)]
  obtain ⟨lv, hL⟩ : ∃ lv, levelZ c u [g0, g1, g2, g3, g4, g5] = lv := ⟨_, rfl⟩
  rw [hL] at hs
  have hlv : ∀ t, 0 ≤ lv t ∧ lv t ≤ 15 := fun t => by rw [← hL]; exact level_range c u [g0, g1, g2, g3, g4, g5] t
  by_cases hab : a = b
  · rw [splitZ, if_pos hab] at hs
    cases hs
    simp [hab, listSV]
  · rw [splitZ, if_neg hab] at hs
    have hd' := hd
    obtain ⟨hdS, d5, d6⟩ := hd'
    have hdS' := hdS
    obtain ⟨d1, d2, d3, d4⟩ := hdS'
    have q1 : IntKind.i64.wrap (b - a) = b - a := wrap64 (by omega) (by omega)
    have hb0 : 0 ≤ b := by omega
    have shape := strZ_spec hlv hd hab
    have leaf : leafZ lv a b → ∀ H, outR H (.tight 2 [[.int .i64 (findZ (b - a)).1.1, .int .i64 (findZ (b - a)).1.2]]) = some (listSV l) := by
      intro hl H
      rw [if_pos hl] at hs
      cases hs
      simp [listSV, rowV]
    have last_ : strZ lv a b = (0, 99) → b - a = 7560 → leafZ lv a b := by
      intro h2 h1
      unfold leafZ
      rw [h1, find7560, h2]
      have := hlv a; have := hlv b
      exact ⟨rfl, by decide, by show lv a ≤ 99; omega, .inr (by show lv b ≤ 99; omega)⟩
    have rec_ : ¬ leafZ lv a b → ∃ l1 r1, F36 n [.agg (M8 c u g0 g1 g2 g3 g4 g5), .i a, .i (strZ lv a b).1] = some (listSV l1) ∧ F36 n [.agg (M8 c u g0 g1 g2 g3 g4 g5), .i (strZ lv a b).1, .i b] = some (listSV r1) ∧ l = l1 ++ r1 ∧
        l1 ≠ [] ∧ r1 ≠ [] ∧ l1.length + r1.length ≤ 100000 := by
      intro hl
      rw [if_neg hl] at hs
      rcases shape with ⟨h1, h2⟩ | ⟨⟨s1, s2, s3⟩, s4, s5, s6⟩
      · exact absurd (last_ h2 h1) hl
      · split at hs
        · rename_i l1 r1 e1 e2
          cases hs
          have k1 : dom2 a (strZ lv a b).1 := ⟨⟨by omega, by omega, by omega, by omega⟩, by omega, by omega⟩
          have k2 : dom2 (strZ lv a b).1 b := ⟨⟨by omega, by omega, by omega, by omega⟩, by omega, by omega⟩
          obtain ⟨p1, p2⟩ := splitZ_len hlv n _ _ _ k1 e1
          obtain ⟨p3, p4⟩ := splitZ_len hlv n _ _ _ k2 e2
          exact ⟨l1, r1, by simp [F36, lvl, h, k1, hL, e1], by simp [F36, lvl, h, k2, hL, e2], rfl, p1 (by omega), p3 (by omega), by omega⟩
        · cases hs
    unfold leafZ at leaf rec_ last_
    clear hs
    have hab' : (a == b) = false := by simpa using hab
    generalize hS : strZ lv a b = S at *
    generalize hF : findZ (b - a) = Fd at *
    rcases shape with ⟨h1, h2⟩ | ⟨⟨s1, s2, s3⟩, s4, s5, s6⟩
    · have lf := leaf (last_ h2 h1)
      have e0 : strP S = (0, 0, false) := by rw [h2]; rfl
      obtain ⟨c1, c2, c3⟩ := last_ h2 h1
      simp [-Int.not_lt, -Int.not_le, -outR, -aAppend, hab', q1, T36_eq, F54, F55, F22, h, hdS, d1, hb0, hL, hS, hF, e0, lf, c1, c2]
    · have e0 : strP S = (S.1, S.2, true) := by
        unfold strP
        have := hlv S.1
        rw [if_neg (by omega)]
      simp [-Int.not_lt, -Int.not_le, -outR, -aAppend, hab', q1, T36_eq, F54, F55, F22, h, hdS, d1, hb0, hL, hS, hF, e0]
      refine ⟨fun hq1 => ⟨fun hq2 => ⟨fun hq3 => ⟨fun hq4 => leaf ⟨hq1, hq2, hq3, .inl hq4⟩ _, fun hq4 => ⟨fun hq5 => leaf ⟨hq1, hq2, hq3, .inr hq5⟩ _, fun hq5 => ?_⟩⟩, fun hq3 => ?_⟩, fun hq2 => ?_⟩, fun hq1 => ?_⟩
      · obtain ⟨l1, r1, e1, e2, rfl, n1, n2, n3⟩ := rec_ (fun x => x.2.2.2.elim hq4 hq5)
        obtain ⟨k, v, H', ap, hk⟩ := app26 [.box (M8 c u g0 g1 g2 g3 g4 g5), .box [.i Fd.1.1, .i Fd.1.2]] l1 r1 n1 n2 n3
        have o1 : (plH [.box (M8 c u g0 g1 g2 g3 g4 g5), .box [.i Fd.1.1, .i Fd.1.2]] l1)[0]? = some (.box (M8 c u g0 g1 g2 g3 g4 g5)) := plH_old rfl
        have ho := out26 l1 r1 n1 n2 hk
        simp [-outR, -aAppend, -placeR, e1, e2, place_list, live_list, o1, ap, ho, T36_eq]
      · obtain ⟨l1, r1, e1, e2, rfl, n1, n2, n3⟩ := rec_ (fun x => hq3 x.2.2.1)
        obtain ⟨k, v, H', ap, hk⟩ := app26 [.box (M8 c u g0 g1 g2 g3 g4 g5), .box [.i Fd.1.1, .i Fd.1.2]] l1 r1 n1 n2 n3
        have o1 : (plH [.box (M8 c u g0 g1 g2 g3 g4 g5), .box [.i Fd.1.1, .i Fd.1.2]] l1)[0]? = some (.box (M8 c u g0 g1 g2 g3 g4 g5)) := plH_old rfl
        have ho := out26 l1 r1 n1 n2 hk
        simp [-outR, -aAppend, -placeR, e1, e2, place_list, live_list, o1, ap, ho, T36_eq]
      · obtain ⟨l1, r1, e1, e2, rfl, n1, n2, n3⟩ := rec_ (fun x => hq2 x.2.1)
        obtain ⟨k, v, H', ap, hk⟩ := app26 [.box (M8 c u g0 g1 g2 g3 g4 g5), .box [.i Fd.1.1, .i Fd.1.2]] l1 r1 n1 n2 n3
        have o1 : (plH [.box (M8 c u g0 g1 g2 g3 g4 g5), .box [.i Fd.1.1, .i Fd.1.2]] l1)[0]? = some (.box (M8 c u g0 g1 g2 g3 g4 g5)) := plH_old rfl
        have ho := out26 l1 r1 n1 n2 hk
        simp [-outR, -aAppend, -placeR, e1, e2, place_list, live_list, o1, ap, ho, T36_eq]
      · obtain ⟨l1, r1, e1, e2, rfl, n1, n2, n3⟩ := rec_ (fun x => hq1 x.1)
        obtain ⟨k, v, H', ap, hk⟩ := app26 [.box (M8 c u g0 g1 g2 g3 g4 g5), .box [.i Fd.1.1, .i Fd.1.2]] l1 r1 n1 n2 n3
        have o1 : (plH [.box (M8 c u g0 g1 g2 g3 g4 g5), .box [.i Fd.1.1, .i Fd.1.2]] l1)[0]? = some (.box (M8 c u g0 g1 g2 g3 g4 g5)) := plH_old rfl
        have ho := out26 l1 r1 n1 n2 hk
        simp [-outR, -aAppend, -placeR, e1, e2, place_list, live_list, o1, ap, ho, T36_eq]
theorem meets36 (W0 : World) : ∀ n, OkFr W0 36 (F36 n)
  | 0 => ⟨enterable_of Tryd.func36 (by kernel_rfl), none_meets W0 36 _ F36_zero⟩
  | n + 1 => meets_fn env (tok_cons (meets54 W0) (tok_cons (meets55 W0) (tok_cons (meets41 W0) (tok_cons (meets36 W0 n) tok_nil)))) mixed Tryd.func36 (by kernel_rfl) (by kernel_rfl) fun args r h => by
    unfold F36 at h
    split at h
    · split at h
      · rename_i hu
        rw [Option.map_eq_some_iff] at h
        obtain ⟨l, h1, rfl⟩ := h
        exact x36 n _ _ _ _ _ _ _ _ _ _ hu.1 hu.2 l h1
      · cases h
    · cases h
/-- So many rounds are enough. -/
theorem splitZ_ok {lv : Int → Int} (hlv : ∀ t, 0 ≤ lv t ∧ lv t ≤ 15) : ∀ (n : Nat) (a b : Int), dom2 a b → b - a < 7560 * n → ∃ l, splitZ lv n a b = some l
  | 0, a, b, hd, h => by have := hd.1.2.1; omega
  | n + 1, a, b, hd, h => by
    rw [splitZ]
    by_cases hab : a = b
    · rw [if_pos hab]; exact ⟨_, rfl⟩
    · rw [if_neg hab]
      by_cases hl : leafZ lv a b
      · rw [if_pos hl]; exact ⟨_, rfl⟩
      · rw [if_neg hl]
        obtain ⟨⟨d1, d2, d3, d4⟩, d5, d6⟩ := hd
        rcases strZ_spec hlv ⟨⟨d1, d2, d3, d4⟩, d5, d6⟩ hab with ⟨h1, h2⟩ | ⟨⟨s1, s2, s3⟩, s4, s5, s6⟩
        · exfalso
          apply hl
          unfold leafZ
          rw [h1, find7560, h2]
          have := hlv a; have := hlv b
          exact ⟨rfl, by decide, by show lv a ≤ 99; omega, .inr (by show lv b ≤ 99; omega)⟩
        · obtain ⟨l1, e1⟩ := splitZ_ok hlv n a (strZ lv a b).1 ⟨⟨by omega, by omega, by omega, by omega⟩, by omega, by omega⟩ (by omega)
          obtain ⟨r1, e2⟩ := splitZ_ok hlv n (strZ lv a b).1 b ⟨⟨by omega, by omega, by omega, by omega⟩, by omega, by omega⟩ (by omega)
          rw [e1, e2]; exact ⟨_, rfl⟩
/-- More rounds come to the same. -/
theorem splitZ_more {lv : Int → Int} : ∀ (n m : Nat) (a b : Int) (l : List (Int × Int)), splitZ lv n a b = some l → n ≤ m → splitZ lv m a b = some l
  | 0, m, a, b, l, h, _ => by simp [splitZ] at h
  | n + 1, 0, a, b, l, h, hm => by omega
  | n + 1, m + 1, a, b, l, h, hm => by
    rw [splitZ] at h ⊢
    by_cases hab : a = b
    · rw [if_pos hab] at h ⊢; exact h
    · rw [if_neg hab] at h ⊢
      by_cases hl : leafZ lv a b
      · rw [if_pos hl] at h ⊢; exact h
      · rw [if_neg hl] at h ⊢
        split at h
        · rename_i l1 r1 e1 e2
          rw [splitZ_more n m _ _ _ e1 (by omega), splitZ_more n m _ _ _ e2 (by omega)]
          exact h
        · cases h
/-- The note values of a duration. -/
def sp (lv : Int → Int) (a b : Int) : List (Int × Int) := (splitZ lv 2049 a b).getD []
theorem sp_eq {lv : Int → Int} (hlv : ∀ t, 0 ≤ lv t ∧ lv t ≤ 15) {a b : Int} (hd : dom2 a b) : splitZ lv 2049 a b = some (sp lv a b) := by
  obtain ⟨l, hl⟩ := splitZ_ok hlv 2049 a b hd (by have := hd.1.2.2.2; omega)
  unfold sp; rw [hl]; rfl
def Fsp : List SV → Option SV
  | [.agg [.pv (.int .i64 c), .pv (.int .i64 u), .pv (.int .i64 g0), .pv (.int .i64 g1), .pv (.int .i64 g2), .pv (.int .i64 g3), .pv (.int .i64 g4), .pv (.int .i64 g5)], .pv (.int .i64 a), .pv (.int .i64 b)] =>
    if okM c u [g0, g1, g2, g3, g4, g5] ∧ dom2 a b then some (listSV (sp (lvl c u g0 g1 g2 g3 g4 g5) a b)) else none
  | _ => none
theorem Fsp_36 (args : List SV) (r : SV) (h : Fsp args = some r) : F36 2049 args = some r := by
  unfold Fsp at h
  split at h
  · split at h
    · rename_i hc
      cases h
      simp only [F36]
      rw [if_pos hc, sp_eq (level_range _ _ _) hc.2]
      rfl
    · cases h
  · cases h
theorem meets_of {W0 : World} {f : Nat} {F G : List SV → Option SV} {fr : Bool} (h : ∀ args r, G args = some r → F args = some r) (hm : Enterable Tryd.prog f ∧ Meets Tryd.prog W0 f (specFn (.pure fr F))) :
    Enterable Tryd.prog f ∧ Meets Tryd.prog W0 f (specFn (.pure fr G)) := by
  refine ⟨hm.1, fun C args vs r H' hF I J hr => hm.2 C args vs r H' ?_ I J hr⟩
  simp only [specFn] at hF ⊢
  split at hF
  · rename_i as1 has
    split at hF
    · rename_i r1 hr1
      rw [h _ _ hr1]; exact hF
    · cases hF
  · cases hF
theorem meets36' (W0 : World) : OkFr W0 36 Fsp := meets_of Fsp_36 (meets36 W0 2049)
theorem meets37' (W0 : World) : OkFr W0 37 Fsp := meets_of Fsp_36 (meets37 W0 2049)
end Go.Proofs.YtooajpojikkkdaaDoor
