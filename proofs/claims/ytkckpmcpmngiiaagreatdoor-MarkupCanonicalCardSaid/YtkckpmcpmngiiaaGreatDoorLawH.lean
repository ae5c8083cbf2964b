/- The law Canonical. -/
import Derived.Test.YtkckpmcpmngiiaaGreatDoorLawA
import Derived.Test.YtkckpmcpmngiiaaGreatDoorLawG
set_option linter.unusedSimpArgs false
set_option linter.unusedVariables false
set_option maxRecDepth 1000000
set_option maxHeartbeats 1000000
namespace Go.Proofs.YtkckpmcpmngiiaaGreatDoor
open Go Go.Pm Go.RowKit
theorem attrE_mem : ∀ (l pre : List (Bs × Bs)), attrE pre l = 0 → ∀ x ∈ l, isName x.1 = true ∧ dataE x.2 = 0
  | [], _, _, x, hx => by simp at hx
  | a :: l, pre, h, x, hx => by
    obtain ⟨e1, -, e3, e4⟩ := attrE_cons h
    rcases List.mem_cons.1 hx with rfl | hx
    · exact ⟨e1, e3⟩
    · exact attrE_mem l _ e4 x hx
theorem eachL_mem : ∀ l : List Nd, eachL l = 0 → ∀ c ∈ l, c.eachE = 0
  | [], _, c, hc => by simp at hc
  | a :: l, h, c, hc => by
    obtain ⟨e1, e2⟩ := eachL_cons h
    rcases List.mem_cons.1 hc with rfl | hc
    · exact e1
    · exact eachL_mem l e2 c hc
theorem sm_each : ∀ (m : Nat) (n : Nd), n.eachE = 0 → n.depth ≤ m → n.count ≤ 65536 → smN m n
  | 0, n, _, h, _ => by have := depth_eq n; omega
  | m + 1, n, hE, hd, hc => by
    obtain ⟨hO, hL⟩ := each_parts hE
    obtain ⟨o1, o2, o3, o4, o5⟩ := own_parts hO
    have hcnt := count_eq n
    have hdep := depth_eq n
    have hl := countL_ge n.kids
    obtain ⟨-, -, -, b1, -, -⟩ := name_parts o1
    have b5 := (dataE_zero o5).1
    refine ⟨⟨by omega, by omega, fun x hx => ?_, by omega, by omega⟩, fun c hc1 => ?_⟩
    · obtain ⟨e1, e2⟩ := attrE_mem _ _ o3 x hx
      obtain ⟨-, -, -, b2, -, -⟩ := name_parts e1
      have := (dataE_zero e2).1
      omega
    · have h1 := depth_kid hc1
      have h2 := count_kid hc1
      exact sm_each m c (eachL_mem _ hL c hc1) (by omega) (by omega)
theorem prAs_w : ∀ l : List (Bs × Bs), (prAs l).length ≤ 6 * wA l
  | [] => by simp [prAs, wA]
  | a :: l => by
    have h1 := prAs_w l
    have h3 := esc_len a.2
    rw [prAs_cons, List.length_append]
    simp only [wA]
    have : (prA a).length ≤ 4 + a.1.length + 6 * a.2.length := by unfold prA; simp only [List.length_append, List.length_cons, List.length_nil]; omega
    omega
theorem prN_w : ∀ (m : Nat) (ind : Bs) (n : Nd), ind.length + 2 * m ≤ 80 → (prN m ind n).length ≤ 200 * n.w
  | 0, ind, n, _ => by simp [prN]
  | m + 1, ind, n, h => by
    have e1 := prAs_w n.attrs
    have e2 := esc_len n.text
    have e3 := w_eq n
    have hk : ∀ ks : List Nd, (ks.flatMap (prN m (ind ++ [32, 32]))).length ≤ 200 * wL ks := by
      intro ks
      induction ks with
      | nil => simp
      | cons c r ih =>
        have := prN_w m (ind ++ [32, 32]) c (by simp only [List.length_append, List.length_cons, List.length_nil]; omega)
        rw [List.flatMap_cons, List.length_append]
        simp only [wL]
        omega
    have hk := hk n.kids
    rw [prN_body]
    unfold bodyP
    split
    · simp only [List.length_append, List.length_cons, List.length_nil]; omega
    · split
      · simp only [List.length_append, List.length_cons, List.length_nil]; omega
      · simp only [List.length_append, List.length_cons, List.length_nil]; omega
theorem each_ok : ∀ n : Nd, n.eachE = 0 → n.ok = true := by
  intro n
  induction hm : n.depth using Nat.strongRecOn generalizing n with
  | ind d ih =>
    intro hE
    obtain ⟨hO, hL⟩ := each_parts hE
    obtain ⟨o1, o2, -⟩ := own_parts hO
    have hdep := depth_eq n
    rw [ok_eq]
    have hk : ∀ ks : List Nd, (∀ c ∈ ks, c ∈ n.kids) → okL ks = true := by
      intro ks
      induction ks with
      | nil => intro _; rfl
      | cons c r ihr =>
        intro hq
        have hc := hq c (List.mem_cons_self ..)
        have h1 := depth_kid hc
        simp only [okL, Bool.and_eq_true]
        exact ⟨ih c.depth (by omega) c rfl (eachL_mem _ hL c hc), ihr (fun x hx => hq x (List.mem_cons_of_mem _ hx))⟩
    rw [hk _ (fun c hc => hc), Bool.and_true, decide_eq_true_eq]
    omega
noncomputable def T6 : FuncId → Option Pm.Spec := tab [(15, .pure false F15), (14, .pure false F14), (28, .pure false E16), (12, .pure false (F12 40)), (22, .pure false F22)]
theorem T6_eq (g : Nat) : T6 g = tab [(15, .pure false F15), (14, .pure false F14), (28, .pure false E16), (12, .pure false (F12 40)), (22, .pure false F22)] g := rfl
theorem tok6 {W0 : World} (L : Laid W0) : TOk Tryz.prog W0 T6 := tok_cons (meets15 L) (tok_cons (meets14 L) (tok_cons (meets28 W0) (tok_cons (meets12 (m := 40) (meets18 W0) (by decide)) (tok_cons (meets22 W0) tok_nil))))
theorem x6 (s0 : Bs) : XFn Y T6 Tryz.f6 [.str s0] [] (Is (.bool true)) := by
  have aS := min_at s0 600
  have ts := take_min s0 600
  have es : ((min s0.length 600 : Nat) : Int).toNat = min s0.length 600 := by omega
  have es0 : (0 : Int) ≤ ((min s0.length 600 : Nat) : Int) := by omega
  have es1 : min s0.length 600 ≤ s0.length := by omega
  have hs : (s0.take 600).length ≤ 600 := by rw [List.length_take]; omega
  have aS : aMinMax false [.pv (.int .i64 (s0.length : Int)), .pv (.int .i64 600)] = some (.i ((min s0.length 600 : Nat) : Int)) := aS
  generalize ((min s0.length 600 : Nat) : Int) = Es at *
  generalize min s0.length 600 = ns at *
  generalize s0.take 600 = s at *
  obtain ⟨n, g, hP⟩ := parse_some s
  have f1 : F14 [] = some (.bool true) := rfl
  have f2 := F15_ok (by omega) hP
  unfold XFn Tryz.f6
  rw [enter_1 _ (by decide)]
  unfold prsE at f2
  by_cases he : g.e = 0
  · rw [if_pos he] at f2
    obtain ⟨hc, hw⟩ := parse_good hP he
    obtain ⟨h1, h2, h3⟩ := chkE_zero hc
    have hlen := prN_w 40 [] n (by decide)
    have hcc : n.count ≤ 1000000 := by omega
    have hok := each_ok n h3
    have f3 : F12 40 [encS n] = some (prtE 40 n) := F12_ok (encS_ok n) hcc (sm_each 40 n h3 (by omega) h2) (by omega)
    unfold prtE at f3
    rw [if_neg (by omega), if_neg (by omega)] at f3
    obtain ⟨g2, r1, r2⟩ := round_trip hc
    generalize prN 40 [] n = t at *
    have f4 := F15_ok (by omega) r1
    unfold prsE at f4
    rw [if_pos r2] at f4
    have f5 : F22 [encS n] = some (.i (chkE n)) := F22_ok (encS_ok n) hcc
    rw [hc] at f5
    have f6 : E16 [encS n, encS n] = some (.bool true) := by rw [E16_ok (encS_ok n) (encS_ok n) hcc hok, eqB_t rfl]
    rw [encS_agg] at f2 f3 f4 f5 f6
    generalize n.name = nm at *
    generalize slN 2 (n.attrs.map atRow) = pa at *
    generalize n.text = tx at *
    generalize slN 4 (encL n.kids) = pk at *
    simp [-aMinMax, aS, es, es0, es1, ts, T6_eq, f1, f2, f3, f4, f5, f6]
  · rw [if_neg he] at f2
    have ez : encS zeroNd = .agg [.pv (.str []), .pv .nilSlice, .pv (.str []), .pv .nilSlice] := zeroS
    have f6 : E16 [encS zeroNd, encS zeroNd] = some (.bool true) := by rw [E16_ok (encS_ok _) (encS_ok _) (by simp only [zeroNd, Nd.count, countL]; decide) (by rw [ok_eq]; rfl), eqB_t rfl]
    rw [ez] at f2 f6
    generalize (1 + (Lib.countByte (s.take g.at') 10 : Nat) : Int) = A at *
    generalize ((g.at' : Nat) - Lib.lastIndexByte ⟨(s.take g.at').toArray⟩ 10 : Int) = B at *
    have he : ¬ ((g.e : Nat) : Int) = 0 := by omega
    generalize ((g.e : Nat) : Int) = E at *
    simp [-aMinMax, aS, es, es0, es1, ts, T6_eq, f1, f2, f6, he]
end Go.Proofs.YtkckpmcpmngiiaaGreatDoor
