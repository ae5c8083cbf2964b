/- The law RoundTrip. -/
import Derived.Test.YtkckpmcpmngiiaaGreatDoorLawA
import Derived.Test.YtkckpmcpmngiiaaGreatDoorLawC
set_option linter.unusedSimpArgs false
set_option linter.unusedVariables false
set_option maxRecDepth 1000000
set_option maxHeartbeats 1000000
namespace Go.Proofs.YtkckpmcpmngiiaaGreatDoor
open Go Go.Pm Go.RowKit
/-! ## How long what is printed is -/
structure CutF (lv : Nat) (n : Nd) : Prop where
  nm : n.name.length ≤ 40
  an : n.attrs.length ≤ 34
  at' : ∀ x ∈ n.attrs, x.1.length ≤ 40 ∧ x.2.length ≤ 100
  tx : n.text.length ≤ 100
  kn : n.kids.length ≤ 4
  kid : ∀ c ∈ n.kids, ∃ l n0, lv = l + 1 ∧ c = cutN l n0
theorem cut_facts (lv : Nat) (n : Nd) : CutF lv (cutN lv n) := by
  have ha : ∀ x ∈ (n.attrs.take 34).map cutA, x.1.length ≤ 40 ∧ x.2.length ≤ 100 := by
    intro x hx
    obtain ⟨y, -, rfl⟩ := List.mem_map.1 hx
    simp only [cutA, List.length_take]; omega
  cases lv with
  | zero =>
    refine ⟨?_, ?_, ha, ?_, ?_, ?_⟩
    · simp only [cutN, Nd.name, List.length_take]; omega
    · simp only [cutN, Nd.attrs, List.length_map, List.length_take]; omega
    · simp only [cutN, Nd.text, List.length_take]; omega
    · simp [cutN, Nd.kids]
    · intro c hc; simp [cutN, Nd.kids] at hc
  | succ lv =>
    refine ⟨?_, ?_, ha, ?_, ?_, ?_⟩
    · simp only [cutN, Nd.name, List.length_take]; omega
    · simp only [cutN, Nd.attrs, List.length_map, List.length_take]; omega
    · simp only [cutN, Nd.text, List.length_take]; omega
    · simp only [cutN, Nd.kids]
      split
      · simp
      · simp only [List.length_map, List.length_take]; omega
    · intro c hc
      simp only [cutN, Nd.kids] at hc
      split at hc
      · simp at hc
      · obtain ⟨y, -, rfl⟩ := List.mem_map.1 hc
        exact ⟨lv, y, rfl, rfl⟩
theorem cut_sm : ∀ (lv m : Nat) (n : Nd), lv < m → smN m (cutN lv n)
  | lv, 0, n, h => by omega
  | lv, m + 1, n, h => by
    have f := cut_facts lv n
    refine ⟨⟨by have := f.nm; omega, by have := f.an; omega, fun x hx => by have := f.at' x hx; omega, by have := f.tx; omega, by have := f.kn; omega⟩, fun c hc => ?_⟩
    obtain ⟨l, n0, rfl, rfl⟩ := f.kid c hc
    exact cut_sm l m n0 (by omega)
theorem prAs_le : ∀ l : List (Bs × Bs), (∀ x ∈ l, x.1.length ≤ 40 ∧ x.2.length ≤ 100) → (prAs l).length ≤ l.length * 644
  | [], _ => by simp [prAs]
  | a :: l, h => by
    have h1 := prAs_le l (fun x hx => h x (List.mem_cons_of_mem _ hx))
    have h2 := h a (List.mem_cons_self ..)
    have h3 := esc_len a.2
    rw [prAs_cons, List.length_append, List.length_cons]
    have : (prA a).length ≤ 644 := by unfold prA; simp only [List.length_append, List.length_cons, List.length_nil]; omega
    omega
theorem prN_le (m : Nat) (ind : Bs) (n : Nd) (h1 : n.name.length ≤ 40) (h2 : n.attrs.length ≤ 34) (h3 : ∀ x ∈ n.attrs, x.1.length ≤ 40 ∧ x.2.length ≤ 100) (h4 : n.text.length ≤ 100) (h5 : ind.length ≤ 20) :
    (prN (m + 1) ind n).length ≤ 24000 + (n.kids.flatMap (prN m (ind ++ [32, 32]))).length := by
  have e1 := prAs_le _ h3
  have e2 := esc_len n.text
  rw [prN_body]
  unfold bodyP
  split
  · simp only [List.length_append, List.length_cons, List.length_nil]; omega
  · split
    · simp only [List.length_append, List.length_cons, List.length_nil]; omega
    · simp only [List.length_append, List.length_cons, List.length_nil]; omega
theorem cut_len : ∀ (lv m : Nat) (ind : Bs) (n : Nd), ind.length + 2 * lv ≤ 20 → (prN m ind (cutN lv n)).length ≤ (cutN lv n).count * 24000
  | lv, 0, ind, n, h => by simp [prN]
  | lv, m + 1, ind, n, h => by
    have f := cut_facts lv n
    have h1 := prN_le m ind (cutN lv n) f.nm f.an f.at' f.tx (by omega)
    rw [count_eq]
    have hk : ∀ ks : List Nd, (∀ c ∈ ks, ∃ l n0, lv = l + 1 ∧ c = cutN l n0) → (ks.flatMap (prN m (ind ++ [32, 32]))).length ≤ countL ks * 24000 := by
      intro ks
      induction ks with
      | nil => intro _; simp
      | cons c r ih =>
        intro hq
        have i1 := ih (fun x hx => hq x (List.mem_cons_of_mem _ hx))
        obtain ⟨l, n0, rfl, rfl⟩ := hq c (List.mem_cons_self ..)
        have i2 := cut_len l m (ind ++ [32, 32]) n0 (by simp only [List.length_append, List.length_cons, List.length_nil]; omega)
        rw [List.flatMap_cons, List.length_append]
        simp only [countL, Nat.add_mul]
        omega
    have := hk _ f.kid
    rw [Nat.add_mul]
    omega
theorem F12_cut (n0 : Nd) : F12 40 [encS (cutN 5 n0)] = some (prtE 40 (cutN 5 n0)) := by
  have h1 := cut_count 5 n0
  have h2 := cut_len 5 40 [] n0 (by decide)
  have e5 : (5 : Nat) ^ 5 = 3125 := by decide
  exact F12_ok (encS_ok _) (by omega) (cut_sm 5 40 n0 (by decide)) (by omega)
/-! ## RoundTrip -/
noncomputable def T3 : FuncId → Option Pm.Spec := tab [(14, .pure false F14), (11, .pure false (F11n 5)), (13, .pure false TO), (12, .pure false (F12 40)), (15, .pure false F15), (17, .pure false TO), (16, .pure false E16)]
theorem T3_eq (g : Nat) : T3 g = tab [(14, .pure false F14), (11, .pure false (F11n 5)), (13, .pure false TO), (12, .pure false (F12 40)), (15, .pure false F15), (17, .pure false TO), (16, .pure false E16)] g := rfl
theorem meets12L {W0 : World} : OkAt W0 12 (F12 40) := meets12 (m := 40) (meets18 W0) (by decide)
theorem tok3 {W0 : World} (L : Laid W0) : TOk Tryz.prog W0 T3 := tok_cons (meets14 L) (tok_cons (meets11 W0 4 (by decide)) (tok_cons (meets13 W0) (tok_cons meets12L (tok_cons (meets15 L) (tok_cons (meets17 W0) (tok_cons (meets16 W0) tok_nil))))))
theorem x3 {a k : PV} {n0 : Nd} (ha : atP a = some n0.attrs) (hk : kidP k = some n0.kids) : XFn Y T3 Tryz.f3 [nodeS n0.name a n0.text k] [] (Is (.bool true)) := by
  unfold XFn Tryz.f3
  have hv : argN (nodeS n0.name a n0.text k) = some n0 := by have := argN_mk (nm := n0.name) (tx := n0.text) ha hk; cases n0; exact this
  rw [nodeS] at hv ⊢
  rw [enter_1 _ (by decide)]
  have f0 : F11n 5 [.agg [.pv (.str n0.name), .pv a, .pv (.str n0.text), .pv k], .i 5] = some (encS (cutN 5 n0)) := F11n_ok (lv := 5) (by decide) hv
  have hc := cut_count 5 n0
  have hok := cut_ok 5 n0
  have f3 := F12_cut n0
  generalize cutN 5 n0 = n at *
  have hcc : n.count ≤ 1000000 := Nat.le_trans hc (by decide)
  have f1 : F14 [] = some (.bool true) := rfl
  have f2 : TO [encS n] = some (encS n) := TO_ok (encS_ok n) hcc hok
  have f4 : E16 [encS n, encS n] = some (.bool true) := by rw [E16_ok (encS_ok n) (encS_ok n) hcc hok, eqB_t rfl]
  unfold prtE at f3
  by_cases he : chkE n = 0
  · rw [if_neg (by omega)] at f3
    by_cases hl : 4194304 < (prN 40 [] n).length
    · rw [if_pos hl] at f3
      rw [encS_agg] at f0 f2 f3 f4
      generalize n.name = nm at *
      generalize slN 2 (n.attrs.map atRow) = pa at *
      generalize n.text = tx at *
      generalize slN 4 (encL n.kids) = pk at *
      simp [T3_eq, f0, f1, f2, f3, f4]
    · rw [if_neg hl] at f3
      obtain ⟨g, r1, r2⟩ := round_trip he
      generalize prN 40 [] n = s at *
      have f5 := F15_ok (by omega) r1
      unfold prsE at f5
      rw [if_pos r2] at f5
      rw [encS_agg] at f0 f2 f3 f4 f5
      generalize n.name = nm at *
      generalize slN 2 (n.attrs.map atRow) = pa at *
      generalize n.text = tx at *
      generalize slN 4 (encL n.kids) = pk at *
      simp [T3_eq, f0, f1, f2, f3, f4, f5]
  · rw [if_pos he] at f3
    rw [encS_agg] at f0 f2 f3 f4
    generalize chkE n = E at *
    generalize n.name = nm at *
    generalize slN 2 (n.attrs.map atRow) = pa at *
    generalize n.text = tx at *
    generalize slN 4 (encL n.kids) = pk at *
    simp [T3_eq, f0, f1, f2, f3, f4, he]
end Go.Proofs.YtkckpmcpmngiiaaGreatDoor
