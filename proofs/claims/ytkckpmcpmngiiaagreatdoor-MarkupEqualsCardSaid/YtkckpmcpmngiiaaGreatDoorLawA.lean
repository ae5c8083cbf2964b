/- The examples of the chapter; the laws on escapes and on valid elements. -/
import Derived.Test.YtkckpmcpmngiiaaGreatDoorR2
import Derived.Test.YtkckpmcpmngiiaaGreatDoorE2
set_option linter.unusedSimpArgs false
set_option linter.unusedVariables false
set_option maxRecDepth 1000000
set_option maxHeartbeats 1000000
namespace Go.Proofs.YtkckpmcpmngiiaaGreatDoor
open Go Go.Pm Go.RowKit
/-- Small trees. -/
def smB : Nat → Nd → Bool
  | 0, _ => false
  | m + 1, n => decide (n.name.length ≤ 1000 ∧ n.attrs.length ≤ 40 ∧ n.text.length ≤ 8000 ∧ n.kids.length ≤ 1000000) && n.attrs.all (fun x => decide (x.1.length ≤ 1000 ∧ x.2.length ≤ 8000)) && n.kids.all (smB m)
theorem sm_of : ∀ (m : Nat) (n : Nd), smB m n = true → smN m n
  | 0, n, h => by cases h
  | m + 1, n, h => by
    simp only [smB, Bool.and_eq_true, decide_eq_true_eq, List.all_eq_true] at h
    exact ⟨⟨h.1.1.1, h.1.1.2.1, h.1.2, h.1.1.2.2.1, h.1.1.2.2.2⟩, fun c hc => sm_of m c (h.2 c hc)⟩
theorem F12_ok {m : Nat} {n : Nd} {v : SV} (hv : argN v = some n) (h1 : n.count ≤ 1000000) (h2 : smN m n) (h3 : (prN m [] n).length ≤ 90000000) : F12 m [v] = some (prtE m n) := by
  simp only [F12, hv]; exact if_pos ⟨h1, h2, h3⟩
def docA : Bs := [60, 97, 32, 120, 61, 34, 49, 32, 38, 108, 116, 59, 32, 50, 34, 62, 60, 98, 47, 62, 60, 99, 62, 116, 60, 47, 99, 62, 60, 47, 97, 62]
def docB : Bs := [60, 97, 62, 60, 47, 98, 62]
def docC : Bs := [60, 97, 32, 120, 61, 34, 49, 32, 38, 108, 116, 59, 32, 50, 34, 62, 10, 32, 32, 60, 98, 47, 62, 10, 32, 32, 60, 99, 62, 116, 60, 47, 99, 62, 10, 60, 47, 97, 62, 10]
def ndA : Nd := .mk [97] [([120], [49, 32, 60, 32, 50])] [] [.mk [98] [] [] [], .mk [99] [] [116] []]
theorem prsA : parseR docA = some (ndA, ⟨32, 3, 0⟩) := by kernel_rfl
theorem prsB : parseR docB = some (.mk [97] [] [] [], ⟨5, 1, 13⟩) := by kernel_rfl
theorem prtA : prN 40 [] ndA = docC := by kernel_rfl
theorem chkA : chkE ndA = 0 := by kernel_rfl
theorem smA : smB 40 ndA = true := by kernel_rfl
noncomputable def T14 : FuncId → Option Pm.Spec := tab [(15, .pure false F15), (12, .pure false (F12 40))]
theorem T14_eq (g : Nat) : T14 g = tab [(15, .pure false F15), (12, .pure false (F12 40))] g := rfl
theorem x14 : XFn Y T14 Tryz.f14 [] [] (Is (.bool true)) := by
  unfold XFn Tryz.f14
  rw [enter_mk0]
  have f1 := F15_ok (by decide) prsA
  have f2 := F15_ok (by decide) prsB
  have f3 : F12 40 [encS ndA] = some (prtE 40 ndA) := F12_ok (encS_ok ndA) (by decide) (sm_of _ _ smA) (by rw [prtA]; decide)
  have e3 : prtE 40 ndA = .tuple [.str docC, .i 0] := by
    unfold prtE; rw [chkA, prtA, if_neg (by decide), if_neg (by decide)]
  have e1 : prsE docA ndA ⟨32, 3, 0⟩ = .tuple [encS ndA, .i 0, .i 0, .i 0] := rfl
  have e2 : prsE docB (.mk [97] [] [] []) ⟨5, 1, 13⟩ = .tuple [encS zeroNd, .i 1, .i 6, .i 13] := by
    unfold prsE
    rw [if_neg (by decide)]
    rfl
  rw [e1] at f1
  rw [e2] at f2
  rw [e3] at f3
  have a1 : encS ndA = .agg [.pv (.str [97]), .pv (.slice 2 [[.str [120], .str [49, 32, 60, 32, 50]]]), .pv (.str []), .pv (.slice 4 [[.str [98], .nilSlice, .str [], .nilSlice], [.str [99], .nilSlice, .str [116], .nilSlice]])] := rfl
  have a2 : encS zeroNd = .agg [.pv (.str []), .pv .nilSlice, .pv (.str []), .pv .nilSlice] := rfl
  rw [a1] at f1 f3
  rw [a2] at f2
  simp only [docA] at f1
  simp only [docB] at f2
  simp only [docC] at f3
  simp [T14_eq, f1, f2, f3]
def F14 : List SV → Option SV
  | [] => some (.bool true)
  | _ => none
theorem meets14 {W0 : World} (L : Laid W0) : OkAt W0 14 F14 := meets_fn env (tok_cons (meets15 L) (tok_cons (meets12 (m := 40) (meets18 W0) (by decide)) tok_nil)) mixed Tryz.func14 (by kernel_rfl) (by kernel_rfl) fun args r h => by
  unfold F14 at h
  split at h
  · cases h; exact x14
  · cases h
/-! ## Escapes -/
noncomputable def T4 : FuncId → Option Pm.Spec := tab [(14, .pure false F14), (18, .pure false F19), (19, .pure false F19), (20, .pure false F20), (21, .pure false F20)]
theorem T4_eq (g : Nat) : T4 g = tab [(14, .pure false F14), (18, .pure false F19), (19, .pure false F19), (20, .pure false F20), (21, .pure false F20)] g := rfl
theorem tok4 {W0 : World} (L : Laid W0) : TOk Tryz.prog W0 T4 := tok_cons (meets14 L) (tok_cons (meets18 W0) (tok_cons (meets19 W0) (tok_cons (meets20 W0) (tok_cons (meets21 W0) tok_nil))))
theorem x4 (s0 : Bs) : XFn Y T4 Tryz.f4 [.str s0] [] (Is (.bool true)) := by
  have aS := min_at s0 200
  have ts := take_min s0 200
  have es : ((min s0.length 200 : Nat) : Int).toNat = min s0.length 200 := by omega
  have es0 : (0 : Int) ≤ ((min s0.length 200 : Nat) : Int) := by omega
  have es1 : min s0.length 200 ≤ s0.length := by omega
  have hs : (s0.take 200).length ≤ 200 := by rw [List.length_take]; omega
  have aS : aMinMax false [.pv (.int .i64 (s0.length : Int)), .pv (.int .i64 200)] = some (.i ((min s0.length 200 : Nat) : Int)) := aS
  generalize ((min s0.length 200 : Nat) : Int) = Es at *
  generalize min s0.length 200 = ns at *
  generalize s0.take 200 = s at *
  have f1 : F14 [] = some (.bool true) := rfl
  have f2 : F19 [.str s] = some (.str (esc s)) := by simp only [F19]; rw [if_pos (by omega)]
  have f3 : F20 [.str s] = some (.bool (isName s)) := rfl
  unfold XFn Tryz.f4
  rw [enter_1 _ (by decide)]
  simp [-aMinMax, aS, es, es0, es1, ts, T4_eq, f1, f2, f3]
/-! ## Valid elements -/
mutual
theorem cut_count : ∀ (lv : Nat) (n : Nd), (cutN lv n).count ≤ 5 ^ lv
  | 0, n => by simp only [cutN, Nd.count, countL]; decide
  | 1, n => by
    rw [show cutN 1 n = .mk (n.name.take 40) ((n.attrs.take 34).map cutA) (n.text.take 100) [] from rfl]
    simp only [Nd.count, countL]; decide
  | lv + 2, n => by
    have h := cut_countL (lv + 1) (n.kids.take 4)
    have h2 : (n.kids.take 4).length ≤ 4 := by rw [List.length_take]; omega
    have h3 : (n.kids.take 4).length * 5 ^ (lv + 1) ≤ 4 * 5 ^ (lv + 1) := Nat.mul_le_mul_right _ h2
    have h4 : 0 < 5 ^ (lv + 1) := Nat.pow_pos (by decide)
    have h5 : 5 ^ (lv + 2) = 5 * 5 ^ (lv + 1) := by rw [Nat.pow_succ, Nat.mul_comm]
    rw [show cutN (lv + 2) n = .mk (n.name.take 40) ((n.attrs.take 34).map cutA) (n.text.take 100) ((n.kids.take 4).map (cutN (lv + 1))) from rfl]
    simp only [Nd.count]
    omega
theorem cut_countL : ∀ (lv : Nat) (l : List Nd), countL (l.map (cutN lv)) ≤ l.length * 5 ^ lv
  | lv, [] => by simp [countL]
  | lv, k :: r => by
    have h1 := cut_count lv k
    have h2 := cut_countL lv r
    simp only [List.map_cons, countL, List.length_cons, Nat.add_mul, Nat.one_mul]
    omega
end
theorem cut_ok : ∀ (lv : Nat) (n : Nd), (cutN lv n).ok = true
  | 0, n => by
    rw [ok_eq]
    simp only [cutN, Nd.attrs, Nd.kids, okL, List.length_map, List.length_take, Bool.and_true, decide_eq_true_eq]
    omega
  | lv + 1, n => by
    rw [ok_eq]
    simp only [cutN, Nd.attrs, Nd.kids, List.length_map, List.length_take, Bool.and_eq_true, decide_eq_true_eq]
    refine ⟨by omega, ?_⟩
    split
    · rfl
    · have : ∀ l : List Nd, okL (l.map (cutN lv)) = true := by
        intro l
        induction l with
        | nil => rfl
        | cons a r ih => simp only [List.map_cons, okL, cut_ok lv a, ih, Bool.and_self]
      exact this _
noncomputable def T5 : FuncId → Option Pm.Spec := tab [(14, .pure false F14), (11, .pure false (F11n 5)), (13, .pure false TO), (22, .pure false F22), (23, .pure false F22), (24, .pure false F24), (25, .pure false F24), (26, .pure false F26), (27, .pure false F26)]
theorem T5_eq (g : Nat) : T5 g = tab [(14, .pure false F14), (11, .pure false (F11n 5)), (13, .pure false TO), (22, .pure false F22), (23, .pure false F22), (24, .pure false F24), (25, .pure false F24), (26, .pure false F26), (27, .pure false F26)] g := rfl
theorem tok5 {W0 : World} (L : Laid W0) : TOk Tryz.prog W0 T5 := tok_cons (meets14 L) (tok_cons (meets11 W0 4 (by decide)) (tok_cons (meets13 W0) (tok_cons (meets22 W0) (tok_cons (meets23 W0) (tok_cons (meets24 W0) (tok_cons (meets25 W0) (tok_cons (meets26 W0) (tok_cons (meets27 W0) tok_nil))))))))
theorem encS_agg (n : Nd) : encS n = .agg [.pv (.str n.name), .pv (slN 2 (n.attrs.map atRow)), .pv (.str n.text), .pv (slN 4 (encL n.kids))] := rfl
theorem x5 {a k : PV} {n0 : Nd} (ha : atP a = some n0.attrs) (hk : kidP k = some n0.kids) : XFn Y T5 Tryz.f5 [nodeS n0.name a n0.text k] [] (Is (.bool true)) := by
  unfold XFn Tryz.f5
  have hv : argN (nodeS n0.name a n0.text k) = some n0 := by have := argN_mk (nm := n0.name) (tx := n0.text) ha hk; cases n0; exact this
  rw [nodeS] at hv ⊢
  rw [enter_1 _ (by decide)]
  have f0 : F11n 5 [.agg [.pv (.str n0.name), .pv a, .pv (.str n0.text), .pv k], .i 5] = some (encS (cutN 5 n0)) := F11n_ok (lv := 5) (by decide) hv
  have hc := cut_count 5 n0
  have hok := cut_ok 5 n0
  generalize cutN 5 n0 = n at *
  have hcc : n.count ≤ 1000000 := Nat.le_trans hc (by decide)
  have f1 : F14 [] = some (.bool true) := rfl
  have f2 : TO [encS n] = some (encS n) := TO_ok (encS_ok n) hcc hok
  have f3 : F22 [encS n] = some (.i (chkE n)) := F22_ok (encS_ok n) hcc
  have f4 : F24 [encS n] = some (.i (n.count : Nat)) := F24_ok (encS_ok n) hcc
  have f5 : F26 [encS n] = some (.i (n.depth : Nat)) := by simp only [F26, encS_ok]; exact if_pos hcc
  rw [encS_agg] at f0 f2 f3 f4 f5
  generalize n.name = nm at *
  generalize slN 2 (n.attrs.map atRow) = pa at *
  generalize n.text = tx at *
  generalize slN 4 (encL n.kids) = pk at *
  simp [T5_eq, f0, f1, f2, f3, f4, f5]
end Go.Proofs.YtkckpmcpmngiiaaGreatDoor
