/- The reference's small parts, by the machine. -/
import Derived.Test.YtkbfgmneibabgaaDoorLexN
set_option linter.unusedSimpArgs false
set_option linter.unusedVariables false
set_option maxRecDepth 1000000
set_option maxHeartbeats 1000000
namespace Go.Proofs.YtkbfgmneibabgaaDoor
open Go Go.Pm Go.RowKit
open LexP hiding place Sep Run
theorem x42 (n : Int) (h : 0 ≤ n ∧ n ≤ 255) : XFn Y T0 Tryd.f42 [u8 n] [] (Is (.bool (letZ n))) := by
  unfold XFn Tryd.f42
  rw [enter_1 _ (by decide)]
  simp [beqZ, bneZ]
  grind [letZ]
theorem meets42 (W0 : World) : OkAt W0 42 (bF letZ) := meets_fn env tok_nil mixed Tryd.func42 (by kernel_rfl) (by kernel_rfl) fun args r h => by
  refine of_bF h fun n hn e1 e2 => ?_
  subst e1; subst e2; exact x42 n hn
theorem x43 (n : Int) (h : 0 ≤ n ∧ n ≤ 255) : XFn Y T0 Tryd.f43 [u8 n] [] (Is (.bool (digZ n))) := by
  unfold XFn Tryd.f43
  rw [enter_1 _ (by decide)]
  simp [beqZ, bneZ]
  grind [digZ]
theorem meets43 (W0 : World) : OkAt W0 43 (bF digZ) := meets_fn env tok_nil mixed Tryd.func43 (by kernel_rfl) (by kernel_rfl) fun args r h => by
  refine of_bF h fun n hn e1 e2 => ?_
  subst e1; subst e2; exact x43 n hn
noncomputable def T79 : FuncId → Option Pm.Spec := tab [(43, .pure false (bF digZ))]
theorem T79_eq (g : Nat) : T79 g = tab [(43, .pure false (bF digZ))] g := rfl
theorem x79 (n : Int) (h : 0 ≤ n ∧ n ≤ 255) : XFn Y T79 Tryd.f79 [u8 n] [] (Is (.i (hexZ n))) := by
  have w1 : digZ n = true → IntKind.i64.wrap (IntKind.u8.wrap (n - 48)) = n - 48 := fun hd => by
    simp [digZ] at hd
    rw [wrap_u8 (by omega) (by omega), wrap64 (by omega) (by omega)]
  have w2 : 97 ≤ n ∧ n ≤ 102 → IntKind.i64.wrap (IntKind.i64.wrap (IntKind.u8.wrap (n - 97)) + 10) = n - 87 := fun hd => by
    rw [wrap_u8 (by omega) (by omega), wrap64 (n := n - 97) (by omega) (by omega), wrap64 (by omega) (by omega)]; omega
  unfold XFn Tryd.f79
  rw [enter_1 _ (by decide)]
  by_cases hd : digZ n = true
  · have hw := w1 hd
    simp [T79_eq, bF, h, hd, hexZ, Is_mk, outR, outP]
    first | exact hw | (rw [hw]) | simpa using hw
  · have hd' : digZ n = false := by simpa using hd
    by_cases h2 : 97 ≤ n ∧ n ≤ 102
    · have hw := w2 h2
      simp [T79_eq, bF, h, hd', hexZ, h2, Is_mk, outR, outP]
      first | exact hw | (rw [hw]) | simpa using hw
    · simp [T79_eq, bF, h, hd', hexZ, h2, Is_mk, outR, outP]
      omega
def F79 : List SV → Option SV
  | [.pv (.int .u8 n)] => if 0 ≤ n ∧ n ≤ 255 then some (.i (hexZ n)) else none
  | _ => none
theorem meets79 (W0 : World) : OkAt W0 79 F79 := meets_fn env (tok_cons (meets43 W0) tok_nil) mixed Tryd.func79 (by kernel_rfl) (by kernel_rfl) fun args r h => by
  unfold F79 at h
  split at h
  · split at h
    · rename_i hc; cases h; exact x79 _ hc
    · cases h
  · cases h
theorem F79_at (c : UInt8) : F79 [u8 (c.toNat : Int)] = some (.i (hexZ (z c))) := by have := z_range c; unfold z at this; simp [F79, this, z]
theorem loop45 {F : List Fr} {P : SV × List Blk → Prop} {H : List Blk} (n : Int) : ∀ (r pre : Bs), pre ++ r = signs →
    ((r.any fun b => decide (z b = n)) = true → P (.bool true, H)) → ((r.any fun b => decide (z b = n)) = false → X Y T0 [.tmp 2] F (.exit 0) ⟨mk 12 .J [], H⟩ P) →
    X Y T0 [.tmp 2] F (.loop (loopN Tryd.f45 0)) ⟨mk 12 .J [(0, u8 n), (3, .i pre.length)], H⟩ P
  | [], pre, hr, hp, hx => by
    have h29 : pre.length = 29 := by have := congrArg List.length hr; simpa [signs] using this
    apply X_loop_of
    · simp only [loopN, Tryd.f45, loopsOf, List.nil_append, List.append_nil, List.cons_append, List.getD_cons_succ, List.getD_cons_zero]; rfl
    simp [h29]
    refine X_keep (hx rfl) ?_
    simp
  | c :: r, pre, hr, hp, hx => by
    have hl : pre.length + (r.length + 1) = 29 := by have := congrArg List.length hr; simpa [signs] using this
    have h1 : (pre.length : Int) < 29 := by omega
    have hi : signs[pre.length]? = some c := by rw [← hr]; simp
    unfold signs at hi
    have w1 : IntKind.i64.wrap ((pre.length : Int) + 1) = ((pre ++ [c]).length : Int) := by rw [wrap64 (by omega) (by omega)]; simp
    apply X_loop_of
    · simp only [loopN, Tryd.f45, loopsOf, List.nil_append, List.append_nil, List.cons_append, List.getD_cons_succ, List.getD_cons_zero]; rfl
    by_cases hc : (c.toNat : Int) = n
    · have hp := hp (by simp [z, hc])
      simp [-getElem?_pos, List.getElem?_cons_zero, List.getElem?_cons_succ, h1, hi, hc, hp]
    · have ih := loop45 (F := F) (P := P) (H := H) n r (pre ++ [c]) (by rw [← hr]; simp) (fun h => hp (by simp [z, hc] at h ⊢; simpa using h)) (fun h => hx (by simp [z, hc] at h ⊢; simpa using h))
      generalize ((pre ++ [c]).length : Int) = E at *
      simp [-getElem?_pos, List.getElem?_cons_zero, List.getElem?_cons_succ, h1, hi, hc, w1]
      refine X_keep ih ?_
      simp
theorem x45 (n : Int) : XFn Y T0 Tryd.f45 [u8 n] [] (Is (.bool (sgnZ n))) := by
  unfold XFn Tryd.f45
  rw [enter_1 _ (by decide)]
  simp
  refine X_keep (loop45 n signs [] rfl (fun h => ?_) (fun h => ?_)) ?_
  · have : sgnZ n = true := h
    simp [this, Is_mk, outR, outP]
  · have : sgnZ n = false := h
    simp [this, Is_mk, outR, outP]
  · simp
theorem meets45 (W0 : World) : OkAt W0 45 (bF sgnZ) := meets_fn env tok_nil mixed Tryd.func45 (by kernel_rfl) (by kernel_rfl) fun args r h => by
  refine of_bF h fun n hn e1 e2 => ?_
  subst e1; subst e2; exact x45 n
/-- Blanks and comments. -/
theorem loop41b {F : List Fr} {P : SV × List Blk → Prop} {H : List Blk} {s : Bs} (hs : s.length ≤ 10000000) : ∀ (r pre : Bs), pre ++ r = s →
    X Y T0 [.tmp 4] F (.exit 2) ⟨mk 45 .J [(0, .str s), (1, .i (pre.length + (r.takeWhile fun c => lfZ (z c)).length : Nat))], H⟩ P →
    X Y T0 [.tmp 4] F (.loop (loopN Tryd.f41 1)) ⟨mk 45 .J [(0, .str s), (1, .i pre.length)], H⟩ P
  | [], pre, hr, hx => by
    have hr' : pre = s := by simpa using hr
    apply X_loop_of
    · simp only [loopN, Tryd.f41, loopsOf, List.nil_append, List.append_nil, List.cons_append, List.getD_cons_succ, List.getD_cons_zero]; rfl
    subst hr'
    simp at hx
    simp
    refine X_keep hx ?_
    simp
  | c :: r, pre, hr, hx => by
    have hsl : s.length = pre.length + (r.length + 1) := by rw [← hr, List.length_append, List.length_cons]
    have hi : s[pre.length]? = some c := by rw [← hr]; simp
    have h1 : (pre.length : Int) < (s.length : Int) := by omega
    have w1 : IntKind.i64.wrap ((pre.length : Int) + 1) = ((pre ++ [c]).length : Int) := by rw [wrap64 (by omega) (by omega)]; simp
    apply X_loop_of
    · simp only [loopN, Tryd.f41, loopsOf, List.nil_append, List.append_nil, List.cons_append, List.getD_cons_succ, List.getD_cons_zero]; rfl
    by_cases hc : (c.toNat : Int) = 10
    · have hcn : c.toNat = 10 := by omega
      have hlf : lfZ (z c) = false := by simp [lfZ, z, hcn]
      simp [hlf] at hx
      simp [h1, hi, hc, hcn]
      refine X_keep hx ?_
      simp
    · have hcn : ¬ c.toNat = 10 := by omega
      have hlf : lfZ (z c) = true := by simp only [lfZ, z]; exact decide_eq_true hc
      have e1 : pre.length + ((c :: r).takeWhile fun c => lfZ (z c)).length = (pre ++ [c]).length + (r.takeWhile fun c => lfZ (z c)).length := by simp [hlf]; omega
      rw [e1] at hx
      have ih := loop41b (F := F) (P := P) (H := H) hs r (pre ++ [c]) (by rw [← hr]; simp) hx
      generalize ((pre ++ [c]).length : Int) = E at *
      simp [h1, hi, hc, hcn, w1]
      refine X_keep ih ?_
      simp
theorem loop41 {F : List Fr} {P : SV × List Blk → Prop} {H : List Blk} {s : Bs} (hs : s.length ≤ 10000000) : ∀ (m : Nat) (rest pre : Bs), rest.length ≤ m → pre ++ rest = s →
    (P (.i (pre.length + skp false rest : Nat), H)) → X Y T0 [.tmp 4] F (.exit 0) ⟨mk 45 .J [(0, .str s), (1, .i (pre.length + skp false rest : Nat))], H⟩ P →
    X Y T0 [.tmp 4] F (.loop (loopN Tryd.f41 0)) ⟨mk 45 .J [(0, .str s), (1, .i pre.length)], H⟩ P
  | m, [], pre, hm, hr, hp, hx => by
    have hr' : pre = s := by simpa using hr
    apply X_loop_of
    · simp only [loopN, Tryd.f41, loopsOf, List.nil_append, List.append_nil, List.cons_append, List.getD_cons_succ, List.getD_cons_zero]; rfl
    subst hr'
    simp [skp] at hx
    simp
    refine X_keep hx ?_
    simp
  | 0, c :: r, pre, hm, hr, hp, hx => by simp at hm
  | m + 1, c :: r, pre, hm, hr, hp, hx => by
    have hsl : s.length = pre.length + (r.length + 1) := by rw [← hr, List.length_append, List.length_cons]
    have hi : s[pre.length]? = some c := by rw [← hr]; simp
    have h1 : (pre.length : Int) < (s.length : Int) := by omega
    have w1 : IntKind.i64.wrap ((pre.length : Int) + 1) = ((pre.length + 1 : Nat) : Int) := by rw [wrap64 (by omega) (by omega)]; omega
    have step : ∀ j, 1 ≤ j → j ≤ (c :: r).length → skp false (c :: r) = j + skp false ((c :: r).drop j) →
        X Y T0 [.tmp 4] F (.loop (loopN Tryd.f41 0)) ⟨mk 45 .J [(0, .str s), (1, .i (pre.length + j : Nat))], H⟩ P := fun j j1 j2 hj => by
      have e1 : (pre ++ (c :: r).take j) ++ (c :: r).drop j = s := by rw [List.append_assoc, List.take_append_drop]; exact hr
      have e2 : (pre ++ (c :: r).take j).length = pre.length + j := by rw [List.length_append, List.length_take, Nat.min_eq_left j2]
      have := loop41 (F := F) (P := P) (H := H) hs m ((c :: r).drop j) (pre ++ (c :: r).take j) (by simp at hm ⊢; omega) e1 (by rw [e2, Nat.add_assoc, ← hj]; exact hp) (by rw [e2, Nat.add_assoc, ← hj]; exact hx)
      rw [e2] at this
      exact this
    apply X_loop_of
    · simp only [loopN, Tryd.f41, loopsOf, List.nil_append, List.append_nil, List.cons_append, List.getD_cons_succ, List.getD_cons_zero]; rfl
    by_cases hc : (c.toNat : Int) = 37
    · have hcz : z c = 37 := hc
      have hcn : c.toNat = 37 := by omega
      have hlf : lfZ (z c) = true := by rw [hcz]; rfl
      have htw : ((c :: r).takeWhile fun c => lfZ (z c)).length = (r.takeWhile fun c => lfZ (z c)).length + 1 := by simp [hlf]
      have st := step ((r.takeWhile fun c => lfZ (z c)).length + 1) (by omega) (by
        have : (r.takeWhile fun c => lfZ (z c)).length ≤ r.length := (List.takeWhile_sublist _).length_le
        simp; omega) (by rw [skp, if_pos hcz, skp_run r, List.drop_succ_cons]; omega)
      simp [h1, hi, hc, hcn]
      refine X_keep (loop41b hs (c :: r) pre hr ?_) ?_
      · rw [htw]
        simp [-Int.natCast_add]
        refine X_keep st ?_
        simp [-Int.natCast_add]
      · simp
    · have hcz : ¬ z c = 37 := hc
      have hcn : ¬ c.toNat = 37 := by omega
      by_cases hbl : blkZ (z c) = true
      · have st := step 1 (by omega) (by simp) (by rw [skp, if_neg hcz, if_pos hbl, List.drop_succ_cons, List.drop_zero]; omega)
        have hb : (c.toNat : Int) = 32 ∨ (c.toNat : Int) = 9 ∨ (c.toNat : Int) = 10 ∨ (c.toNat : Int) = 13 := by simpa [blkZ, z] using hbl
        generalize ((pre.length + 1 : Nat) : Int) = E at *
        rcases hb with hb | hb | hb | hb
        · have hbn : c.toNat = 32 := by omega
          simp [h1, hi, hb, hbn, w1]
          refine X_keep st ?_
          simp
        · have hbn : c.toNat = 9 := by omega
          simp [h1, hi, hb, hbn, w1]
          refine X_keep st ?_
          simp
        · have hbn : c.toNat = 10 := by omega
          simp [h1, hi, hb, hbn, w1]
          refine X_keep st ?_
          simp
        · have hbn : c.toNat = 13 := by omega
          simp [h1, hi, hb, hbn, w1]
          refine X_keep st ?_
          simp
      · have hbf : blkZ (z c) = false := by simpa using hbl
        have hs0 : skp false (c :: r) = 0 := by rw [skp, if_neg hcz, if_neg hbl]
        rw [hs0, Nat.add_zero] at hp
        have hb : ¬ (c.toNat : Int) = 32 ∧ ¬ (c.toNat : Int) = 9 ∧ ¬ (c.toNat : Int) = 10 ∧ ¬ (c.toNat : Int) = 13 := by simpa [blkZ, z] using hbf
        have hbn : ¬ c.toNat = 32 ∧ ¬ c.toNat = 9 ∧ ¬ c.toNat = 10 ∧ ¬ c.toNat = 13 := by omega
        simp [h1, hi, hc, hcn, hb, hbn, hp]
def F41 : List SV → Option SV
  | [.pv (.str s), .pv (.int .i64 n)] => if 0 ≤ n ∧ n ≤ s.length ∧ s.length ≤ 10000000 then some (.i (n.toNat + skp false (s.drop n.toNat) : Nat)) else none
  | _ => none
theorem meets41 (W0 : World) : OkAt W0 41 F41 := meets_fn env tok_nil mixed Tryd.func41 (by kernel_rfl) (by kernel_rfl) fun args r h => by
  unfold F41 at h
  split at h
  · rename_i s n
    split at h
    · rename_i hc
      cases h
      obtain ⟨k, rfl⟩ : ∃ k : Nat, n = (k : Int) := ⟨n.toNat, by omega⟩
      have hk : k ≤ s.length := by omega
      have e2 : (s.take k).length = k := by rw [List.length_take]; omega
      simp only [Int.toNat_natCast]
      unfold XFn Tryd.f41
      rw [enter_2 _ (by decide)]
      simp [-Int.natCast_add]
      refine X_keep (loop41 hc.2.2 s.length (s.drop k) (s.take k) (by simp) (List.take_append_drop _ _) ?_ ?_) ?_
      · rw [e2]; simp [Is_mk, outR, outP]
      · rw [e2]; simp [Is_mk, outR, outP]
      · rw [e2]; simp
    · cases h
  · cases h
theorem F41_at {s : Bs} {n : Nat} (hn : n ≤ s.length) (hs : s.length ≤ 10000000) : F41 [.str s, .i n] = some (.i (n + skp false (s.drop n) : Nat)) := by
  simp only [F41]
  rw [if_pos ⟨by omega, by omega, hs⟩]
  simp
/-- Places. -/
theorem loop17 {F : List Fr} {P : SV × List Blk → Prop} {H : List Blk} {s : Bs} {m : Nat} (hs : s.length ≤ 10000000) (hm : m ≤ s.length) : ∀ (r pre : Bs) (l c : Int), pre ++ r = s.take m → 0 ≤ l → l ≤ pre.length + 1 → 0 ≤ c → c ≤ pre.length + 1 →
    X Y T0 [.tmp 4, .tmp 5] F (.exit 0) ⟨mk 22 .J [(4, .i (plc r l c).1), (5, .i (plc r l c).2)], H⟩ P →
    X Y T0 [.tmp 4, .tmp 5] F (.loop (loopN Tryd.f17 0)) ⟨mk 22 .J [(0, .str s), (1, .i m), (4, .i l), (5, .i c), (6, .i pre.length)], H⟩ P
  | [], pre, l, c, hr, l0, l1, c0, c1, hx => by
    have hpm : pre.length = m := by have := congrArg List.length hr; simp at this; omega
    apply X_loop_of
    · simp only [loopN, Tryd.f17, loopsOf, List.nil_append, List.append_nil, List.cons_append, List.getD_cons_succ, List.getD_cons_zero]; rfl
    simp [plc] at hx
    simp [hpm]
    refine X_keep hx ?_
    simp
  | b :: r, pre, l, c, hr, l0, l1, c0, c1, hx => by
    have hsl : m = pre.length + (r.length + 1) := by have := congrArg List.length hr; simp at this; omega
    have hi : s[pre.length]? = some b := by
      have : (s.take m)[pre.length]? = some b := by rw [← hr]; simp
      rw [List.getElem?_take] at this
      split at this
      · exact this
      · cases this
    have h1 : (pre.length : Int) < (m : Int) := by omega
    have w1 : IntKind.i64.wrap ((pre.length : Int) + 1) = ((pre ++ [b]).length : Int) := by rw [wrap64 (by omega) (by omega)]; simp
    have w2 : IntKind.i64.wrap (c + 1) = c + 1 := wrap64 (by omega) (by omega)
    have w3 : IntKind.i64.wrap (l + 1) = l + 1 := wrap64 (by omega) (by omega)
    have hpl : ((pre ++ [b]).length : Int) = (pre.length : Int) + 1 := by simp
    apply X_loop_of
    · simp only [loopN, Tryd.f17, loopsOf, List.nil_append, List.append_nil, List.cons_append, List.getD_cons_succ, List.getD_cons_zero]; rfl
    by_cases hc : (b.toNat : Int) = 10
    · have hcn : b.toNat = 10 := by omega
      have hz : z b = 10 := hc
      have ep : plc (b :: r) l c = plc r (l + 1) 1 := by rw [plc, if_pos hz]
      rw [ep] at hx
      have ih := loop17 (F := F) (P := P) (H := H) hs hm r (pre ++ [b]) (l + 1) 1 (by rw [← hr]; simp) (by omega) (by omega) (by omega) (by omega) hx
      generalize ((pre ++ [b]).length : Int) = E at *
      simp [h1, hi, hc, hcn, w1, w2, w3]
      refine X_keep ih ?_
      simp
    · have hcn : ¬ b.toNat = 10 := by omega
      have hz : ¬ z b = 10 := hc
      have ep : plc (b :: r) l c = plc r l (c + 1) := by rw [plc, if_neg hz]
      rw [ep] at hx
      have ih := loop17 (F := F) (P := P) (H := H) hs hm r (pre ++ [b]) l (c + 1) (by rw [← hr]; simp) (by omega) (by omega) (by omega) (by omega) hx
      generalize ((pre ++ [b]).length : Int) = E at *
      simp [h1, hi, hc, hcn, w1, w2, w3]
      refine X_keep ih ?_
      simp
def F17 : List SV → Option SV
  | [.pv (.str s), .pv (.int .i64 n)] => if 0 ≤ n ∧ n ≤ s.length ∧ s.length ≤ 10000000 then some (.tuple [.i (LexP.place s n.toNat).1, .i (LexP.place s n.toNat).2]) else none
  | _ => none
theorem meets17 (W0 : World) : OkAt W0 17 F17 := meets_fn env tok_nil mixed Tryd.func17 (by kernel_rfl) (by kernel_rfl) fun args r h => by
  unfold F17 at h
  split at h
  · rename_i s n
    split at h
    · rename_i hc
      cases h
      obtain ⟨k, rfl⟩ : ∃ k : Nat, n = (k : Int) := ⟨n.toNat, by omega⟩
      have hk : k ≤ s.length := by omega
      simp only [Int.toNat_natCast]
      unfold XFn Tryd.f17
      rw [enter_2 _ (by decide)]
      simp
      refine X_keep (loop17 hc.2.2 hk (s.take k) [] 1 1 rfl (by omega) (by simp) (by omega) (by simp) ?_) ?_
      · simp [Is_mk, outR, outP, outL, LexP.place]
      · simp
    · cases h
  · cases h
theorem F17_at {s : Bs} {n : Nat} (hn : n ≤ s.length) (hs : s.length ≤ 10000000) : F17 [.str s, .i n] = some (.tuple [.i (LexP.place s n).1, .i (LexP.place s n).2]) := by
  simp only [F17]
  rw [if_pos ⟨by omega, by omega, hs⟩]
  simp
end Go.Proofs.YtkbfgmneibabgaaDoor
