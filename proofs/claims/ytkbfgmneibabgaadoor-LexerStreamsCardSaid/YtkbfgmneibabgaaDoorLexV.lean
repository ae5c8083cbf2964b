/- Tokens against the reference's, the example, and the law of Scan, by the machine. -/
import Derived.Test.YtkbfgmneibabgaaDoorLexU
set_option linter.unusedSimpArgs false
set_option linter.unusedVariables false
set_option maxRecDepth 1000000
set_option maxHeartbeats 1000000
namespace Go.Proofs.YtkbfgmneibabgaaDoor
open Go Go.Pm Go.RowKit
open LexP hiding place Sep Run
def F13 : List SV → Option SV
  | [.pv (.str s)] => some (.str (s.take 600))
  | _ => none
theorem meets13 (W0 : World) : OkAt W0 13 F13 := meets_fn env tok_nil mixed Tryd.func13 (by kernel_rfl) (by kernel_rfl) fun args r h => by
  unfold F13 at h
  split at h
  · rename_i s
    cases h
    unfold XFn Tryd.f13
    rw [enter_1 _ (by decide)]
    by_cases hl : s.length ≤ 600
    · have h1 : ¬ (600 : Int) < (s.length : Int) := by omega
      have ht : s.take 600 = s := List.take_of_length_le hl
      by_cases h2 : s.length = 600
      · simp [aMinMax, h2, Is_mk, outR, outP, ht]
      · have h3 : ¬ (600 : Int) < (s.length : Int) := by omega
        simp [-Int.not_lt, aMinMax, h1, Is_mk, outR, outP, ht]
    · have h1 : (600 : Int) < (s.length : Int) := by omega
      have h2 : 600 < s.length := by omega
      simp [-Int.not_lt, aMinMax, h1, h2, Is_mk, outR, outP]
      omega
  · cases h
/-- Tokens that agree with the reference's. -/
noncomputable def T46 : FuncId → Option Pm.Spec := tab [(17, .pure false F17)]
theorem T46_eq (g : Nat) : T46 g = tab [(17, .pure false F17)] g := rfl
theorem tok46 (W0 : World) : TOk Tryd.prog W0 T46 := tok_cons (meets17 W0) tok_nil
theorem meets46 (W0 : World) : Enterable Tryd.prog 46 ∧ Meets Tryd.prog W0 46 (specFn (.heap (arunAll Y T46 Tryd.f46))) := meets_heap env (tok46 W0) mixed Tryd.func46 (by kernel_rfl) (by kernel_rfl)
theorem all46s {ks : Nat} {s : Bs} {t : Tk} {ty : Option TypeId} {H : List Blk} (hk : H[ks]? = some (.box ty [.str s])) (hp : t.pos ≤ s.length) (hs : s.length ≤ 10000000) :
    ∃ a b, arunAll Y T46 Tryd.f46 [.agg ((tkC s t).map .pv), .agg ((rfC t).map .pv), .ptr ks 0] H = some (.bool true, H ++ [.box (some 42) a, .box (some 38) b]) := by
  have hlt := (List.getElem?_eq_some_iff.1 hk).1
  have hF := F17_at hp hs
  have hx : XFn Y T46 Tryd.f46 [.agg ((tkC s t).map .pv), .agg ((rfC t).map .pv), .ptr ks 0] H (fun x => ∃ a b, x = (.bool true, H ++ [.box (some 42) a, .box (some 38) b])) := by
    unfold XFn Tryd.f46 tkC rfC
    rw [enter_3 _ (by decide)]
    have g : ∀ a b, (H ++ [a, b])[ks]? = some (.box ty [.str s]) := fun a b => by rw [List.getElem?_append_left hlt]; exact hk
    have g0 : ∀ a b : Blk, (H ++ [a, b])[H.length]? = some a := fun a b => by simp
    have g1 : ∀ a b : Blk, (H ++ [a, b])[H.length + 1]? = some b := fun a b => by simp
    simp [T46_eq, g, g0, g1, hF]
  obtain ⟨r, H', h1, a, b, h2⟩ := all_of_XFn (by rfl) hx
  cases h2
  exact ⟨a, b, h1⟩
theorem all46n {s : Bs} {t w : Tk} {H : List Blk} (hc : t.core = w.core) :
    ∃ a b, arunAll Y T46 Tryd.f46 [.agg ((tkC s t).map .pv), .agg ((rfC w).map .pv), .pv .nilPtr] H = some (.bool true, H ++ [.box (some 42) a, .box (some 38) b]) := by
  have hx : XFn Y T46 Tryd.f46 [.agg ((tkC s t).map .pv), .agg ((rfC w).map .pv), .pv .nilPtr] H (fun x => ∃ a b, x = (.bool true, H ++ [.box (some 42) a, .box (some 38) b])) := by
    unfold XFn Tryd.f46 tkC rfC
    rw [enter_3 _ (by decide)]
    simp only [Tk.core, Prod.mk.injEq] at hc
    obtain ⟨c1, c2, c3, c4, c5⟩ := hc
    have g0 : ∀ a b : Blk, (H ++ [a, b])[H.length]? = some a := fun a b => by simp
    have g1 : ∀ a b : Blk, (H ++ [a, b])[H.length + 1]? = some b := fun a b => by simp
    simp [T46_eq, g0, g1, c1, c2, c3, c4, c5]
  obtain ⟨r, H', h1, a, b, h2⟩ := all_of_XFn (by rfl) hx
  cases h2
  exact ⟨a, b, h1⟩
noncomputable def T18 : FuncId → Option Pm.Spec := tab [(46, .heap (arunAll Y T46 Tryd.f46))]
theorem T18_eq (g : Nat) : T18 g = tab [(46, .heap (arunAll Y T46 Tryd.f46))] g := rfl
theorem tok18 (W0 : World) : TOk Tryd.prog W0 T18 := tok_cons (meets46 W0) tok_nil
theorem meets18 (W0 : World) : Enterable Tryd.prog 18 ∧ Meets Tryd.prog W0 18 (specFn (.heap (arunAll Y T18 Tryd.f18))) := meets_heap env (tok18 W0) mixed Tryd.func18 (by kernel_rfl) (by kernel_rfl)
/-- 'is' says yes at each place, whatever lies behind. -/
def IsAll (x : SV) (ea eb : List (List PV)) (H : List Blk) : Prop := ∀ (G : List Blk) (i : Nat) (a b : List PV), ea[i]? = some a → eb[i]? = some b → ∃ a' b', arunAll Y T46 Tryd.f46 [.agg (a.map .pv), .agg (b.map .pv), x] (H ++ G) = some (.bool true, H ++ G ++ [.box (some 42) a', .box (some 38) b'])
theorem loop18 {F : List Fr} {P : SV × List Blk → Prop} {x : SV} {ea eb : List (List PV)} {H : List Blk} {ka va kb vb : Nat} (hi : IsAll x ea eb H) (hl : live x = some x) (hab : ea.length = eb.length) (h7 : ∀ a ∈ ea, a.length = 7) (h6 : ∀ b ∈ eb, b.length = 6) (hb : ea.length ≤ 10000000) : ∀ (m i : Nat) (G : List Blk), ea.length = i + m →
    (∀ H', X Y T18 [.tmp 6] F (.exit 0) ⟨mk 30 .J [], H'⟩ P) →
    X Y T18 [.tmp 6] F (.loop (loopN Tryd.f18 0)) ⟨mk 30 .J [(0, .own ka va 7 ea), (1, .own kb vb 6 eb), (2, x), (7, .i i)], H ++ G⟩ P
  | 0, i, G, hm, hx => by
    have hm : (i : Int) = (ea.length : Int) := by omega
    apply X_loop_of
    · simp only [loopN, Tryd.f18, loopsOf, List.nil_append, List.append_nil, List.cons_append, List.getD_cons_succ, List.getD_cons_zero]; rfl
    rw [hm]
    simp
    refine X_keep (hx _) ?_
    simp
  | m + 1, i, G, hm, hx => by
    have h1 : (i : Int) < (ea.length : Int) := by omega
    have ha : ea[i]? = some ea[i] := by simp
    have hbb : eb[i]? = some eb[i] := by simp
    generalize ea[i] = a at ha
    generalize eb[i] = b at hbb
    have la : a.length = 7 := h7 a (List.mem_of_getElem? ha)
    have lb : b.length = 6 := h6 b (List.mem_of_getElem? hbb)
    obtain ⟨a', b', e⟩ := hi G i a b ha hbb
    have w1 : IntKind.i64.wrap ((i : Int) + 1) = ((i + 1 : Nat) : Int) := by rw [wrap64 (by omega) (by omega)]; omega
    have ih := loop18 (F := F) (P := P) (ka := ka) (va := va) (kb := kb) (vb := vb) hi hl hab h7 h6 hb m (i + 1) (G ++ [.box (some 42) a', .box (some 38) b']) (by omega) hx
    rw [← List.append_assoc] at ih
    have ta : a.take 7 = a := List.take_of_length_le (by omega)
    have tb : b.take 6 = b := List.take_of_length_le (by omega)
    generalize hHG : H ++ G = HG at *
    generalize ((i + 1 : Nat) : Int) = E at *
    apply X_loop_of
    · simp only [loopN, Tryd.f18, loopsOf, List.nil_append, List.append_nil, List.cons_append, List.getD_cons_succ, List.getD_cons_zero]; rfl
    simp [-getElem?_pos, h1, ha, hbb, la, lb, ta, tb, hl, T18_eq, e, w1]
    refine X_keep ih ?_
    simp
theorem all18 {x : SV} {ea eb : List (List PV)} {H : List Blk} {ka va kb vb : Nat} (hi : IsAll x ea eb H) (hl : live x = some x) (hab : ea.length = eb.length) (h7 : ∀ a ∈ ea, a.length = 7) (h6 : ∀ b ∈ eb, b.length = 6) (hb : ea.length ≤ 10000000) :
    ∃ H', arunAll Y T18 Tryd.f18 [.own ka va 7 ea, .own kb vb 6 eb, x] H = some (.bool true, H') := by
  have hx : XFn Y T18 Tryd.f18 [.own ka va 7 ea, .own kb vb 6 eb, x] H (fun r => ∃ H', r = (.bool true, H')) := by
    unfold XFn Tryd.f18
    rw [enter_3 _ (by decide)]
    have hn : ¬ (ea.length : Int) ≠ (eb.length : Int) := by omega
    have L := fun F P => loop18 (F := F) (P := P) (ka := ka) (va := va) (kb := kb) (vb := vb) hi hl hab h7 h6 hb ea.length 0 [] (by omega)
    simp only [List.append_nil] at L
    simp [hab]
    refine X_keep (L _ _ ?_) ?_
    · intro H'
      simp
    · simp
  obtain ⟨r, H', h1, H2, h2⟩ := all_of_XFn (by rfl) hx
  cases h2
  exact ⟨_, h1⟩
theorem tkRow_at {s : Bs} {m : List Tk} {i : Nat} {a : List PV} (h : (tkRow s m)[i]? = some a) : ∃ t, m[i]? = some t ∧ a = tkC s t := by
  simp [tkRow] at h
  obtain ⟨t, h1, h2⟩ := h
  exact ⟨t, h1, h2.symm⟩
theorem rfRow_at {m : List Tk} {i : Nat} {a : List PV} (h : (rfRow m)[i]? = some a) : ∃ t, m[i]? = some t ∧ a = rfC t := by
  simp [rfRow] at h
  obtain ⟨t, h1, h2⟩ := h
  exact ⟨t, h1, h2.symm⟩
theorem tkRow_len {s : Bs} {m : List Tk} : (tkRow s m).length = m.length := by simp [tkRow]
theorem rfRow_len {m : List Tk} : (rfRow m).length = m.length := by simp [rfRow]
theorem tkRow_7 {s : Bs} {m : List Tk} : ∀ a ∈ tkRow s m, a.length = 7 := fun a h => by
  simp [tkRow] at h
  obtain ⟨t, _, rfl⟩ := h
  rfl
theorem rfRow_6 {m : List Tk} : ∀ a ∈ rfRow m, a.length = 6 := fun a h => by
  simp [rfRow] at h
  obtain ⟨t, _, rfl⟩ := h
  rfl
theorem isAll_s {ks : Nat} {s : Bs} {m : List Tk} {ty : Option TypeId} {H : List Blk} (hk : H[ks]? = some (.box ty [.str s])) (hs : s.length ≤ 10000000) (hp : ∀ t ∈ m, t.pos ≤ s.length) : IsAll (.ptr ks 0) (tkRow s m) (rfRow m) H := by
  intro G i a b ha hb
  obtain ⟨t, h1, rfl⟩ := tkRow_at ha
  obtain ⟨t', h2, rfl⟩ := rfRow_at hb
  rw [h1] at h2
  cases h2
  exact all46s (by rw [List.getElem?_append_left (List.getElem?_eq_some_iff.1 hk).1]; exact hk) (hp t (List.mem_of_getElem? h1)) hs
theorem isAll_n {s : Bs} {m m' : List Tk} {H : List Blk} (hc : m.map Tk.core = m'.map Tk.core) : IsAll (.pv .nilPtr) (tkRow s m) (rfRow m') H := by
  intro G i a b ha hb
  obtain ⟨t, h1, rfl⟩ := tkRow_at ha
  obtain ⟨t', h2, rfl⟩ := rfRow_at hb
  refine all46n ?_
  have e := congrArg (·[i]?) hc
  simpa [h1, h2] using e
/-- The example. -/
noncomputable def T16 : FuncId → Option Pm.Spec := tab [(14, .pure true F14)]
theorem T16_eq (g : Nat) : T16 g = tab [(14, .pure true F14)] g := rfl
theorem tok16 (W0 : World) : TOk Tryd.prog W0 T16 := tok_cons (meets14 W0) tok_nil
def F16 : List SV → Option SV
  | [] => some (.bool true)
  | _ => none
theorem meets16 (W0 : World) : OkAt W0 16 F16 := meets_fn env (tok16 W0) mixed Tryd.func16 (by kernel_rfl) (by kernel_rfl) fun args r h => by
  unfold F16 at h
  split at h
  · cases h
    unfold XFn Tryd.f16
    rw [enter_mk0]
    have hF : F14 [.str [99, 52, 46, 39, 120, 32, 32, 56, 118, 97, 32, 37, 32, 101, 110, 100]] = some (.tuple [.fresh 42 7 [
      [.int .i64 1, .str [99, 52], .int .i64 0, .str [], .int .i64 1, .int .i64 1, .bool false], [.int .i64 4, .str [46], .int .i64 0, .str [], .int .i64 1, .int .i64 3, .bool true],
      [.int .i64 4, .str [39], .int .i64 0, .str [], .int .i64 1, .int .i64 4, .bool true], [.int .i64 1, .str [120], .int .i64 0, .str [], .int .i64 1, .int .i64 5, .bool true],
      [.int .i64 2, .str [56], .int .i64 8, .str [], .int .i64 1, .int .i64 8, .bool false], [.int .i64 1, .str [118, 97], .int .i64 0, .str [], .int .i64 1, .int .i64 9, .bool true],
      [.int .i64 0, .str [], .int .i64 0, .str [], .int .i64 1, .int .i64 17, .bool false]], .i 0, .i 0, .i 0]) := by rfl
    simp [T16_eq, hF, Is_mk, outR, outP]
  · cases h
/-- Positions are within the text. -/
theorem scanA_pos : ∀ (f : Nat) (acc : List Tk) (pos : Nat) (rest : Bs) (m : List Tk), scanA f acc pos rest = .ok m → (∀ t ∈ acc, t.pos ≤ pos + rest.length) → ∀ t ∈ m, t.pos ≤ pos + rest.length
  | 0, acc, pos, rest, m, h, ha => by cases h
  | f + 1, acc, pos, rest, m, h, ha => by
    simp only [scanA] at h
    have hle := skp_le rest false
    split at h
    · cases h
      intro t ht
      rcases List.mem_append.1 ht with ht | ht
      · exact ha t ht
      · simp at ht; subst ht; simp; omega
    · rename_i c r hd
      have hcr : (c :: r).length = rest.length - skp false rest := by rw [← hd, List.length_drop]
      split at h
      · cases h
      · rename_i kd n v bs ht
        obtain ⟨⟨n1, n2⟩, _⟩ := tok_local ht
        have ih := scanA_pos f _ _ _ _ h (by
          intro t ht
          rw [List.length_drop]
          rcases List.mem_append.1 ht with ht | ht
          · have := ha t ht; omega
          · simp at ht; subst ht; simp only []; omega)
        intro t ht
        have := ih t ht
        rw [List.length_drop] at this
        omega
theorem scan_pos {s : Bs} {m : List Tk} (h : scan s = .ok m) : ∀ t ∈ m, t.pos ≤ s.length := by
  have := scanA_pos _ _ _ _ _ h (by simp)
  simpa using this
theorem scan_len {s : Bs} {m : List Tk} (h : scan s = .ok m) : m.length ≤ s.length + 1 := by
  obtain ⟨m', jb, rfl, h2⟩ := scan_last h
  simp; omega
theorem scanA_err_ne : ∀ (f : Nat) (acc : List Tk) (pos : Nat) (rest : Bs) (o : Nat) (e : Int), rest.length < f → scanA f acc pos rest = .error (o, e) → e ≠ 0
  | 0, acc, pos, rest, o, e, hf, h => by omega
  | f + 1, acc, pos, rest, o, e, hf, h => by
    simp only [scanA] at h
    have hle := skp_le rest false
    split at h
    · cases h
    · rename_i c r hd
      have hcr : (c :: r).length = rest.length - skp false rest := by rw [← hd, List.length_drop]
      split at h
      · rename_i o' e' ht
        cases h
        exact tokL_err ht
      · rename_i kd n v bs ht
        obtain ⟨⟨n1, n2⟩, _⟩ := tok_local ht
        exact scanA_err_ne f _ _ _ _ _ (by rw [List.length_drop]; omega) h
theorem scan_err_ne {s : Bs} {o : Nat} {e : Int} (h : scan s = .error (o, e)) : e ≠ 0 := scanA_err_ne _ _ _ _ _ _ (by omega) h
/-- The law of Scan. -/
noncomputable def T3 : FuncId → Option Pm.Spec := tab [(13, .pure false F13), (14, .pure true F14), (15, .pure true F15), (16, .pure false F16), (17, .pure false F17), (18, .heap (arunAll Y T18 Tryd.f18))]
theorem T3_eq (g : Nat) : T3 g = tab [(13, .pure false F13), (14, .pure true F14), (15, .pure true F15), (16, .pure false F16), (17, .pure false F17), (18, .heap (arunAll Y T18 Tryd.f18))] g := rfl
theorem tok3 (W0 : World) : TOk Tryd.prog W0 T3 := tok_cons (meets13 W0) (tok_cons (meets14 W0) (tok_cons (meets15 W0) (tok_cons (meets16 W0) (tok_cons (meets17 W0) (tok_cons (meets18 W0) tok_nil)))))
theorem F14_at {s : Bs} (h : s.length ≤ 200000) : F14 [.str s] = some (scanR s) := by simp only [F14]; rw [if_pos h]
theorem F15_at {s : Bs} (h : s.length ≤ 200000) : F15 [.str s] = some (refR s) := by simp only [F15]; rw [if_pos h]
theorem F16_at : F16 [] = some (.bool true) := rfl
theorem x3 (s0 : Bs) : XFn Y T3 Tryd.f3 [.str s0] [] (Is (.bool true)) := by
  have h13 : F13 [.str s0] = some (.str (s0.take 600)) := rfl
  have hs : (s0.take 600).length ≤ 600 := by rw [List.length_take]; omega
  generalize s0.take 600 = s at *
  have h14 := F14_at (s := s) (by omega)
  have h15 := F15_at (s := s) (by omega)
  unfold scanR at h14
  unfold refR at h15
  unfold XFn Tryd.f3
  rw [enter_1 _ (by decide)]
  cases hsc : scan s with
  | ok m =>
    rw [hsc] at h14 h15
    have hml := scan_len hsc
    obtain ⟨H', e⟩ := all18 (x := .ptr 0 0) (H := [.box (some 9) [.str s], .tok 0 42, .tok 0 38]) (ka := 1) (va := 0) (kb := 2) (vb := 0) (isAll_s (m := m) (ks := 0) rfl (by omega) (scan_pos hsc)) rfl (by rw [tkRow_len, rfRow_len]) tkRow_7 rfRow_6 (by rw [tkRow_len]; omega)
    simp [T3_eq, h13, h14, h15, F16_at, e, Is_mk, outR, outP]
  | error p =>
    obtain ⟨o, er⟩ := p
    rw [hsc] at h14 h15
    have ho := scan_err_le hsc
    have h17 := F17_at ho (by omega)
    have her : er ≠ 0 := scan_err_ne hsc
    simp [T3_eq, h13, h14, h15, F16_at, h17, her, Is_mk, outR, outP]
end Go.Proofs.YtkbfgmneibabgaaDoor
