/- Names and their readings, by the machine. -/
import Derived.Test.YthoampbpeiehhaaDoorPitchK
import Derived.Test.YthoampbpeiehhaaDoorParseL
set_option linter.unusedSimpArgs false
set_option linter.unusedVariables false
set_option maxRecDepth 1000000
set_option maxHeartbeats 400000
namespace Go.Proofs.YthoampbpeiehhaaDoor
open Go Go.Pm Go.RowKit
theorem sgn_len (a : Int) : (sgn a).length ≤ 2 := by unfold sgn; repeat (first | (split; · simp) | simp)
theorem oct_len (o : Int) : (octL o).length ≤ 2 := by unfold octL; split <;> simp
theorem sgn_at {a : Int} (h : -2 ≤ a ∧ a ≤ 2) : ([SV.str [98, 98], .str [98], .str [], .str [35], .str [35, 35]] : List SV)[(a + 2).toNat]? = some (.str (sgn a)) := by
  have : a = -2 ∨ a = -1 ∨ a = 0 ∨ a = 1 ∨ a = 2 := by omega
  rcases this with rfl | rfl | rfl | rfl | rfl <;> rfl
theorem sgn_at' {a : Int} (h : -2 ≤ a ∧ a ≤ 2) : ([[PV.str [98, 98]], [.str [98]], [.str []], [.str [35]], [.str [35, 35]]] : List (List PV))[(a + 2).toNat]? = some [.str (sgn a)] := by
  have : a = -2 ∨ a = -1 ∨ a = 0 ∨ a = 1 ∨ a = 2 := by omega
  rcases this with rfl | rfl | rfl | rfl | rfl <;> rfl
noncomputable def T18 : FuncId → Option Pm.Spec := tab [(27, .pure false F27), (38, .pure false F38), (39, .pure false F39)]
theorem T18_eq (g : Nat) : T18 g = tab [(27, .pure false F27), (38, .pure false F38), (39, .pure false F39)] g := rfl
theorem tok18 {W0 : World} (L : Laid W0) : TOk Tryd.prog W0 T18 := tok_cons (meets27 W0) (tok_cons (meets38 W0) (tok_cons (meets39 L) tok_nil))
theorem x18 (s a o : Int) : XFn Y T18 Tryd.f18 [P3 s a o] [] (Is (if valid s a o then .tuple [.str (nameL s a o), .i 0] else .tuple [.str [], .i 18])) := by
  unfold XFn Tryd.f18
  rw [enter_1 _ (by decide)]
  by_cases hv : valid s a o
  · have e0 : chk s a o = 0 := if_pos hv
    have hr := hv.1
    have e1 := sgn_at (a := a) ⟨hr.2.2.1, hr.2.2.2.1⟩
    have e2 := itoa_oct (o := o) ⟨hr.2.2.2.2.1, hr.2.2.2.2.2⟩
    have w2 : IntKind.i64.wrap (a + 2) = a + 2 := wrap64 (by omega) (by omega)
    have a1 : 0 ≤ a + 2 := by omega
    have a2 : a + 2 < 5 := by omega
    have o1 : -9223372036854775808 ≤ o ∧ o ≤ 9223372036854775807 := by omega
    have l1 := sgn_len a
    have l2 := oct_len o
    have l3 : (sgn a).length + 1 ≤ 4611686018427387904 := by omega
    have l4 : (sgn a).length + 1 + (octL o).length ≤ 4611686018427387904 := by omega
    have hs : s = 0 ∨ s = 1 ∨ s = 2 ∨ s = 3 ∨ s = 4 ∨ s = 5 ∨ s = 6 := by omega
    have k1 : IntKind.i64.wrap 1 = 1 := rfl
    have k2 : IntKind.i64.wrap 2 = 2 := rfl
    have k3 : IntKind.i64.wrap 3 = 3 := rfl
    have k4 : IntKind.i64.wrap 4 = 4 := rfl
    have k5 : IntKind.i64.wrap 5 = 5 := rfl
    have k6 : IntKind.i64.wrap 6 = 6 := rfl
    have k7 : IntKind.i64.wrap 7 = 7 := rfl
    rw [if_pos hv]
    rcases hs with rfl | rfl | rfl | rfl | rfl | rfl | rfl <;>
      simp [-getElem?_pos, List.getElem?_cons_zero, List.getElem?_cons_succ, T18_eq, F38, F39, onQ, e0, e1, e2, w2, a1, a2, o1, l3, l4, nameL, letter, k1, k2, k3, k4, k5, k6, k7] <;> omega
  · have e0 : chk s a o = 18 := if_neg hv
    rw [if_neg hv]
    simp [T18_eq, onQ, e0]
def F18 : List SV → Option SV
  | [.agg [.pv (.int .i64 s), .pv (.int .i64 a), .pv (.int .i64 o)]] => some (if valid s a o then .tuple [.str (nameL s a o), .i 0] else .tuple [.str [], .i 18])
  | _ => none
theorem meets18 {W0 : World} (L : Laid W0) : OkAt W0 18 F18 := meets_fn env (tok18 L) mixed Tryd.func18 (by kernel_rfl) (by kernel_rfl) fun args r h => by
  unfold F18 at h
  split at h
  · cases h; exact x18 _ _ _
  · cases h
noncomputable abbrev T0 : FuncId → Option Pm.Spec := tab []
theorem x20 (s a o : Int) (hr : inR s a o) : XFn Y T0 Tryd.f20 [P3 s a o] [] (Is (.str (nameL s a o))) := by
  unfold XFn Tryd.f20
  rw [enter_1 _ (by decide)]
  have e1 := sgn_at' (a := a) ⟨hr.2.2.1, hr.2.2.2.1⟩
  have w2 : IntKind.i64.wrap (a + 2) = a + 2 := wrap64 (by omega) (by omega)
  have a1 : 0 ≤ a + 2 := by omega
  have a2 : a + 2 < 5 := by omega
  have l1 := sgn_len a
  have hs : s = 0 ∨ s = 1 ∨ s = 2 ∨ s = 3 ∨ s = 4 ∨ s = 5 ∨ s = 6 := by omega
  have k1 : IntKind.i64.wrap 1 = 1 := rfl
  have k2 : IntKind.i64.wrap 2 = 2 := rfl
  have k3 : IntKind.i64.wrap 3 = 3 := rfl
  have k4 : IntKind.i64.wrap 4 = 4 := rfl
  have k5 : IntKind.i64.wrap 5 = 5 := rfl
  have k6 : IntKind.i64.wrap 6 = 6 := rfl
  have k7 : IntKind.i64.wrap 7 = 7 := rfl
  by_cases ho : o < 0
  · have : o = -1 := by omega
    subst this
    rcases hs with rfl | rfl | rfl | rfl | rfl | rfl | rfl <;>
      simp [-getElem?_pos, List.getElem?_cons_zero, List.getElem?_cons_succ, e1, w2, a1, a2, nameL, letter, octL, k1, k2, k3, k4, k5, k6, k7] <;> omega
  · have w3 : IntKind.i64.wrap (48 + o) = 48 + o := wrap64 (by omega) (by omega)
    have w4 : IntKind.u8.wrap (48 + o) = 48 + o := by
      have : o = 0 ∨ o = 1 ∨ o = 2 ∨ o = 3 ∨ o = 4 ∨ o = 5 ∨ o = 6 ∨ o = 7 ∨ o = 8 ∨ o = 9 := by omega
      rcases this with rfl | rfl | rfl | rfl | rfl | rfl | rfl | rfl | rfl | rfl <;> rfl
    have w5 : octL o = [UInt8.ofNat (48 + o).toNat] := by
      unfold octL
      rw [if_neg (by omega), show (48 + o).toNat = 48 + o.toNat by omega]
    rcases hs with rfl | rfl | rfl | rfl | rfl | rfl | rfl <;>
      simp [-getElem?_pos, List.getElem?_cons_zero, List.getElem?_cons_succ, e1, w2, w3, w4, w5, a1, a2, nameL, letter, ho, bytesOf, k1, k2, k3, k4, k5, k6, k7] <;> omega
def F20 : List SV → Option SV
  | [.agg [.pv (.int .i64 s), .pv (.int .i64 a), .pv (.int .i64 o)]] => if inR s a o then some (.str (nameL s a o)) else none
  | _ => none
theorem meets20 (W0 : World) : OkAt W0 20 F20 := meets_fn env tok_nil mixed Tryd.func20 (by kernel_rfl) (by kernel_rfl) fun args r h => by
  unfold F20 at h
  split at h
  · split at h
    · cases h; rename_i hr; exact x20 _ _ _ hr
    · cases h
  · cases h

/-- The first sign that fits. -/
def firstC (rest : List UInt8) : List Int → Option (Int × Int)
  | [] => none
  | a :: l => match cand rest a with
    | some n => some (a, n)
    | none => firstC rest l
def outC (st : Int) : Option (Int × Int) → SV
  | some (a, n) => if valid st a n then .tuple [P3 st a n, .i 0, .i 0] else .tuple [P3 0 0 0, .i 0, .i 18]
  | none => .tuple [P3 0 0 0, .i 1, .i 3]
def parseR : List UInt8 → SV
  | [] => .tuple [P3 0 0 0, .i 0, .i 4]
  | c :: rest => if stepOf c < 0 then .tuple [P3 0 0 0, .i 0, .i 6] else outC (stepOf c) (firstC rest [-2, -1, 0, 1, 2])
noncomputable def T19 : FuncId → Option Pm.Spec := tab [(27, .pure false F27), (38, .pure false F38), (39, .pure false F39), (40, .pure false F40), (41, .pure false F41), (42, .pure false F42)]
theorem T19_eq (g : Nat) : T19 g = tab [(27, .pure false F27), (38, .pure false F38), (39, .pure false F39), (40, .pure false F40), (41, .pure false F41), (42, .pure false F42)] g := rfl
theorem tok19 {W0 : World} (L : Laid W0) : TOk Tryd.prog W0 T19 := tok_cons (meets27 W0) (tok_cons (meets38 W0) (tok_cons (meets39 L) (tok_cons (meets40 W0) (tok_cons (meets41 W0) (tok_cons (meets42 L) tok_nil)))))
abbrev signsV : List SV := [.str [98, 98], .str [98], .str [], .str [35], .str [35, 35]]
theorem signs_at {m : Nat} (h : m < 5) : signsV[m]? = some (.str (sgn ((m : Int) - 2))) := by
  have : m = 0 ∨ m = 1 ∨ m = 2 ∨ m = 3 ∨ m = 4 := by omega
  rcases this with rfl | rfl | rfl | rfl | rfl <;> rfl
theorem alts_drop {m : Nat} (h : m < 5) : ([-2, -1, 0, 1, 2] : List Int).drop m = ((m : Int) - 2) :: ([-2, -1, 0, 1, 2] : List Int).drop (m + 1) := by
  have : m = 0 ∨ m = 1 ∨ m = 2 ∨ m = 3 ∨ m = 4 := by omega
  rcases this with rfl | rfl | rfl | rfl | rfl <;> rfl
theorem loop19 {F : List Fr} {P : SV × List Blk → Prop} (c : UInt8) (rest : List UInt8) (st : Int) (hl : rest.length ≤ 1000) (hst : 0 ≤ st ∧ st ≤ 6) : ∀ (r m : Nat), m + r = 5 →
    (match firstC rest (([-2, -1, 0, 1, 2] : List Int).drop m) with
      | some (a, n) => ∀ H, P (outC st (some (a, n)), H)
      | none => X Y T19 [.cell 2 29, .tmp 3, .tmp 4] F (.exit 0) ⟨mk 72 .J [(2, .ptr 0 0)], [.box [.i 0, .i 0, .i 0]]⟩ P) →
    X Y T19 [.cell 2 29, .tmp 3, .tmp 4] F (.loop (loopN Tryd.f19 0)) ⟨mk 72 .J [(0, .str (c :: rest)), (2, .ptr 0 0), (5, .i st), (21, .agg signsV), (22, .i (m : Nat))], [.box [.i 0, .i 0, .i 0]]⟩ P := by
  intro r
  induction r with
  | zero =>
    intro m h1 hx
    have e1 : m = 5 := by omega
    subst e1
    apply X_loop_of
    · simp only [loopN, Tryd.f19, loopsOf, List.nil_append, List.append_nil, List.cons_append, List.getD_cons_succ, List.getD_cons_zero]; rfl
    simp
    simp [firstC] at hx
    refine X_keep hx ?_
    simp
  | succ r ih =>
    intro m h1 hx
    have hm : m < 5 := by omega
    have hg := signs_at hm
    rw [alts_drop hm, firstC] at hx
    generalize ha : (m : Int) - 2 = a at hg hx
    have ha' : -2 ≤ a ∧ a ≤ 2 := by omega
    have q2 : ((m : Int) < 5) := by omega
    have q3 : IntKind.i64.wrap ((m : Int) + 1) = ((m + 1 : Nat) : Int) := by rw [show ((m : Int) + 1) = ((m + 1 : Nat) : Int) by omega]; exact wrap64 (by omega) (by omega)
    have q4 : IntKind.i64.wrap ((m : Int) - 2) = a := by rw [ha]; exact wrap64 (by omega) (by omega)
    have q5 : (Lib.trimPrefix rest (sgn a)).length ≤ 281474976710656 := by
      have : (Lib.trimPrefix rest (sgn a)).length ≤ rest.length := by unfold Lib.trimPrefix; split <;> simp
      omega
    have again : X Y T19 [.cell 2 29, .tmp 3, .tmp 4] F (.loop (loopN Tryd.f19 0)) ⟨mk 72 .J [(0, .str (c :: rest)), (2, .ptr 0 0), (5, .i st), (21, .agg signsV), (22, .i ((m + 1 : Nat) : Int))], [.box [.i 0, .i 0, .i 0]]⟩ P ∨ ∃ n, cand rest a = some n := by
      cases hc : cand rest a with
      | some n => exact .inr ⟨n, rfl⟩
      | none => rw [hc] at hx; exact .inl (ih (m + 1) (by omega) hx)
    apply X_loop_of
    · simp only [loopN, Tryd.f19, loopsOf, List.nil_append, List.append_nil, List.cons_append, List.getD_cons_succ, List.getD_cons_zero]; rfl
    have bad : ∀ {p : Prop}, (cand rest a = none) → p ∨ (∃ n, cand rest a = some n) → p := by
      intro p h1 h2
      rcases h2 with h2 | ⟨n, h2⟩
      · exact h2
      · rw [h1] at h2; cases h2
    cases hp : Lib.hasPrefix rest (sgn a) with
    | false =>
      have hc : cand rest a = none := by unfold cand; rw [hp]; rfl
      cases hA : Lib.atoiAll (Lib.trimPrefix rest (sgn a)) <;>
      · simp [-getElem?_pos, List.getElem?_cons_zero, List.getElem?_cons_succ, -Int.natCast_add, -Int.not_lt, T19_eq, F41, F42, atoiR, q2, q3, q5, hg, hp, hA]
        refine X_keep (bad hc again) ?_
        simp
    | true =>
      cases hA : Lib.atoiAll (Lib.trimPrefix rest (sgn a)) with
      | ok v =>
        by_cases h1 : v < -1
        · have hc : cand rest a = none := by
            unfold cand; rw [if_pos hp, hA]; simp only []; rw [if_neg (by omega)]
          simp [-getElem?_pos, List.getElem?_cons_zero, List.getElem?_cons_succ, -Int.natCast_add, -Int.not_lt, T19_eq, F41, F42, atoiR, q2, q3, q5, hg, hp, hA, h1]
          refine X_keep (bad hc again) ?_
          simp
        · by_cases h2 : 9 < v
          · have hc : cand rest a = none := by
              unfold cand; rw [if_pos hp, hA]; simp only []; rw [if_neg (by omega)]
            simp [-getElem?_pos, List.getElem?_cons_zero, List.getElem?_cons_succ, -Int.natCast_add, -Int.not_lt, T19_eq, F41, F42, atoiR, q2, q3, q5, hg, hp, hA, h1, h2]
            refine X_keep (bad hc again) ?_
            simp
          · have h5 : -9223372036854775808 ≤ v ∧ v ≤ 9223372036854775807 := by omega
            by_cases h3 : Lib.itoa v = Lib.trimPrefix rest (sgn a)
            · have hc : cand rest a = some v := by
                unfold cand; rw [if_pos hp, hA]; simp only []; rw [if_pos ⟨by omega, by omega, h3⟩]
              rw [hc] at hx
              simp only [outC] at hx
              by_cases hv : valid st a v
              · have e0 : chk st a v = 0 := if_pos hv
                rw [if_pos hv] at hx
                simp [-getElem?_pos, List.getElem?_cons_zero, List.getElem?_cons_succ, -Int.natCast_add, -Int.not_lt, T19_eq, F27, onQ, F39, F41, F42, atoiR, q2, q3, q4, q5, hg, hp, hA, h1, h2, h3, h5, e0]
                exact hx _
              · have e0 : chk st a v = 18 := if_neg hv
                rw [if_neg hv] at hx
                simp [-getElem?_pos, List.getElem?_cons_zero, List.getElem?_cons_succ, -Int.natCast_add, -Int.not_lt, T19_eq, F27, onQ, F39, F41, F42, atoiR, q2, q3, q4, q5, hg, hp, hA, h1, h2, h3, h5, e0]
                exact hx _
            · have hc : cand rest a = none := by
                unfold cand; rw [if_pos hp, hA]; simp only []; rw [if_neg (by intro h; exact h3 h.2.2)]
              simp [-getElem?_pos, List.getElem?_cons_zero, List.getElem?_cons_succ, -Int.natCast_add, -Int.not_lt, T19_eq, F39, F41, F42, atoiR, q2, q3, q5, hg, hp, hA, h1, h2, h3, h5]
              refine X_keep (bad hc again) ?_
              simp
      | _ =>
        have hc : cand rest a = none := by unfold cand; rw [if_pos hp, hA]
        simp [-getElem?_pos, List.getElem?_cons_zero, List.getElem?_cons_succ, -Int.natCast_add, -Int.not_lt, T19_eq, F41, F42, atoiR, q2, q3, q5, hg, hp, hA]
        refine X_keep (bad hc again) ?_
        simp

theorem step_range (c : UInt8) : -1 ≤ stepOf c ∧ stepOf c ≤ 6 := by
  have all : (List.range 256).all (fun n => decide (-1 ≤ stepOf (UInt8.ofNat n) ∧ stepOf (UInt8.ofNat n) ≤ 6)) = true := by decide +kernel
  have h1 := List.all_eq_true.1 all c.toNat (by simpa using c.toNat_lt)
  simpa using h1
theorem step_letter (c : UInt8) : stepOf c < 0 ∨ letter (stepOf c) = c := by
  have all : (List.range 256).all (fun n => decide (stepOf (UInt8.ofNat n) < 0 ∨ letter (stepOf (UInt8.ofNat n)) = UInt8.ofNat n)) = true := by decide +kernel
  have h1 := List.all_eq_true.1 all c.toNat (by simpa using c.toNat_lt)
  simpa using h1
theorem x19 (s : List UInt8) (hl : s.length ≤ 1000) : XFn Y T19 Tryd.f19 [.str s] [] (Is (parseR s)) := by
  unfold XFn Tryd.f19
  rw [enter_1 _ (by decide)]
  cases s with
  | nil => simp [parseR]
  | cons c rest =>
    have hr := step_range c
    by_cases hs : stepOf c < 0
    · have e1 : Lib.indexByte [67, 68, 69, 70, 71, 65, 66] c = stepOf c := rfl
      simp [-getElem?_pos, List.getElem?_cons_zero, List.getElem?_cons_succ, -Int.not_lt, T19_eq, F40, parseR, hs, e1]
    · have e1 : Lib.indexByte [67, 68, 69, 70, 71, 65, 66] c = stepOf c := rfl
      simp [-getElem?_pos, List.getElem?_cons_zero, List.getElem?_cons_succ, -Int.not_lt, T19_eq, F38, F40, parseR, hs, e1]
      refine X_keep (loop19 c rest (stepOf c) (by simp at hl; omega) (by omega) 5 0 (by omega) ?_) ?_
      · rw [List.drop_zero]
        cases hf : firstC rest [-2, -1, 0, 1, 2] with
        | none => simp [outC]
        | some q =>
          obtain ⟨a, n⟩ := q
          intro H
          by_cases hv : valid (stepOf c) a n <;> simp [outC, hv]
      · simp
def F19 : List SV → Option SV
  | [.pv (.str s)] => if s.length ≤ 1000 then some (parseR s) else none
  | _ => none
theorem meets19 {W0 : World} (L : Laid W0) : OkAt W0 19 F19 := meets_fn env (tok19 L) mixed Tryd.func19 (by kernel_rfl) (by kernel_rfl) fun args r h => by
  unfold F19 at h
  split at h
  · split at h
    · cases h; rename_i hl; exact x19 _ hl
    · cases h
  · cases h

/-- The reference: the step. -/
def stepF (c : UInt8) : List UInt8 → Int → Int → Int
  | [], _, st => st
  | b :: l, i, st => stepF c l (i + 1) (if c = b then i else st)
theorem stepF_eq (c : UInt8) : stepF c lettersL 0 (-1) = stepOf c := by
  have all : (List.range 256).all (fun n => decide (stepF (UInt8.ofNat n) lettersL 0 (-1) = stepOf (UInt8.ofNat n))) = true := by decide +kernel
  have h1 := List.all_eq_true.1 all c.toNat (by simpa using c.toNat_lt)
  simpa using h1
noncomputable def T21 : FuncId → Option Pm.Spec := tab [(16, .pure false F16), (20, .pure false F20)]
theorem T21_eq (g : Nat) : T21 g = tab [(16, .pure false F16), (20, .pure false F20)] g := rfl
theorem tok21 (W0 : World) : TOk Tryd.prog W0 T21 := tok_cons (meets16 W0) (tok_cons (meets20 W0) tok_nil)
theorem letters_at {m : Nat} (h : m < 7) : ∃ b, lettersL[m]? = some b ∧ lettersL.drop m = b :: lettersL.drop (m + 1) := by
  have : m = 0 ∨ m = 1 ∨ m = 2 ∨ m = 3 ∨ m = 4 ∨ m = 5 ∨ m = 6 := by omega
  rcases this with rfl | rfl | rfl | rfl | rfl | rfl | rfl <;> exact ⟨_, rfl, rfl⟩
theorem loop21a {F : List Fr} {P : SV × List Blk → Prop} {rs : List ResultVar} (H : List Blk) (c : UInt8) (rest : List UInt8) : ∀ (r m : Nat) (st : Int), m + r = 7 →
    X Y T21 rs F (.exit 0) ⟨mk 48 .J [(0, .str (c :: rest)), (2, .ptr 0 0), (5, .i (stepF c (lettersL.drop m) m st))], H⟩ P →
    X Y T21 rs F (.loop (loopN Tryd.f21 0)) ⟨mk 48 .J [(0, .str (c :: rest)), (2, .ptr 0 0), (5, .i st), (6, .i (m : Nat))], H⟩ P := by
  intro r
  induction r with
  | zero =>
    intro m st h1 hx
    have e1 : m = 7 := by omega
    subst e1
    apply X_loop_of
    · simp only [loopN, Tryd.f21, loopsOf, List.nil_append, List.append_nil, List.cons_append, List.getD_cons_succ, List.getD_cons_zero]; rfl
    simp
    simp [stepF] at hx
    refine X_keep hx ?_
    simp
  | succ r ih =>
    intro m st h1 hx
    have hm : m < 7 := by omega
    obtain ⟨b, hg, hd⟩ := letters_at hm
    rw [hd, stepF] at hx
    have q2 : ((m : Int) < 7) := by omega
    have q3 : IntKind.i64.wrap ((m : Int) + 1) = ((m + 1 : Nat) : Int) := by rw [show ((m : Int) + 1) = ((m + 1 : Nat) : Int) by omega]; exact wrap64 (by omega) (by omega)
    apply X_loop_of
    · simp only [loopN, Tryd.f21, loopsOf, List.nil_append, List.append_nil, List.cons_append, List.getD_cons_succ, List.getD_cons_zero]; rfl
    simp [-getElem?_pos, List.getElem?_cons_zero, List.getElem?_cons_succ, -Int.natCast_add, q2, q3, hg]
    refine ⟨fun h => ?_, fun h => ?_⟩
    · have e : c = b := UInt8.toNat_inj.1 (by omega)
      rw [if_pos e, show (m : Int) + 1 = ((m + 1 : Nat) : Int) by omega] at hx
      refine X_keep (ih (m + 1) m (by omega) hx) ?_
      simp
    · have e : ¬ c = b := by intro e; apply h; rw [e]
      rw [if_neg e, show (m : Int) + 1 = ((m + 1 : Nat) : Int) by omega] at hx
      refine X_keep (ih (m + 1) st (by omega) hx) ?_
      simp
theorem octs_drop {m : Nat} (h : m < 11) : octs.drop m = ((m : Int) - 1) :: octs.drop (m + 1) := by
  have : m = 0 ∨ m = 1 ∨ m = 2 ∨ m = 3 ∨ m = 4 ∨ m = 5 ∨ m = 6 ∨ m = 7 ∨ m = 8 ∨ m = 9 ∨ m = 10 := by omega
  rcases this with rfl | rfl | rfl | rfl | rfl | rfl | rfl | rfl | rfl | rfl | rfl <;> rfl
def outD (st a n : Int) : SV := if valid st a n then .tuple [P3 st a n, .i 0, .i 0] else .tuple [P3 0 0 0, .i 0, .i 18]
theorem loop21b {F : List Fr} {P : SV × List Blk → Prop} (c : UInt8) (rest : List UInt8) (st a : Int) (hst : 0 ≤ st ∧ st ≤ 6) (hlt : letter st = c) (ha : -2 ≤ a ∧ a ≤ 2) : ∀ (r m : Nat) (Hx : List Blk), m + r = 11 →
    (match (octs.drop m).find? (fun o => sgn a ++ octL o == rest) with
      | some n => ∀ H, P (outD st a n, H)
      | none => ∀ Hx', X Y T21 [.cell 2 29, .tmp 3, .tmp 4] F (.exit 4) ⟨mk 48 .J [(0, .str (c :: rest)), (2, .ptr 0 0), (5, .i st), (7, .i a)], .box [.i 0, .i 0, .i 0] :: Hx'⟩ P) →
    X Y T21 [.cell 2 29, .tmp 3, .tmp 4] F (.loop (loopN Tryd.f21 2)) ⟨mk 48 .J [(0, .str (c :: rest)), (2, .ptr 0 0), (5, .i st), (7, .i a), (8, .i ((m : Int) - 1))], .box [.i 0, .i 0, .i 0] :: Hx⟩ P := by
  intro r
  induction r with
  | zero =>
    intro m Hx h1 hx
    have e1 : m = 11 := by omega
    subst e1
    apply X_loop_of
    · simp only [loopN, Tryd.f21, loopsOf, List.nil_append, List.append_nil, List.cons_append, List.getD_cons_succ, List.getD_cons_zero]; rfl
    simp
    have := hx Hx
    refine X_keep this ?_
    simp
  | succ r ih =>
    intro m Hx h1 hx
    have hm : m < 11 := by omega
    rw [octs_drop hm] at hx
    have q2 : ((m : Int) - 1 ≤ 9) := by omega
    have q3 : IntKind.i64.wrap ((m : Int) - 1 + 1) = ((m + 1 : Nat) : Int) - 1 := by rw [show ((m : Int) - 1 + 1) = ((m + 1 : Nat) : Int) - 1 by omega]; exact wrap64 (by omega) (by omega)
    have hin : inR st a ((m : Int) - 1) := ⟨hst.1, hst.2, ha.1, ha.2, by omega, by omega⟩
    generalize ho : (m : Int) - 1 = o at *
    apply X_loop_of
    · simp only [loopN, Tryd.f21, loopsOf, List.nil_append, List.append_nil, List.cons_append, List.getD_cons_succ, List.getD_cons_zero]; rfl
    by_cases he : sgn a ++ octL o = rest
    · have hn : nameL st a o = c :: rest := by rw [nameL, hlt, he]
      rw [List.find?_cons_of_pos (by simpa using he)] at hx
      simp only [outD] at hx
      by_cases hv : valid st a o
      · have e1 : ex st a o = true := if_pos hv
        rw [if_pos hv] at hx
        simp [-Int.natCast_add, T21_eq, F20, onQ, q2, q3, hin.1, hin.2.1, hin.2.2.1, hin.2.2.2.1, hin.2.2.2.2.1, hin.2.2.2.2.2, hn, e1]
        exact hx _
      · have e1 : ex st a o = false := if_neg hv
        rw [if_neg hv] at hx
        simp [-Int.natCast_add, T21_eq, F20, onQ, q2, q3, hin.1, hin.2.1, hin.2.2.1, hin.2.2.2.1, hin.2.2.2.2.1, hin.2.2.2.2.2, hn, e1]
        exact hx _
    · have hn : ¬ nameL st a o = c :: rest := by
        rw [nameL, hlt]
        intro e
        exact he (List.cons.inj e).2
      rw [List.find?_cons_of_neg (by simpa using he)] at hx
      simp [-Int.natCast_add, T21_eq, F20, onQ, q2, q3, hin.1, hin.2.1, hin.2.2.1, hin.2.2.2.1, hin.2.2.2.2.1, hin.2.2.2.2.2, hn]
      refine X_keep (ih (m + 1) _ (by omega) hx) ?_
      simp
theorem loop21c {F : List Fr} {P : SV × List Blk → Prop} (c : UInt8) (rest : List UInt8) (st : Int) (hst : 0 ≤ st ∧ st ≤ 6) (hlt : letter st = c) : ∀ (r m : Nat) (Hx : List Blk), m + r = 5 →
    (match firstC rest (([-2, -1, 0, 1, 2] : List Int).drop m) with
      | some (a, n) => ∀ H, P (outD st a n, H)
      | none => ∀ Hx', X Y T21 [.cell 2 29, .tmp 3, .tmp 4] F (.exit 2) ⟨mk 48 .J [(2, .ptr 0 0)], .box [.i 0, .i 0, .i 0] :: Hx'⟩ P) →
    X Y T21 [.cell 2 29, .tmp 3, .tmp 4] F (.loop (loopN Tryd.f21 1)) ⟨mk 48 .J [(0, .str (c :: rest)), (2, .ptr 0 0), (5, .i st), (7, .i ((m : Int) - 2))], .box [.i 0, .i 0, .i 0] :: Hx⟩ P := by
  intro r
  induction r with
  | zero =>
    intro m Hx h1 hx
    have e1 : m = 5 := by omega
    subst e1
    apply X_loop_of
    · simp only [loopN, Tryd.f21, loopsOf, List.nil_append, List.append_nil, List.cons_append, List.getD_cons_succ, List.getD_cons_zero]; rfl
    simp
    have := hx Hx
    refine X_keep this ?_
    simp
  | succ r ih =>
    intro m Hx h1 hx
    have hm : m < 5 := by omega
    rw [alts_drop hm, firstC] at hx
    have q2 : ((m : Int) - 2 ≤ 2) := by omega
    have q3 : IntKind.i64.wrap ((m : Int) - 2 + 1) = ((m + 1 : Nat) : Int) - 2 := by rw [show ((m : Int) - 2 + 1) = ((m + 1 : Nat) : Int) - 2 by omega]; exact wrap64 (by omega) (by omega)
    have ha : -2 ≤ (m : Int) - 2 ∧ (m : Int) - 2 ≤ 2 := by omega
    generalize ho : (m : Int) - 2 = a at *
    apply X_loop_of
    · simp only [loopN, Tryd.f21, loopsOf, List.nil_append, List.append_nil, List.cons_append, List.getD_cons_succ, List.getD_cons_zero]; rfl
    simp [-Int.natCast_add, q2]
    refine X_keep (loop21b c rest st a hst hlt ha 11 0 Hx (by omega) ?_) ?_
    · rw [List.drop_zero, octs_find octs (by decide) (fun o ho => by
        have := (cand_iff.1 ho).1
        have : o = -1 ∨ o = 0 ∨ o = 1 ∨ o = 2 ∨ o = 3 ∨ o = 4 ∨ o = 5 ∨ o = 6 ∨ o = 7 ∨ o = 8 ∨ o = 9 := by omega
        rcases this with rfl | rfl | rfl | rfl | rfl | rfl | rfl | rfl | rfl | rfl | rfl <;> decide)]
      cases hc : cand rest a with
      | some n => rw [hc] at hx; exact hx
      | none =>
        rw [hc] at hx
        intro Hx'
        simp [-Int.natCast_add, q3]
        refine X_keep (ih (m + 1) _ (by omega) hx) ?_
        simp
    · simp
theorem x21 (s : List UInt8) : XFn Y T21 Tryd.f21 [.str s] [] (Is (parseR s)) := by
  unfold XFn Tryd.f21
  rw [enter_1 _ (by decide)]
  cases s with
  | nil => simp [parseR]
  | cons c rest =>
    have hr := step_range c
    simp [-getElem?_pos, List.getElem?_cons_zero, List.getElem?_cons_succ]
    refine X_keep (loop21a _ c rest 7 0 (-1) (by omega) ?_) ?_
    · rw [List.drop_zero, show ((0 : Nat) : Int) = 0 from rfl, stepF_eq]
      by_cases hs : stepOf c < 0
      · simp [-Int.not_lt, parseR, hs]
      · have hlt : letter (stepOf c) = c := (step_letter c).resolve_left hs
        simp [-Int.not_lt, parseR, hs]
        refine X_keep (loop21c c rest (stepOf c) (by omega) hlt 5 0 [] (by omega) ?_) ?_
        · rw [List.drop_zero]
          cases hf : firstC rest [-2, -1, 0, 1, 2] with
          | none => intro Hx'; simp [outC]
          | some q =>
            obtain ⟨a, n⟩ := q
            intro H
            by_cases hv : valid (stepOf c) a n <;> simp [outC, outD, hv]
        · simp
    · simp
def F21 : List SV → Option SV
  | [.pv (.str s)] => some (parseR s)
  | _ => none
theorem meets21 (W0 : World) : OkAt W0 21 F21 := meets_fn env (tok21 W0) mixed Tryd.func21 (by kernel_rfl) (by kernel_rfl) fun args r h => by
  unfold F21 at h
  split at h
  · cases h; exact x21 _
  · cases h
end Go.Proofs.YthoampbpeiehhaaDoor
