/- Simple and its reference, by the machine. -/
import Derived.Test.YthoampbpeiehhaaDoorRespX
set_option linter.unusedSimpArgs false
set_option linter.unusedVariables false
set_option maxRecDepth 1000000
set_option maxHeartbeats 400000
namespace Go.Proofs.YthoampbpeiehhaaDoor
open Go.Pm
def altOf : List PV → Int
  | [.int _ _, .int _ a, .int _ _] => a
  | _ => 0
def firstA (w : Int) (L : List (List PV)) : Option (List PV) := L.find? fun q => altOf q == w
noncomputable def T30 : FuncId → Option Pm.Spec := tab [(12, .pure true F12)]
theorem T30_eq (g : Nat) : T30 g = tab [(12, .pure true F12)] g := rfl
theorem tok30 (W0 : World) : TOk Tryd.prog W0 T30 := tok_cons (meets12 W0) tok_nil
theorem first_or (w : Int) (L : List (List PV)) (hp : Pitches L) : (∃ qs qa qo, firstA w L = some (V3 qs qa qo)) ∨ firstA w L = none := by
  cases hf : firstA w L with
  | none => exact .inr rfl
  | some q =>
    obtain ⟨qs, qa, qo, rfl, _⟩ := hp q (List.mem_of_find?_eq_some hf)
    exact .inl ⟨qs, qa, qo, rfl⟩
/-- The inner loop: the first pitch with an alteration. -/
theorem loop30 {F : List Fr} {P : SV × List Blk → Prop} (w w2 : Int) (i : Nat) (L : List (List PV)) (hL : Pitches L) (hN : L.length ≤ 385) : ∀ (r m : Nat) (Hx : List Blk), m + r = L.length →
    (∀ Hx', match firstA w (L.drop m) with
      | some q => P (.tuple [.agg (q.map .pv), .i 0], .box (q.map .pv) :: .tok 0 29 :: Hx')
      | none => X Y T30 [.cell 4 29, .tmp 5] F (.exit 2) ⟨mk 44 .J [(4, .ptr 0 0), (6, .own 1 0 3 L), (24, .tight 1 [[.int .i64 0], [.int .i64 w2]]), (25, .i 2), (26, .i (i : Nat))], .box (Z3.map .pv) :: .tok 0 29 :: Hx'⟩ P) →
    X Y T30 [.cell 4 29, .tmp 5] F (.loop (loopN Tryd.f30 1)) ⟨mk 44 .J [(4, .ptr 0 0), (6, .own 1 0 3 L), (10, .i w), (24, .tight 1 [[.int .i64 0], [.int .i64 w2]]), (25, .i 2), (26, .i (i : Nat)), (30, .own 1 0 3 L), (31, .i L.length), (32, .i (m : Nat))], .box (Z3.map .pv) :: .tok 0 29 :: Hx⟩ P := by
  intro r
  induction r with
  | zero =>
    intro m Hx h1 hx
    have e1 : m = L.length := by omega
    subst e1
    apply X_loop_of
    · simp only [loopN, Tryd.f30, loopsOf, List.nil_append, List.append_nil, List.cons_append, List.getD_cons_succ, List.getD_cons_zero]; rfl
    simp
    have := hx Hx
    simp [firstA] at this
    refine X_keep this ?_
    simp
  | succ r ih =>
    intro m Hx h1 hx
    have hm : m < L.length := by omega
    have hg : L[m]? = some L[m] := List.getElem?_eq_getElem hm
    obtain ⟨qs, qa, qo, e, hv⟩ := hL L[m] (List.getElem_mem hm)
    rw [e] at hg
    have hd : L.drop m = V3 qs qa qo :: L.drop (m + 1) := by rw [List.drop_eq_getElem_cons hm, e]
    rw [hd] at hx
    have q2 : ((m : Int) < (L.length : Int)) := by omega
    have q3 : IntKind.i64.wrap ((m : Int) + 1) = ((m + 1 : Nat) : Int) := by rw [show ((m : Int) + 1) = ((m + 1 : Nat) : Int) by omega]; exact wrap64 (by omega) (by omega)
    apply X_loop_of
    · simp only [loopN, Tryd.f30, loopsOf, List.nil_append, List.append_nil, List.cons_append, List.getD_cons_succ, List.getD_cons_zero]; rfl
    simp [-Int.natCast_add, q2, q3, hg]
    refine ⟨fun he => ?_, fun he => ?_⟩
    · have := hx (Hx ++ [.box [.i qs, .i qa, .i qo]])
      rw [show firstA w (V3 qs qa qo :: L.drop (m + 1)) = some (V3 qs qa qo) from List.find?_cons_of_pos (by simpa [altOf] using he)] at this
      simpa using this
    · refine X_keep (ih (m + 1) _ (by omega) ?_) ?_
      · intro Hx'
        have := hx Hx'
        rw [show firstA w (V3 qs qa qo :: L.drop (m + 1)) = firstA w (L.drop (m + 1)) from List.find?_cons_of_neg (by simpa [altOf] using he)] at this
        exact this
      · simp
def simpR (n w : Int) : SV := if 0 ≤ n ∧ n ≤ 127 then (match firstA 0 (refE n) with
    | some q => .tuple [.agg (q.map .pv), .i 0]
    | none => match firstA w (refE n) with
      | some q => .tuple [.agg (q.map .pv), .i 0]
      | none => .tuple [P3 0 0 0, .i 18]) else .tuple [P3 0 0 0, .i 2]
theorem outer30 {F : List Fr} {P : SV × List Blk → Prop} (w : Int) (L : List (List PV)) (hp : Pitches L) (hl : L.length ≤ 385)
    (hx : ∀ Hx', match firstA 0 L with
      | some q => P (.tuple [.agg (q.map .pv), .i 0], .box (q.map .pv) :: .tok 0 29 :: Hx')
      | none => match firstA w L with
        | some q => P (.tuple [.agg (q.map .pv), .i 0], .box (q.map .pv) :: .tok 0 29 :: Hx')
        | none => X Y T30 [.cell 4 29, .tmp 5] F (.exit 0) ⟨mk 44 .J [(4, .ptr 0 0)], .box (Z3.map .pv) :: .tok 0 29 :: Hx'⟩ P) :
    X Y T30 [.cell 4 29, .tmp 5] F (.loop (loopN Tryd.f30 0)) ⟨mk 44 .J [(4, .ptr 0 0), (6, .own 1 0 3 L), (24, .tight 1 [[.int .i64 0], [.int .i64 w]]), (25, .i 2), (26, .i 0)], [.box (Z3.map .pv), .tok 0 29]⟩ P := by
  have w1 : IntKind.i64.wrap 1 = 1 := rfl
  have w2 : IntKind.i64.wrap 2 = 2 := rfl
  have w3 : IntKind.i64.wrap (0 + 1) = 1 := rfl
  have w4 : IntKind.i64.wrap (1 + 1) = 2 := rfl
  apply X_loop_of
  · simp only [loopN, Tryd.f30, loopsOf, List.nil_append, List.append_nil, List.cons_append, List.getD_cons_succ, List.getD_cons_zero]; rfl
  simp
  refine X_keep (loop30 0 w 0 L hp hl L.length 0 [] (by omega) ?_) ?_
  rotate_left
  · simp
  · intro Hx'
    rw [List.drop_zero]
    rcases first_or 0 L hp with ⟨qs, qa, qo, h0⟩ | h0
    · rw [h0]; have := hx Hx'; rw [h0] at this; exact this
    · rw [h0] at hx ⊢
      simp only [] at hx ⊢
      simp [w1, w3]
      apply X_loop_of
      · simp only [loopN, Tryd.f30, loopsOf, List.nil_append, List.append_nil, List.cons_append, List.getD_cons_succ, List.getD_cons_zero]; rfl
      simp
      refine X_keep (loop30 w w 1 L hp hl L.length 0 _ (by omega) ?_) ?_
      rotate_left
      · simp
      · intro Hx2
        rw [List.drop_zero]
        have := hx Hx2
        rcases first_or w L hp with ⟨qs, qa, qo, h1⟩ | h1
        · rw [h1]; rw [h1] at this; exact this
        · rw [h1] at this ⊢
          simp only [] at this ⊢
          simp [w2, w4]
          apply X_loop_of
          · simp only [loopN, Tryd.f30, loopsOf, List.nil_append, List.append_nil, List.cons_append, List.getD_cons_succ, List.getD_cons_zero]; rfl
          simp
          refine X_keep this ?_
          simp
theorem x30 (n : Int) (f : Bool) : XFn Y T30 Tryd.f30 [.i n, .bool f] [] (Is (simpR n (if f then -1 else 1))) := by
  unfold XFn Tryd.f30
  rw [enter_2 _ (by decide)]
  by_cases hn : 0 ≤ n ∧ n ≤ 127
  · have main : ∀ w : Int, ∀ Hx', match firstA 0 (refE n) with
      | some q => Is (simpR n w) (.tuple [.agg (q.map .pv), .i 0], .box (q.map .pv) :: .tok 0 29 :: Hx')
      | none => match firstA w (refE n) with
        | some q => Is (simpR n w) (.tuple [.agg (q.map .pv), .i 0], .box (q.map .pv) :: .tok 0 29 :: Hx')
        | none => Is (simpR n w) (.tuple [P3 0 0 0, .i 18], .box (Z3.map .pv) :: .tok 0 29 :: Hx') := by
      intro w Hx'
      unfold simpR
      rw [if_pos hn]
      rcases first_or 0 (refE n) (refE_p n) with ⟨qs, qa, qo, h0⟩ | h0
      · rw [h0]; simp
      · rw [h0]
        rcases first_or w (refE n) (refE_p n) with ⟨qs, qa, qo, h1⟩ | h1
        · rw [h1]; simp
        · rw [h1]; simp
    cases f
    · simp [T30_eq, F12, enhR, hn]
      refine X_keep (outer30 1 (refE n) (refE_p n) (refE_len n) ?_) ?_
      · intro Hx'
        have := main 1 Hx'
        rcases first_or 0 (refE n) (refE_p n) with ⟨qs, qa, qo, h0⟩ | h0
        · rw [h0] at this ⊢; exact this
        · rw [h0] at this ⊢
          rcases first_or 1 (refE n) (refE_p n) with ⟨qs, qa, qo, h1⟩ | h1
          · simp only [] at this ⊢; rw [h1] at this ⊢; exact this
          · simp only [] at this ⊢; rw [h1] at this ⊢; simp; simpa using this
      · simp
    · simp [T30_eq, F12, enhR, hn]
      refine X_keep (outer30 (-1) (refE n) (refE_p n) (refE_len n) ?_) ?_
      · intro Hx'
        have := main (-1) Hx'
        rcases first_or 0 (refE n) (refE_p n) with ⟨qs, qa, qo, h0⟩ | h0
        · rw [h0] at this ⊢; exact this
        · rw [h0] at this ⊢
          rcases first_or (-1) (refE n) (refE_p n) with ⟨qs, qa, qo, h1⟩ | h1
          · simp only [] at this ⊢; rw [h1] at this ⊢; exact this
          · simp only [] at this ⊢; rw [h1] at this ⊢; simp; simpa using this
      · simp
  · have hs : simpR n (if f then -1 else 1) = .tuple [P3 0 0 0, .i 2] := if_neg hn
    rw [hs]
    simp [T30_eq, F12, enhR, hn]

def F30 : List SV → Option SV
  | [.pv (.int .i64 n), .pv (.bool f)] => some (simpR n (if f then -1 else 1))
  | _ => none
theorem meets30 (W0 : World) : OkAt W0 30 F30 := meets_fn env (tok30 W0) mixed Tryd.func30 (by kernel_rfl) (by kernel_rfl) fun args r h => by
  unfold F30 at h
  split at h
  · cases h; exact x30 _ _
  · cases h

/-- The reference's choice. -/
def goS (w : Int) : List (List PV) → List PV → List PV
  | [], out => out
  | q :: r, out => if altOf q = 0 then q else goS w r (if altOf q = w then q else out)
noncomputable def T31 : FuncId → Option Pm.Spec := tab [(14, .pure true F14)]
theorem T31_eq (g : Nat) : T31 g = tab [(14, .pure true F14)] g := rfl
theorem tok31 (W0 : World) : TOk Tryd.prog W0 T31 := tok_cons (meets14 W0) tok_nil
theorem loop31 {F : List Fr} {P : SV × List Blk → Prop} (w : Int) (L : List (List PV)) (hL : Pitches L) (hN : L.length ≤ 385) : ∀ (r m : Nat) (s a o : Int), m + r = L.length →
    (∀ H, P (.agg ((goS w (L.drop m) (V3 s a o)).map .pv), H)) →
    (X Y T31 [.cell 4 29] F (.exit 0) ⟨mk 41 .J [(4, .ptr 0 0), (7, .ptr 2 0)], [.box (Z3.map .pv), .tok 0 29, .box ((goS w (L.drop m) (V3 s a o)).map .pv)]⟩ P) →
    X Y T31 [.cell 4 29] F (.loop (loopN Tryd.f31 0)) ⟨mk 41 .J [(4, .ptr 0 0), (5, .own 1 0 3 L), (6, .i w), (7, .ptr 2 0), (8, .i (m : Nat))], [.box (Z3.map .pv), .tok 0 29, .box [.i s, .i a, .i o]]⟩ P := by
  intro r
  induction r with
  | zero =>
    intro m s a o h1 hP hx
    have e1 : m = L.length := by omega
    subst e1
    apply X_loop_of
    · simp only [loopN, Tryd.f31, loopsOf, List.nil_append, List.append_nil, List.cons_append, List.getD_cons_succ, List.getD_cons_zero]; rfl
    simp
    simp [goS] at hx
    refine X_keep hx ?_
    simp
  | succ r ih =>
    intro m s a o h1 hP hx
    have hm : m < L.length := by omega
    have hg : L[m]? = some L[m] := List.getElem?_eq_getElem hm
    obtain ⟨qs, qa, qo, e, hv⟩ := hL L[m] (List.getElem_mem hm)
    rw [e] at hg
    have hd : L.drop m = V3 qs qa qo :: L.drop (m + 1) := by rw [List.drop_eq_getElem_cons hm, e]
    rw [hd] at hx hP
    have q2 : ((m : Int) < (L.length : Int)) := by omega
    have q3 : IntKind.i64.wrap ((m : Int) + 1) = ((m + 1 : Nat) : Int) := by rw [show ((m : Int) + 1) = ((m + 1 : Nat) : Int) by omega]; exact wrap64 (by omega) (by omega)
    apply X_loop_of
    · simp only [loopN, Tryd.f31, loopsOf, List.nil_append, List.append_nil, List.cons_append, List.getD_cons_succ, List.getD_cons_zero]; rfl
    simp [-Int.natCast_add, q2, q3, hg]
    refine ⟨fun he => ?_, fun he => ⟨fun hw => ?_, fun hw => ?_⟩⟩
    · have := hP [.box [.i qs, .i qa, .i qo], .tok 0 29, .box [.i s, .i a, .i o]]
      rw [show goS w (V3 qs qa qo :: L.drop (m + 1)) (V3 s a o) = V3 qs qa qo from if_pos he] at this
      simpa using this
    · have e2 : goS w (V3 qs qa qo :: L.drop (m + 1)) (V3 s a o) = goS w (L.drop (m + 1)) (V3 qs qa qo) := by
        rw [goS, if_neg (show ¬ altOf (V3 qs qa qo) = 0 from he), if_pos (show altOf (V3 qs qa qo) = w from hw)]
      rw [e2] at hP hx
      refine X_keep (ih (m + 1) qs qa qo (by omega) hP hx) ?_
      simp
    · have e2 : goS w (V3 qs qa qo :: L.drop (m + 1)) (V3 s a o) = goS w (L.drop (m + 1)) (V3 s a o) := by
        rw [goS, if_neg (show ¬ altOf (V3 qs qa qo) = 0 from he), if_neg (show ¬ altOf (V3 qs qa qo) = w from hw)]
      rw [e2] at hP hx
      refine X_keep (ih (m + 1) s a o (by omega) hP hx) ?_
      simp
theorem goS_v3 (w : Int) : ∀ (L : List (List PV)) (s a o : Int), Pitches L → ∃ x y z, goS w L (V3 s a o) = V3 x y z
  | [], s, a, o, _ => ⟨s, a, o, rfl⟩
  | q :: r, s, a, o, h => by
    obtain ⟨qs, qa, qo, rfl, _⟩ := h q (by simp)
    have hr : Pitches r := fun x hx => h x (by simp [hx])
    rw [goS]
    split
    · exact ⟨_, _, _, rfl⟩
    · split
      · exact goS_v3 w r _ _ _ hr
      · exact goS_v3 w r _ _ _ hr
theorem x31 (n : Int) (hn : 0 ≤ n ∧ n ≤ 127) (f : Bool) : XFn Y T31 Tryd.f31 [.i n, .bool f] [] (Is (.agg ((goS (if f then -1 else 1) (refE n) Z3).map .pv))) := by
  unfold XFn Tryd.f31
  rw [enter_2 _ (by decide)]
  have hne := (enh_row hn).2
  cases f
  · obtain ⟨x, y, z, hz⟩ := goS_v3 1 (refE n) 0 0 0 (refE_p n)
    simp [T31_eq, F14, hne]
    refine X_keep (loop31 1 (refE n) (refE_p n) (refE_len n) (refE n).length 0 0 0 0 (by omega) ?_ ?_) ?_
    · intro H; rw [List.drop_zero, hz]; simp
    · rw [List.drop_zero, hz]; simp
    · simp
  · obtain ⟨x, y, z, hz⟩ := goS_v3 (-1) (refE n) 0 0 0 (refE_p n)
    simp [T31_eq, F14, hne]
    refine X_keep (loop31 (-1) (refE n) (refE_p n) (refE_len n) (refE n).length 0 0 0 0 (by omega) ?_ ?_) ?_
    · intro H; rw [List.drop_zero, hz]; simp
    · rw [List.drop_zero, hz]; simp
    · simp
def F31 : List SV → Option SV
  | [.pv (.int .i64 n), .pv (.bool f)] => if 0 ≤ n ∧ n ≤ 127 then some (.agg ((goS (if f then -1 else 1) (refE n) Z3).map .pv)) else none
  | _ => none
theorem meets31 (W0 : World) : OkAt W0 31 F31 := meets_fn env (tok31 W0) mixed Tryd.func31 (by kernel_rfl) (by kernel_rfl) fun args r h => by
  unfold F31 at h
  split at h
  · split at h
    · cases h; rename_i hn; exact x31 _ hn _
    · cases h
  · cases h
/-- The two choices are one, at every number. -/
def chosen (w : Int) (L : List (List PV)) : Bool := match firstA 0 L with
  | some q => pvEq q (goS w L Z3)
  | none => match firstA w L with
    | some q => pvEq q (goS w L Z3)
    | none => false
theorem chosen_all : (List.range 128).all (fun n => chosen 1 (rowO (n : Int) 5) && chosen (-1) (rowO (n : Int) 5)) = true := by kernel_rfl
theorem simp_ref {n : Int} (hn : 0 ≤ n ∧ n ≤ 127) {w : Int} (hw : w = 1 ∨ w = -1) : simpR n w = .tuple [.agg ((goS w (refE n) Z3).map .pv), .i 0] := by
  have h1 := List.all_eq_true.1 chosen_all n.toNat (by simp; omega)
  rw [show ((n.toNat : Nat) : Int) = n by omega, (enh_row hn).1] at h1
  simp only [Bool.and_eq_true] at h1
  have h2 : chosen w (refE n) = true := by rcases hw with rfl | rfl; exact h1.1; exact h1.2
  unfold simpR
  rw [if_pos hn]
  unfold chosen at h2
  rcases first_or 0 (refE n) (refE_p n) with ⟨qs, qa, qo, h0⟩ | h0
  · rw [h0] at h2 ⊢
    simp only [] at h2 ⊢
    rw [← pvEq_eq h2]
  · rw [h0] at h2 ⊢
    simp only [] at h2 ⊢
    rcases first_or w (refE n) (refE_p n) with ⟨qs, qa, qo, h3⟩ | h3
    · rw [h3] at h2 ⊢
      simp only [] at h2 ⊢
      rw [← pvEq_eq h2]
    · rw [h3] at h2; simp at h2
noncomputable def T10 : FuncId → Option Pm.Spec := tab [(13, .pure false F13), (30, .pure false F30), (31, .pure false F31)]
theorem T10_eq (g : Nat) : T10 g = tab [(13, .pure false F13), (30, .pure false F30), (31, .pure false F31)] g := rfl
theorem tok10 {W0 : World} (L : Laid W0) : TOk Tryd.prog W0 T10 := tok_cons (meets13 L) (tok_cons (meets30 W0) (tok_cons (meets31 W0) tok_nil))
theorem run10 (n : Int) (f : Bool) (_h : -9223372036854775808 ≤ n ∧ n ≤ 9223372036854775807) : XFn Y T10 Tryd.f10 [.i n, .bool f] [] (Is (.bool true)) := by
  unfold XFn Tryd.f10
  rw [enter_2 _ (by decide)]
  by_cases hn : 0 ≤ n ∧ n ≤ 127
  · have h1 : ¬ n < 0 := by omega
    have h2 : ¬ 127 < n := by omega
    cases f
    · have hs := simp_ref hn (w := 1) (.inl rfl)
      obtain ⟨x, y, z, hz⟩ := goS_v3 1 (refE n) 0 0 0 (refE_p n)
      rw [hz] at hs
      simp [T10_eq, F13, F30, F31, hs, hz, hn, h1, h2, -Int.not_lt]
    · have hs := simp_ref hn (w := -1) (.inr rfl)
      obtain ⟨x, y, z, hz⟩ := goS_v3 (-1) (refE n) 0 0 0 (refE_p n)
      rw [hz] at hs
      simp [T10_eq, F13, F30, F31, hs, hz, hn, h1, h2, -Int.not_lt]
  · have hs : simpR n (if f then -1 else 1) = .tuple [P3 0 0 0, .i 2] := if_neg hn
    by_cases h1 : n < 0
    · simp [T10_eq, F13, F30, hs, h1, -Int.not_lt]
    · have h2 : 127 < n := by omega
      simp [T10_eq, F13, F30, hs, h1, h2, -Int.not_lt]
end Go.Proofs.YthoampbpeiehhaaDoor
