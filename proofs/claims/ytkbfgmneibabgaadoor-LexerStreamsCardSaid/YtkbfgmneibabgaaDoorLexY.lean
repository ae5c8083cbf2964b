/- Same, and its law, by the machine. -/
import Derived.Test.YtkbfgmneibabgaaDoorLexV
set_option linter.unusedSimpArgs false
set_option linter.unusedVariables false
set_option maxRecDepth 1000000
set_option maxHeartbeats 1000000
namespace Go.Proofs.YtkbfgmneibabgaaDoor
open Go Go.Pm Go.RowKit
open LexP hiding place Sep Run
/-- A row of the program's, as it is read. -/
structure RowF (t : TypeId) (x : SV) (es : List (List PV)) : Prop where
  len : aLen Y t x = some es.length
  at_ : ∀ (i : Nat) (a : List PV), es[i]? = some a → aIndexAddr Y t x (i : Int) = some (.cptr a)
  live : live x = some x
theorem rowF_nil : RowF 23 (.pv .nilSlice) [] := ⟨by simp [sliceElems], fun i a h => by simp at h, rfl⟩
theorem rowF_slice (es : List (List PV)) : RowF 23 (.pv (.slice 7 es)) es := ⟨by simp [sliceElems], fun i a h => by simp [-getElem?_pos, h], rfl⟩
theorem rowF_own (k v : Nat) (es : List (List PV)) : RowF 23 (.own k v 7 es) es := ⟨by simp [sliceElems], fun i a h => by simp [-getElem?_pos, h], rfl⟩
/-- A token without its place. -/
def decC : List PV → Option Core
  | [.int .i64 k, .str tx, .int .i64 v, .str b, .int .i64 _, .int .i64 _, .bool j] => some (k, tx, v, b, j)
  | _ => none
def decR : List (List PV) → Option (List Core)
  | [] => some []
  | a :: r => match decC a, decR r with
    | some c, some l => some (c :: l)
    | _, _ => none
theorem decC_of {a : List PV} {c : Core} (h : decC a = some c) : ∃ l co : Int, a = [.int .i64 c.1, .str c.2.1, .int .i64 c.2.2.1, .str c.2.2.2.1, .int .i64 l, .int .i64 co, .bool c.2.2.2.2] := by
  unfold decC at h
  split at h
  · cases h; exact ⟨_, _, rfl⟩
  · cases h
theorem decR_of : ∀ {es : List (List PV)} {cs : List Core}, decR es = some cs → es.length = cs.length ∧ ∀ (i : Nat) (a : List PV), es[i]? = some a → ∃ c, decC a = some c ∧ cs[i]? = some c
  | [], cs, h => by cases h; exact ⟨rfl, fun i a h => by simp at h⟩
  | a :: r, cs, h => by
    unfold decR at h
    split at h
    · rename_i c l hc hl
      cases h
      obtain ⟨h1, h2⟩ := decR_of hl
      refine ⟨by simp [h1], fun i a' hi => ?_⟩
      cases i with
      | zero => simp at hi; subst hi; exact ⟨c, hc, rfl⟩
      | succ i => simp at hi; simpa using h2 i a' hi
    · cases h
theorem decR_tk (s : Bs) : ∀ m : List Tk, decR (tkRow s m) = some (m.map Tk.core)
  | [] => rfl
  | t :: m => by
    show decR (tkC s t :: tkRow s m) = _
    simp only [decR, decR_tk s m]
    rfl
def F48 : List SV → Option SV
  | [.agg [.pv (.int .i64 k), .pv (.str t), .pv (.int .i64 v), .pv (.str b), .pv (.int .i64 _), .pv (.int .i64 _), .pv (.bool j)], .agg [.pv (.int .i64 k'), .pv (.str t'), .pv (.int .i64 v'), .pv (.str b'), .pv (.int .i64 _), .pv (.int .i64 _), .pv (.bool j')]] =>
    some (.bool (decide (((k, t, v, b, j) : Core) = (k', t', v', b', j'))))
  | _ => none
theorem core_dec (k k' : Int) (t t' : Bs) (v v' : Int) (b b' : Bs) (j j' : Bool) : decide (((k, t, v, b, j) : Core) = (k', t', v', b', j')) = ((k == k') && ((t == t') && ((v == v') && ((b == b') && (j == j'))))) := by
  rw [beqZ, beqZ]
  by_cases h1 : k = k' <;> by_cases h2 : t = t' <;> by_cases h3 : v = v' <;> by_cases h4 : b = b' <;> by_cases h5 : j = j' <;> simp [h1, h2, h3, h4, h5]
theorem meets48 (W0 : World) : OkAt W0 48 F48 := meets_fn env tok_nil mixed Tryd.func48 (by kernel_rfl) (by kernel_rfl) fun args r h => by
  unfold F48 at h
  split at h
  · cases h
    rw [core_dec]
    have g0 : ∀ a b : Blk, ([a, b] : List Blk)[0]? = some a := fun a b => rfl
    unfold XFn Tryd.f48
    rw [enter_2 _ (by decide)]
    simp [Is_mk, outR, outP]
  · cases h
/-- EqualFunc at two rows of tokens. -/
def rowsOf : SV → Option (List (List PV))
  | .pv .nilSlice => some []
  | .pv (.slice s es) => if s = 7 then some es else none
  | _ => none
theorem rowsOf_F {x : SV} {es : List (List PV)} (h : rowsOf x = some es) : RowF 23 x es := by
  unfold rowsOf at h
  split at h
  · cases h; exact rowF_nil
  · split at h
    · rename_i e; subst e; cases h; exact rowF_slice _
    · cases h
  · cases h
noncomputable def T47 : FuncId → Option Pm.Spec := tab [(48, .pure false F48)]
theorem T47_eq (g : Nat) : T47 g = tab [(48, .pure false F48)] g := rfl
theorem tok47 (W0 : World) : TOk Tryd.prog W0 T47 := tok_cons (meets48 W0) tok_nil
theorem loop47 {F : List Fr} {P : SV × List Blk → Prop} {x y : SV} {ea eb : List (List PV)} {ca cb : List Core} (hx : RowF 23 x ea) (hy : RowF 23 y eb) (ha : decR ea = some ca) (hb : decR eb = some cb) (hl : ca.length = cb.length) (hm : ca.length ≤ 10000000) :
    ∀ (ra rb pa pb : List Core) (H : List Blk), pa ++ ra = ca → pb ++ rb = cb → pa.length = pb.length → (∀ H', ra ≠ rb → P (.bool false, H')) → (∀ H', ra = rb → X Y T47 [.tmp 6] F (.exit 0) ⟨mk 32 .J [], H'⟩ P) →
    X Y T47 [.tmp 6] F (.loop (loopN Tryd.f47 0)) ⟨mk 32 .J [(1, y), (2, .pv (.fn 48)), (15, x), (16, .i ea.length), (17, .i pa.length)], H⟩ P
  | [], rb, pa, pb, H, h1, h2, h3, hp, he => by
    have e1 : pa.length = ca.length := by rw [← h1]; simp
    have e2 : rb = [] := by
      have := congrArg List.length h2
      simp at this
      exact List.length_eq_zero_iff.1 (by omega)
    subst e2
    have e3 : (pa.length : Int) = (ea.length : Int) := by rw [(decR_of ha).1]; omega
    have hq := he H rfl
    apply X_loop_of
    · simp only [loopN, Tryd.f47, loopsOf, List.nil_append, List.append_nil, List.cons_append, List.getD_cons_succ, List.getD_cons_zero]; rfl
    rw [e3]
    simp
    refine X_keep hq ?_
    simp
  | c :: ra, [], pa, pb, H, h1, h2, h3, hp, he => by
    have e1 := congrArg List.length h1
    have e2 := congrArg List.length h2
    simp at e1 e2
    omega
  | c :: ra, d :: rb, pa, pb, H, h1, h2, h3, hp, he => by
    have la := (decR_of ha).1
    have lb := (decR_of hb).1
    have n1 : ca.length = pa.length + (ra.length + 1) := by rw [← h1]; simp
    have ia : ea[pa.length]? = some ea[pa.length] := by simp
    have ib : eb[pa.length]? = some eb[pa.length] := by simp
    generalize ea[pa.length] = a at ia
    generalize eb[pa.length] = b at ib
    obtain ⟨c', k1, k2⟩ := (decR_of ha).2 _ _ ia
    obtain ⟨d', k3, k4⟩ := (decR_of hb).2 _ _ ib
    have q1 : ca[pa.length]? = some c := by rw [← h1]; simp
    have q2 : cb[pa.length]? = some d := by rw [← h2, h3]; simp
    rw [q1] at k2
    rw [q2] at k4
    cases k2; cases k4
    obtain ⟨l1, o1, rfl⟩ := decC_of k1
    obtain ⟨l2, o2, rfl⟩ := decC_of k3
    have ra1 := hx.at_ _ _ ia
    have rb1 := hy.at_ _ _ ib
    have lt : (pa.length : Int) < (ea.length : Int) := by omega
    have ltn : pa.length < ea.length := by omega
    have w1 : IntKind.i64.wrap ((pa.length : Int) + 1) = ((pa ++ [c]).length : Int) := by rw [wrap64 (by omega) (by omega)]; simp
    have hF : F48 [.agg [.pv (.int .i64 c.1), .pv (.str c.2.1), .pv (.int .i64 c.2.2.1), .pv (.str c.2.2.2.1), .pv (.int .i64 l1), .pv (.int .i64 o1), .pv (.bool c.2.2.2.2)], .agg [.pv (.int .i64 d.1), .pv (.str d.2.1), .pv (.int .i64 d.2.2.1), .pv (.str d.2.2.2.1), .pv (.int .i64 l2), .pv (.int .i64 o2), .pv (.bool d.2.2.2.2)]] = some (.bool (decide (c = d))) := rfl
    have q3 : T47 2 = none := rfl
    have g0 : ∀ a b : Blk, (H ++ [a, b])[H.length]? = some a := fun a b => by simp
    have g1 : ∀ a b : Blk, (H ++ [a, b])[H.length + 1]? = some b := fun a b => by simp
    apply X_loop_of
    · simp only [loopN, Tryd.f47, loopsOf, List.nil_append, List.append_nil, List.cons_append, List.getD_cons_succ, List.getD_cons_zero]; rfl
    by_cases hcd : c = d
    · have ih := fun H' => loop47 (F := F) (P := P) hx hy ha hb hl hm ra rb (pa ++ [c]) (pb ++ [d]) H' (by rw [← h1]; simp) (by rw [← h2]; simp) (by simp [h3]) (fun H' h => hp H' (by simpa [hcd] using h)) (fun H' h => he H' (by simp [hcd, h]))
      rw [decide_eq_true hcd] at hF
      generalize ((pa ++ [c]).length : Int) = E at *
      simp [-aLen, -aIndexAddr, hx.len, hy.len, hx.live, hy.live, lt, ltn, ra1, rb1, w1, T47_eq, q3, hF, g0, g1, set_last, get_last]
      refine X_keep (ih _) ?_
      simp
    · have hq := fun H' => hp H' (by simp [hcd])
      rw [decide_eq_false hcd] at hF
      generalize ((pa ++ [c]).length : Int) = E at *
      simp [-aLen, -aIndexAddr, hx.len, hy.len, hx.live, hy.live, lt, ltn, ra1, rb1, w1, T47_eq, q3, hF, g0, g1, set_last, get_last, hq]
def F47 : List SV → Option SV
  | [x, y, .pv (.fn f)] => match rowsOf x, rowsOf y with
    | some ea, some eb => match decR ea, decR eb with
      | some ca, some cb => if f = 48 ∧ ca.length ≤ 10000000 ∧ cb.length ≤ 10000000 then some (.bool (decide (ca = cb))) else none
      | _, _ => none
    | _, _ => none
  | _ => none
theorem meets47 (W0 : World) : OkAt W0 47 F47 := meets_fn env (tok47 W0) mixed Tryd.func47 (by kernel_rfl) (by kernel_rfl) fun args r h => by
  unfold F47 at h
  split at h
  · rename_i x y f
    split at h
    · rename_i ea eb h1 h2
      split at h
      · rename_i ca cb h3 h4
        split at h
        · rename_i hc
          cases h
          obtain ⟨rfl, hc1, hc2⟩ := hc
          have hx := rowsOf_F h1
          have hy := rowsOf_F h2
          have la := (decR_of h3).1
          have lb := (decR_of h4).1
          unfold XFn Tryd.f47
          rw [enter_3 _ (by decide)]
          by_cases hl : ca.length = cb.length
          · have q : ¬ (ea.length : Int) ≠ (eb.length : Int) := by omega
            have q' : (ea.length : Int) = (eb.length : Int) := by omega
            have q'' : ea.length = eb.length := by omega
            have L := fun F P => loop47 (F := F) (P := P) hx hy h3 h4 hl hc1 ca cb [] [] [] rfl rfl rfl
            simp [-aLen, -aIndexAddr, hx.len, hy.len, hx.live, hy.live, q'']
            rw [q''] at L
            refine X_keep (L _ _ ?_ ?_) ?_
            · intro H' hn
              simp [hn, Is_mk, outR, outP]
            · intro H' hn
              simp [hn, Is_mk, outR, outP]
            · simp
          · have q : ¬ (ea.length : Int) = (eb.length : Int) := by omega
            have q'' : ¬ ea.length = eb.length := by omega
            have hne : ¬ ca = cb := fun e => hl (by rw [e])
            simp [-aLen, -aIndexAddr, hx.len, hy.len, hx.live, hy.live, q, q'', hne, Is_mk, outR, outP]
        · cases h
      · cases h
    · cases h
  · cases h
def F19 : List SV → Option SV
  | [x, y] => F47 [x, y, .pv (.fn 48)]
  | _ => none
noncomputable def T19 : FuncId → Option Pm.Spec := tab [(47, .pure false F47)]
theorem T19_eq (g : Nat) : T19 g = tab [(47, .pure false F47)] g := rfl
theorem tok19 (W0 : World) : TOk Tryd.prog W0 T19 := tok_cons (meets47 W0) tok_nil
theorem F47_rows {x y r : SV} (h : F47 [x, y, .pv (.fn 48)] = some r) : ∃ ea eb, rowsOf x = some ea ∧ rowsOf y = some eb ∧ ∃ b : Bool, r = .bool b := by
  simp only [F47] at h
  split at h
  · rename_i ea eb h1 h2
    split at h
    · split at h
      · cases h; exact ⟨ea, eb, h1, h2, _, rfl⟩
      · cases h
    · cases h
  · cases h
theorem rowsOf_pur {x : SV} {es : List (List PV)} (h : rowsOf x = some es) : pur x = some x ∧ live x = some x := by
  unfold rowsOf at h
  split at h
  · exact ⟨rfl, rfl⟩
  · exact ⟨rfl, rfl⟩
  · cases h
theorem meets19 (W0 : World) : OkAt W0 19 F19 := meets_fn env (tok19 W0) mixed Tryd.func19 (by kernel_rfl) (by kernel_rfl) fun args r h => by
  unfold F19 at h
  split at h
  · rename_i x y
    obtain ⟨ea, eb, h1, h2, b, rfl⟩ := F47_rows h
    have px := rowsOf_pur h1
    have py := rowsOf_pur h2
    have q2 : T19 2 = none := rfl
    have pf : pur (.pv (.fn 48)) = some (.pv (.fn 48)) := rfl
    unfold XFn Tryd.f19
    rw [enter_2 _ (by decide)]
    simp [px, py, pf, q2, T19_eq, h, purL, -pur, Is_mk, outR, outP]
  · cases h
end Go.Proofs.YtkbfgmneibabgaaDoor
