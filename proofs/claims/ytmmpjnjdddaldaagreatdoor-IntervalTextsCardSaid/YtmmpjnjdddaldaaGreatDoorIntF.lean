/- Closures that look into their captures: the distance to the goal, the comparison; slices.MinFunc, by the machine. -/
import Derived.Test.YtmmpjnjdddaldaaGreatDoorIntE
set_option linter.unusedSimpArgs false
set_option linter.unusedVariables false
set_option maxRecDepth 1000000
set_option maxHeartbeats 400000
namespace Go.Proofs.YtmmpjnjdddaldaaGreatDoor
open Go Go.Pm Go.RowKit
abbrev OkRd (W0 : World) (g : Nat) (F : List SV → Option PV) : Prop := Enterable Tryz.prog g ∧ Meets Tryz.prog W0 g (specFn (.read F))
/-- The mark of a table whose calls by value leave the heap: the cut's initialiser, of which nothing is said. -/
def F0 : List SV → Option PV := fun _ => none
theorem meets2 (W0 : World) : OkRd W0 2 F0 := by
  refine ⟨enterable_of Tryz.func2 (by kernel_rfl), fun C args vs r H' h => ?_⟩
  exfalso
  simp only [specFn, F0] at h
  split at h <;> cases h
/-- The distance. -/
def distZ (p g : Int) : Int := if g - p > p - g then g - p else p - g
noncomputable def T37 : FuncId → Option Pm.Spec := tab [(45, .pure false F38)]
theorem T37_eq (g : Nat) : T37 g = tab [(45, .pure false F38)] g := rfl
def F37 : List SV → Option PV
  | [.agg [.pv (.int .i64 s), .pv (.int .i64 a), .pv (.int .i64 o)], .tuple [.pv (.int .i64 g)]] => if inR s a o ∧ (-1000 ≤ g ∧ g ≤ 1000) then some (.int .i64 (distZ (posZ s o) g)) else none
  | _ => none
theorem res_pv {H : List Blk} {n : Nat} {s : SV} {p : PV} (h : resC H n s = some (.pv p)) : s = .pv p := by
  cases n with
  | zero => cases s <;> simp [resC] at h; rw [h]
  | succ n =>
    cases s <;> simp only [resC] at h <;> try (cases h; done)
    · cases h; rfl
    · split at h
      · split at h
        · simp at h
        · cases h
      · cases h
    · simp at h
    · simp at h
theorem res_agg {H : List Blk} {n : Nat} {s : SV} {l : List SV} (h : resC H n s = some (.agg l)) : ∃ cs m, s = .agg cs ∧ resCs (resC H m) cs = some l := by
  cases n with
  | zero => cases s <;> simp [resC] at h
  | succ n =>
    cases s <;> simp only [resC] at h <;> try (cases h; done)
    · split at h
      · split at h
        · simp at h
        · cases h
      · cases h
    · rename_i cs
      cases hc : resCs (resC H n) cs <;> simp [hc] at h
      subst h
      exact ⟨cs, n, rfl, hc⟩
    · simp at h
theorem res_ptr {H : List Blk} {n : Nat} {s : SV} {l : List SV} (h : resC H n s = some (.tuple l)) : ∃ k cs m, s = .ptr k 0 ∧ H[k]? = some (.box cs) ∧ resCs (resC H m) cs = some l := by
  cases n with
  | zero => cases s <;> simp [resC] at h
  | succ n =>
    cases s <;> simp only [resC] at h <;> try (cases h; done)
    · rename_i k off
      split at h
      · rename_i h0
        subst h0
        split at h
        · rename_i cs hk
          cases hc : resCs (resC H n) cs <;> simp [hc] at h
          subst h
          exact ⟨k, cs, n, rfl, hk, hc⟩
        · cases h
      · cases h
    · simp at h
    · simp at h
theorem res_clo {H : List Blk} {n : Nat} {s : SV} {g : FuncId} {l : List SV} (h : resC H n s = some (.clo g l)) : ∃ cs m, s = .clo g cs ∧ resCs (resC H m) cs = some l := by
  cases n with
  | zero => cases s <;> simp [resC] at h
  | succ n =>
    cases s <;> simp only [resC] at h <;> try (cases h; done)
    · split at h
      · split at h
        · simp at h
        · cases h
      · cases h
    · simp at h
    · rename_i cs
      cases hc : resCs (resC H n) cs <;> simp [hc] at h
      obtain ⟨rfl, rfl⟩ := h
      exact ⟨cs, n, rfl, hc⟩
theorem resCs_cons {f : SV → Option SV} {l : List SV} {a : SV} {r : List SV} (h : resCs f l = some (a :: r)) : ∃ c cs, l = c :: cs ∧ f c = some a ∧ resCs f cs = some r := by
  cases l with
  | nil => simp [resCs] at h
  | cons c cs =>
    simp only [resCs] at h
    split at h
    · rename_i p hp
      split at h
      · rename_i ps hps
        cases h
        exact ⟨c, cs, rfl, hp, hps⟩
      · cases h
    · cases h
theorem resCs_nil {f : SV → Option SV} {l : List SV} (h : resCs f l = some []) : l = [] := by
  cases l with
  | nil => rfl
  | cons c cs =>
    simp only [resCs] at h
    split at h
    · split at h <;> cases h
    · cases h
theorem res_P {H : List Blk} {n : Nat} {c : SV} {s a o : Int} (h : resC H n c = some (.agg [.pv (.int .i64 s), .pv (.int .i64 a), .pv (.int .i64 o)])) : c = P3 s a o := by
  obtain ⟨cs, m, rfl, k⟩ := res_agg h
  obtain ⟨c1, cs, rfl, h1, k⟩ := resCs_cons k
  obtain ⟨c2, cs, rfl, h2, k⟩ := resCs_cons k
  obtain ⟨c3, cs, rfl, h3, k⟩ := resCs_cons k
  have := resCs_nil k
  subst this
  rw [res_pv h1, res_pv h2, res_pv h3]
theorem res_box {H : List Blk} {n : Nat} {c : SV} {g : Int} (h : resC H n c = some (.tuple [.pv (.int .i64 g)])) : ∃ k, c = .ptr k 0 ∧ H[k]? = some (.box [.i g]) := by
  obtain ⟨k, cs, m, rfl, hk, h⟩ := res_ptr h
  obtain ⟨c1, cs, rfl, h1, h'⟩ := resCs_cons h
  have := resCs_nil h'
  subst this
  rw [res_pv h1] at hk
  exact ⟨k, rfl, hk⟩
theorem x37 (s a o g : Int) (h : inR s a o) (hg : -1000 ≤ g ∧ g ≤ 1000) (H : List Blk) (k : Nat) (hk : H[k]? = some (.box [.i g])) :
    XFn Y T37 Tryz.f44 [P3 s a o, .ptr k 0] H (fun x => x.1 = .pv (.int .i64 (distZ (posZ s o) g)) ∧ ∃ bs, x.2 = H ++ bs) := by
  unfold XFn Tryz.f44
  rw [enter_2 _ (by decide)]
  have hF : F38 [P3 s a o] = some (.i (posZ s o)) := by simp only [F38]; rw [if_pos h]
  have hp : -7 ≤ posZ s o ∧ posZ s o ≤ 69 := by
    obtain ⟨h1, h2, h3⟩ := h
    unfold posZ; omega
  generalize posZ s o = p at *
  have w1 : IntKind.i64.wrap (p - g) = p - g := wrap64 (by omega) (by omega)
  have w2 : IntKind.i64.wrap (g - p) = g - p := wrap64 (by omega) (by omega)
  have hk' : ∀ b, (H ++ b)[k]? = some (.box [.i g]) := fun b => by
    rw [List.getElem?_append_left (List.getElem?_eq_some_iff.1 hk).1]; exact hk
  simp [-Int.not_lt, -Int.not_le, T37_eq, hF, hk', w1, w2, distZ]
theorem meets37 (W0 : World) : OkRd W0 44 F37 := meets_read env (tok_cons (meets38 W0) tok_nil) mixed Tryz.func44 (by kernel_rfl) (by kernel_rfl) fun args H rs p has h => by
  unfold F37 at h
  split at h
  · split at h
    · rename_i hc
      cases h
      obtain ⟨c1, cs, rfl, h1, has⟩ := resCs_cons has
      obtain ⟨c2, cs, rfl, h2, has⟩ := resCs_cons has
      have := resCs_nil has
      subst this
      rw [res_P h1]
      obtain ⟨k, rfl, hk⟩ := res_box h2
      exact x37 _ _ _ _ hc.1 hc.2 H k hk
    · cases h
  · cases h
/-- The comparison of two distances. -/
noncomputable def T40 : FuncId → Option Pm.Spec := tab [(2, .read F0), (44, .read F37)]
theorem T40_eq (g : Nat) : T40 g = tab [(2, .read F0), (44, .read F37)] g := rfl
def cmpZ (p q g : Int) : Int := distZ p g - distZ q g
theorem dist_range {p g : Int} (h : -7 ≤ p ∧ p ≤ 69) (hg : -1000 ≤ g ∧ g ≤ 1000) : 0 ≤ distZ p g ∧ distZ p g ≤ 2000 := by
  unfold distZ; split <;> omega
theorem x40 (s a o s' a' o' g : Int) (h : inR s a o) (h' : inR s' a' o') (hg : -1000 ≤ g ∧ g ≤ 1000) (H : List Blk) (k j : Nat) (hk : H[k]? = some (.box [.clo 44 [.ptr j 0]])) (hj : H[j]? = some (.box [.i g])) :
    XFn Y T40 Tryz.f47 [P3 s a o, P3 s' a' o', .ptr k 0] H (fun x => x.1 = .pv (.int .i64 (cmpZ (posZ s o) (posZ s' o') g)) ∧ ∃ bs, x.2 = H ++ bs) := by
  unfold XFn Tryz.f47
  rw [enter_3 _ (by decide)]
  have hp : ∀ {s a o : Int}, inR s a o → -7 ≤ posZ s o ∧ posZ s o ≤ 69 := fun h => by
    obtain ⟨h1, h2, h3⟩ := h
    unfold posZ; omega
  have F1 : F37 [.agg [.i s, .i a, .i o], .tuple [.i g]] = some (.int .i64 (distZ (posZ s o) g)) := by simp only [F37]; rw [if_pos ⟨h, hg⟩]
  have F2 : F37 [.agg [.i s', .i a', .i o'], .tuple [.i g]] = some (.int .i64 (distZ (posZ s' o') g)) := by simp only [F37]; rw [if_pos ⟨h', hg⟩]
  have d1 := dist_range (hp h) hg
  have d2 := dist_range (hp h') hg
  unfold cmpZ
  generalize distZ (posZ s o) g = x at *
  generalize distZ (posZ s' o') g = y at *
  have w1 : IntKind.i64.wrap (x - y) = x - y := wrap64 (by omega) (by omega)
  have hk' : ∀ b, (H ++ b)[k]? = some (.box [.clo 44 [.ptr j 0]]) := fun b => by
    rw [List.getElem?_append_left (List.getElem?_eq_some_iff.1 hk).1]; exact hk
  have hj' : ∀ b, (H ++ b)[j]? = some (.box [.i g]) := fun b => by
    rw [List.getElem?_append_left (List.getElem?_eq_some_iff.1 hj).1]; exact hj
  simp [-Int.not_lt, -Int.not_le, T40_eq, hk', hj', F1, F2, w1]
def F40 : List SV → Option PV
  | [.agg [.pv (.int .i64 s), .pv (.int .i64 a), .pv (.int .i64 o)], .agg [.pv (.int .i64 s'), .pv (.int .i64 a'), .pv (.int .i64 o')], .tuple [.clo f [.tuple [.pv (.int .i64 g)]]]] =>
    if f = 44 ∧ inR s a o ∧ inR s' a' o' ∧ (-1000 ≤ g ∧ g ≤ 1000) then some (.int .i64 (cmpZ (posZ s o) (posZ s' o') g)) else none
  | _ => none
theorem meets40 (W0 : World) : OkRd W0 47 F40 := meets_read env (tok_cons (meets2 W0) (tok_cons (meets37 W0) tok_nil)) mixed Tryz.func47 (by kernel_rfl) (by kernel_rfl) fun args H rs p has h => by
  unfold F40 at h
  split at h
  · split at h
    · rename_i hc
      cases h
      obtain ⟨c1, cs, rfl, h1, has⟩ := resCs_cons has
      obtain ⟨c2, cs, rfl, h2, has⟩ := resCs_cons has
      obtain ⟨c3, cs, rfl, h3, has⟩ := resCs_cons has
      have := resCs_nil has
      subst this
      rw [res_P h1, res_P h2]
      obtain ⟨k, cs, m, rfl, hk, h3⟩ := res_ptr h3
      obtain ⟨c4, cs, rfl, h4, h3⟩ := resCs_cons h3
      have := resCs_nil h3
      subst this
      obtain ⟨cs, m, rfl, h6⟩ := res_clo h4
      obtain ⟨c5, cs, rfl, h5, h7⟩ := resCs_cons h6
      have := resCs_nil h7
      subst this
      obtain ⟨j, rfl, hj⟩ := res_box h5
      obtain ⟨rfl, hc⟩ := hc
      exact x40 _ _ _ _ _ _ _ hc.1 hc.2.1 hc.2.2 H k j hk hj
    · cases h
  · cases h
end Go.Proofs.YtmmpjnjdddaldaaGreatDoor
