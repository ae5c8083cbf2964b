/- The choice of a size, by the machine. -/
import Derived.Test.YtngapiffgoignaaDoorDurG
set_option linter.unusedSimpArgs false
set_option linter.unusedVariables false
set_option maxRecDepth 1000000
set_option maxHeartbeats 400000
namespace Go.Proofs.YtngapiffgoignaaDoor
open Go Go.Pm Go.RowKit
def rowI (l : List Int) : List (List PV) := l.map fun n => [PV.int .i64 n]
theorem rowI_len (l : List Int) : (rowI l).length = l.length := by simp [rowI]
theorem rowI_at {l : List Int} {i : Nat} {x : Int} (h : l[i]? = some x) : (rowI l)[i]? = some [PV.int .i64 x] := by simp [rowI, h]
def szL : List Int := SZ.map fun (n : Nat) => (n : Int)
theorem szL_at {i : Nat} (h : i < 40) : szL[i]? = some (sz i : Int) := by simp [szL, SZ_get h]
theorem acc_own {e : TypeId} {s : Nat} {H : List Blk} {es : List (List PV)} {out : SV} (h : Acc e s H es out) (hne : es ≠ []) : ∃ k v, out = .own k v s es := by
  rcases h with ⟨h1, _⟩ | ⟨_, k, v, h1, _⟩
  · exact absurd h1 hne
  · exact ⟨k, v, h1⟩
theorem x40 {H : List Blk} {a b : Nat} {n N : Nat} {fv : SV} (hn : n ≤ N) (hN : N ≤ 8192) (ha : H[a]? = some (.box (some 3) [.i (n : Nat)])) (hb : H[b]? = some (.box (some 58) [fv])) (hA : ∃ k v, fv = .own k v 1 (rowI (fwt N)) ∨ (fv = .tight 1 (rowI (fwt N))))
    {i : Nat} (hi : i < 40) : XFn Y T0 Tryd.f40 [.i (sz i : Nat), .ptr a 0, .ptr b 0] H (fun x => x = (.bool (fits n i), H)) := by
  unfold XFn Tryd.f40
  rw [enter_3 _ (by decide)]
  have h1 := sz_pos i
  have f0 : (rowI (fwt N))[n]? = some [PV.int .i64 (fw n)] := rowI_at (fwt_get hn)
  have c0 : ((n : Nat) : Int).toNat = n := by omega
  have g1 := fw_ge n
  have g2 := fw_up n
  have w2 : IntKind.i64.wrap (fw n - 1) = fw n - 1 := wrap64 (by omega) (by omega)
  by_cases hs : sz i ≤ n
  · have f1 : (rowI (fwt N))[n - sz i]? = some [PV.int .i64 (fw (n - sz i))] := rowI_at (fwt_get (by omega))
    have c1 : ((sz i : Nat) : Int) ≤ (n : Nat) := by omega
    have w1 : IntKind.i64.wrap (((n : Nat) : Int) - (sz i : Nat)) = ((n - sz i : Nat) : Int) := by rw [wrap64 (by omega) (by omega)]; omega
    have c2 : ((n - sz i : Nat) : Int).toNat = n - sz i := by omega
    have hf : fits n i = decide (fw (n - sz i) = fw n - 1) := by simp [fits, hs]
    obtain ⟨k, v, rfl | rfl⟩ := hA
    · simp [-Int.not_lt, -Int.not_le, -getElem?_pos, List.getElem?_cons_zero, List.getElem?_cons_succ, ha, hb, hs, c1, w1, w2, c2, c0, f0, f1, hf, beqZ]
    · simp [-Int.not_lt, -Int.not_le, -getElem?_pos, List.getElem?_cons_zero, List.getElem?_cons_succ, ha, hb, hs, c1, w1, w2, c2, c0, f0, f1, hf, beqZ]
  · have c1 : ¬ ((sz i : Nat) : Int) ≤ (n : Nat) := by omega
    have hf : fits n i = false := by simp [fits, hs]
    obtain ⟨k, v, rfl | rfl⟩ := hA
    · simp [-Int.not_lt, -Int.not_le, -getElem?_pos, List.getElem?_cons_zero, List.getElem?_cons_succ, ha, hb, hs, c1, hf]
    · simp [-Int.not_lt, -Int.not_le, -getElem?_pos, List.getElem?_cons_zero, List.getElem?_cons_succ, ha, hb, hs, c1, hf]
theorem all40 {H : List Blk} {a b : Nat} {n N : Nat} {fv : SV} (hn : n ≤ N) (hN : N ≤ 8192) (ha : H[a]? = some (.box (some 3) [.i (n : Nat)])) (hb : H[b]? = some (.box (some 58) [fv])) (hA : ∃ k v, fv = .own k v 1 (rowI (fwt N)) ∨ (fv = .tight 1 (rowI (fwt N))))
    {i : Nat} (hi : i < 40) : arunAll Y T0 Tryd.f40 [.i (sz i : Nat), .ptr a 0, .ptr b 0] H = some (.bool (fits n i), H) := by
  obtain ⟨r, H', h1, h2⟩ := all_of_XFn (by rfl) (x40 hn hN ha hb hA hi)
  cases h2; exact h1
theorem meets40 (W0 : World) : Enterable Tryd.prog 40 ∧ Meets Tryd.prog W0 40 (specFn (.heap (arunAll Y T0 Tryd.f40))) := meets_heap env tok_nil mixed Tryd.func40 (by kernel_rfl) (by kernel_rfl)
noncomputable def T39 : FuncId → Option Pm.Spec := tab [(40, .heap (arunAll Y T0 Tryd.f40))]
theorem T39_eq (g : Nat) : T39 g = tab [(40, .heap (arunAll Y T0 Tryd.f40))] g := rfl
theorem meets39 (W0 : World) : Enterable Tryd.prog 39 ∧ Meets Tryd.prog W0 39 (specFn (.heap (arunAll Y T39 Tryd.f39))) := meets_heap env (tok_cons (meets40 W0) tok_nil) mixed Tryd.func39 (by kernel_rfl) (by kernel_rfl)
theorem loop39 {F : List Fr} {P : SV × List Blk → Prop} {H : List Blk} {a b : Nat} {n N : Nat} {fv : SV} (hn : n ≤ N) (hN : N ≤ 8192) (ha : H[a]? = some (.box (some 3) [.i (n : Nat)])) (hb : H[b]? = some (.box (some 58) [fv])) (hA : ∃ k v, fv = .own k v 1 (rowI (fwt N)) ∨ (fv = .tight 1 (rowI (fwt N))))
    (k v : Nat) (hp : P (.i (first n : Nat), H)) (hf1 : first n < 40) (hf2 : fits n (first n) = true) (hf3 : ∀ j < first n, fits n j = false) : ∀ (r m : Nat), m + r = first n →
    X Y T39 [.tmp 4] F (.loop (loopN Tryd.f39 0)) ⟨mk 19 .J [(0, .own k v 1 (rowI szL)), (1, .clo 40 [.ptr a 0, .ptr b 0]), (7, .i 40), (8, .i (m : Nat))], H⟩ P := by
  have hl : (rowI szL).length = 40 := rfl
  intro r
  induction r with
  | zero =>
    intro m e
    have e1 : m = first n := by omega
    subst e1
    have c4 : ((first n : Nat) : Int) < 40 := by omega
    have c3 : ((first n : Nat) : Int).toNat = first n := by omega
    have f1 := rowI_at (szL_at hf1)
    have hall := all40 hn hN ha hb hA hf1
    rw [hf2] at hall
    apply X_loop_of
    · simp only [loopN, Tryd.f39, loopsOf, List.nil_append, List.append_nil, List.cons_append, List.getD_cons_succ, List.getD_cons_zero]; rfl
    simp [-Int.not_lt, -Int.not_le, -getElem?_pos, List.getElem?_cons_zero, List.getElem?_cons_succ, T39_eq, hf1, c4, c3, f1, hall]
    exact hp
  | succ r ih =>
    intro m e
    have hm : m < 40 := by omega
    have c4 : ((m : Nat) : Int) < 40 := by omega
    have c3 : ((m : Nat) : Int).toNat = m := by omega
    have q3 := next_i (m := m) (by omega)
    have f1 := rowI_at (szL_at hm)
    have hall := all40 hn hN ha hb hA hm
    rw [hf3 m (by omega)] at hall
    apply X_loop_of
    · simp only [loopN, Tryd.f39, loopsOf, List.nil_append, List.append_nil, List.cons_append, List.getD_cons_succ, List.getD_cons_zero]; rfl
    simp [-Int.natCast_add, -Int.not_lt, -Int.not_le, -getElem?_pos, List.getElem?_cons_zero, List.getElem?_cons_succ, T39_eq, hm, c4, c3, f1, hall, q3]
    refine X_keep (ih (m + 1) (by omega)) ?_
    simp
theorem x39 {H : List Blk} {a b : Nat} {n N : Nat} {fv : SV} (hn : n ≤ N) (hN : N ≤ 8192) (ha : H[a]? = some (.box (some 3) [.i (n : Nat)])) (hb : H[b]? = some (.box (some 58) [fv])) (hA : ∃ k v, fv = .own k v 1 (rowI (fwt N)) ∨ (fv = .tight 1 (rowI (fwt N))))
    (k v : Nat) (h0 : 0 < n) (hw : 0 ≤ fw n) : XFn Y T39 Tryd.f39 [.own k v 1 (rowI szL), .clo 40 [.ptr a 0, .ptr b 0]] H (fun x => x = (.i (first n : Nat), H)) := by
  unfold XFn Tryd.f39
  rw [enter_2 _ (by decide)]
  have hl : (rowI szL).length = 40 := rfl
  obtain ⟨f1, f2, f3⟩ := first_spec h0 hw
  simp [-outR, hl]
  refine X_keep (loop39 (P := fun x => x = (SV.i (first n : Nat), H)) hn hN ha hb hA k v rfl f1 f2 f3 (first n) 0 (by omega)) ?_
  simp
theorem all39 {H : List Blk} {a b : Nat} {n N : Nat} {fv : SV} (hn : n ≤ N) (hN : N ≤ 8192) (ha : H[a]? = some (.box (some 3) [.i (n : Nat)])) (hb : H[b]? = some (.box (some 58) [fv])) (hA : ∃ k v, fv = .own k v 1 (rowI (fwt N)) ∨ (fv = .tight 1 (rowI (fwt N))))
    (k v : Nat) (h0 : 0 < n) (hw : 0 ≤ fw n) : arunAll Y T39 Tryd.f39 [.own k v 1 (rowI szL), .clo 40 [.ptr a 0, .ptr b 0]] H = some (.i (first n : Nat), H) := by
  obtain ⟨r, H', h1, h2⟩ := all_of_XFn (by rfl) (x39 hn hN ha hb hA k v h0 hw)
  cases h2; exact h1
end Go.Proofs.YtngapiffgoignaaDoor
