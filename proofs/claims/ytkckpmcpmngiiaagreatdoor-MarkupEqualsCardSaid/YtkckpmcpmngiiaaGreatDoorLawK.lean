/- Clone, as a contract on the heap: the copy's own rows may be appended to. -/
import Derived.Test.YtkckpmcpmngiiaaGreatDoorR1
set_option linter.unusedSimpArgs false
set_option linter.unusedVariables false
set_option maxRecDepth 1000000
set_option maxHeartbeats 1000000
namespace Go.Proofs.YtkckpmcpmngiiaaGreatDoor
open Go Go.Pm Go.RowKit
theorem meets54f (W0 : World) : OkAt W0 54 F54f := meets_fn env tok_nil mixed Tryz.func54 (by kernel_rfl) (by kernel_rfl) fun args r h => by
  unfold F54f at h
  split at h
  · split at h
    · rename_i l hl
      cases h
      obtain ⟨rfl, h2⟩ := argA_or hl
      exact x54 h2
    · cases h
  · cases h
theorem meets54t (W0 : World) : Enterable Tryz.prog 54 ∧ Meets Tryz.prog W0 54 (specFn (.pure true F54f)) := meets_fn env tok_nil mixed Tryz.func54 (by kernel_rfl) (by kernel_rfl) fun args r h => by
  unfold F54f at h
  split at h
  · split at h
    · rename_i l hl
      cases h
      obtain ⟨rfl, h2⟩ := argA_or hl
      exact x54 h2
    · cases h
  · cases h
theorem F54f_ok {l : List (Bs × Bs)} (h : l.length ≤ 100000) : F54f [.pv (slN 2 (l.map atRow))] = some (frA l) := by
  simp only [F54f, argA_ok h]
noncomputable def T29h (m : Nat) : FuncId → Option Pm.Spec := tab [(54, .pure true F54f), (29, .pure false (F29n m))]
theorem T29h_eq (m g : Nat) : T29h m g = tab [(54, .pure true F54f), (29, .pure false (F29n m))] g := rfl
theorem AccN.more {n0 : Nat} {e : TypeId} {s : Nat} {H : List Blk} {es : List (List PV)} {p : SV} (h : AccN n0 e s H es p) (H' : List Blk) : AccN n0 e s (H ++ H') es p := ⟨h.1.more H', h.2⟩
theorem loop29h {F : List Fr} {P : SV × List Blk → Prop} {rs : List ResultVar} {m : Nat} {nm tx : Bs} {A : SV} {H0 : List Blk} {ks : List Nd} (hm : ∀ n ∈ ks, n.count ≤ m) (hb : countL ks < 1000000) (hok : okL ks = true) : ∀ (r i : Nat) (H : List Blk) (K : SV), i + r = ks.length →
    H0.length ≤ H.length → (∀ j, 2 ≤ j → j < H0.length → H[j]? = H0[j]?) →
    H[0]? = some (.box (some 33) [.pv (.str nm), A, .pv (.str tx), K]) → H[1]? = some (.box (some 33) [.pv (.str []), .pv .nilSlice, .pv (.str []), .pv .nilSlice]) → AccN H0.length 33 4 H (encL (ks.take i)) K →
    (∀ H' K', (∀ j, 2 ≤ j → j < H0.length → H'[j]? = H0[j]?) → H'[0]? = some (.box (some 33) [.pv (.str nm), A, .pv (.str tx), K']) → H'[1]? = some (.box (some 33) [.pv (.str []), .pv .nilSlice, .pv (.str []), .pv .nilSlice]) → Acc 33 4 H' (encL ks) K' →
      X Y (T29h m) rs F (.exit 0) ⟨mk 28 .J [(1, .ptr 0 0), (2, .ptr 1 0)], H'⟩ P) →
    X Y (T29h m) rs F (.loop (loopN Tryz.f29 0)) ⟨mk 28 .J [(1, .ptr 0 0), (2, .ptr 1 0), (13, .pv (slN 4 (encL ks))), (14, .i (ks.length : Nat)), (15, .i (i : Nat))], H⟩ P := by
  intro r
  induction r with
  | zero =>
    intro i H K e hle hfr h0 h1 hA hx
    have e1 : i = ks.length := by omega
    subst e1
    rw [List.take_of_length_le (Nat.le_refl _)] at hA
    apply X_loop_of
    · simp only [loopN, Tryz.f29, loopsOf, List.nil_append, List.append_nil, List.cons_append, List.getD_cons_succ, List.getD_cons_zero]; rfl
    simp
    refine X_keep (hx H K hfr h0 h1 hA.1) (by simp)
  | succ r ih =>
    intro i H K e hle hfr h0 h1 hA hx
    have hi : i < ks.length := by omega
    obtain ⟨n, hn⟩ : ∃ n, ks[i]? = some n := ⟨_, List.getElem?_eq_getElem hi⟩
    have hmem := List.mem_of_getElem? hn
    have hat := (kidS_at hn).1
    rw [enc_eq] at hat
    have hc := count_kid hmem
    have hlen := countL_ge ks
    have f1 := F29n_ok (hm n hmem) (by omega) (ok_kid hok hmem)
    unfold encS at f1
    have q3 := next_i (m := i) (by omega)
    have c4 : ((i : Nat) : Int) < (ks.length : Nat) := by omega
    have g0 : (H ++ [.box (some 33) [.pv (.str n.name), .pv (slN 2 (n.attrs.map atRow)), .pv (.str n.text), .pv (slN 4 (encL n.kids))]])[0]? = some (.box (some 33) [.pv (.str nm), A, .pv (.str tx), K]) := by
      rw [List.getElem?_append_left (List.getElem?_eq_some_iff.1 h0).1]; exact h0
    have g1 : (H ++ [.box (some 33) [.pv (.str n.name), .pv (slN 2 (n.attrs.map atRow)), .pv (.str n.text), .pv (slN 4 (encL n.kids))]])[1]? = some (.box (some 33) [.pv (.str []), .pv .nilSlice, .pv (.str []), .pv .nilSlice]) := by
      rw [List.getElem?_append_left (List.getElem?_eq_some_iff.1 h1).1]; exact h1
    have gl := get_last H (.box (some 33) [.pv (.str n.name), .pv (slN 2 (n.attrs.map atRow)), .pv (.str n.text), .pv (slN 4 (encL n.kids))])
    have hA2 := hA.more [.box (some 33) [.pv (.str n.name), .pv (slN 2 (n.attrs.map atRow)), .pv (.str n.text), .pv (slN 4 (encL n.kids))]]
    obtain ⟨K', H2, a1, a2, a4, a5, a3⟩ := app31N n (by rw [List.length_take]; omega) hA2 (by rw [List.length_append]; omega)
    rw [← take_snoc' hn] at a2
    rw [enc_eq] at a1
    have k0 := a3 _ _ g0
    have k1 := a3 _ _ g1
    have hlt := (List.getElem?_eq_some_iff.1 k0).1
    rw [List.length_append] at a4
    have hfr2 : ∀ j, 2 ≤ j → j < H0.length → (H2.set 0 (.box (some 33) [.pv (.str nm), A, .pv (.str tx), K']))[j]? = H0[j]? := fun j j2 jl => by
      rw [List.getElem?_set_ne (by omega), a5 j jl, List.getElem?_append_left (by omega)]; exact hfr j j2 jl
    apply X_loop_of
    · simp only [loopN, Tryz.f29, loopsOf, List.nil_append, List.append_nil, List.cons_append, List.getD_cons_succ, List.getD_cons_zero]; rfl
    simp [-Int.natCast_add, -Int.not_lt, -Int.not_le, -aIndexAddr, -aLen, -aAppend, -cellsOf, -getElem?_pos, List.getElem?_cons_zero, List.getElem?_cons_succ, T29h_eq, q3, c4, hi, hat, get_last, set_last, cells_agg, g0, gl, f1, hA.1.live, a1, a2.1.live, acc_cells a2.1, k0, hlt]
    refine X_keep (ih (i + 1) (H2.set 0 (.box (some 33) [.pv (.str nm), A, .pv (.str tx), K'])) K' (by omega) (by rw [List.length_set]; omega) hfr2 ?_ ?_ ⟨a2.1.box k0, a2.2⟩ hx) ?_
    · rw [List.getElem?_set_self hlt]
    · rw [List.getElem?_set_ne (by decide)]; exact k1
    · simp
/-- What Clone leaves: the copy, its rows its own. -/
def Cpy (n : Nd) (x : SV × List Blk) : Prop := ∃ A K, x.1 = .agg [.pv (.str n.name), A, .pv (.str n.text), K] ∧ Acc 48 2 x.2 (n.attrs.map atRow) A ∧ Acc 33 4 x.2 (encL n.kids) K
theorem x29h {m : Nat} {n : Nd} (h1 : n.count ≤ m + 1) (h2 : n.count ≤ 1000000) (h3 : n.ok = true) : XFn Y (T29h m) Tryz.f29 [encS n] [] (Cpy n) := by
  unfold XFn Tryz.f29
  have hce := count_eq n
  rw [ok_eq, Bool.and_eq_true, decide_eq_true_eq] at h3
  have hl := (kidS_len n.kids).1
  have f1 := F54f_ok h3.1
  rw [show encS n = nodeS n.name (slN 2 (n.attrs.map atRow)) n.text (slN 4 (encL n.kids)) from rfl, nodeS, enter_1 _ (by decide)]
  have L := fun F P rs H0 A => loop29h (F := F) (P := P) (rs := rs) (m := m) (nm := n.name) (tx := n.text) (A := A) (H0 := H0) (ks := n.kids) (fun x hx => by have := count_kid hx; omega) (by omega) h3.2 n.kids.length 0 H0 (.pv .nilSlice) (by omega) (Nat.le_refl _) (fun _ _ _ => rfl)
  by_cases he : n.attrs = []
  · have e0 : frA n.attrs = .pv .nilSlice := by unfold frA; rw [if_pos he]
    rw [e0] at f1
    simp [-outR, -aLen, T29h_eq, f1, hl]
    refine X_keep (L _ _ _ _ (.pv .nilSlice) rfl rfl ⟨.inl ⟨by simp [encL], rfl⟩, fun _ _ _ _ h => by cases h⟩ fun H' K hfr e0 e1 eK => ?_) (by simp)
    have lK := eK.live
    have hlt := (List.getElem?_eq_some_iff.1 e1).1
    simp [-outR, -getElem?_pos, List.getElem?_cons_zero, List.getElem?_cons_succ, e0, e1, hlt, lK]
    exact ⟨_, _, rfl, .inl ⟨by simp [he], rfl⟩, eK.box e1⟩
  · have e0 : frA n.attrs = .fresh 48 2 (n.attrs.map atRow) := by unfold frA; rw [if_neg he]
    rw [e0] at f1
    simp [-outR, -aLen, T29h_eq, f1, hl]
    refine X_keep (L _ _ _ _ (.own 2 0 2 (n.attrs.map atRow)) rfl rfl ⟨.inl ⟨by simp [encL], rfl⟩, fun _ _ _ _ h => by cases h⟩ fun H' K hfr e0 e1 eK => ?_) (by simp)
    have lK := eK.live
    have h2 := hfr 2 (by decide) (by simp)
    have h2' : H'[2]? = some (.tok 0 48) := by simpa using h2
    have hlt := (List.getElem?_eq_some_iff.1 e1).1
    simp [-outR, -getElem?_pos, List.getElem?_cons_zero, List.getElem?_cons_succ, e0, e1, hlt, lK]
    exact ⟨_, _, rfl, .inr ⟨by simp [he], 2, 0, rfl, by rw [List.getElem?_set_ne (by decide)]; exact h2'⟩, eK.box e1⟩
noncomputable def A29 (m : Nat) : List SV → List Blk → Option (SV × List Blk) := arunAll Y (T29h m) Tryz.f29
theorem meets29h (W0 : World) (m : Nat) : Enterable Tryz.prog 29 ∧ Meets Tryz.prog W0 29 (specFn (.heap (A29 m))) := meets_heap env (tok_cons (meets54t W0) (tok_cons (meets29n W0 m) tok_nil)) mixed Tryz.func29 (by kernel_rfl) (by kernel_rfl)
theorem all29 {m : Nat} {n : Nd} (h1 : n.count ≤ m + 1) (h2 : n.count ≤ 1000000) (h3 : n.ok = true) : ∃ r H', A29 m [encS n] [] = some (r, H') ∧ Cpy n (r, H') := all_of_XFn (by rfl) (x29h h1 h2 h3)
end Go.Proofs.YtkckpmcpmngiiaaGreatDoor
