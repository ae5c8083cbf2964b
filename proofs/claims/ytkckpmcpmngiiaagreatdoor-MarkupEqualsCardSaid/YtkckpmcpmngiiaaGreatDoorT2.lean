/- Trees: cut short, compared, checked, found. -/
import Derived.Test.YtkckpmcpmngiiaaGreatDoorT1
/- Elements copied from one package's form to the other's, by the machine. -/
set_option linter.unusedSimpArgs false
set_option linter.unusedVariables false
set_option maxRecDepth 1000000
set_option maxHeartbeats 400000
namespace Go.Proofs.YtkckpmcpmngiiaaGreatDoor
open Go Go.Pm Go.RowKit
mutual
def Nd.ok : Nd → Bool
  | .mk _ a _ ks => decide (a.length ≤ 100000) && okL ks
def okL : List Nd → Bool
  | [] => true
  | k :: r => k.ok && okL r
end
theorem ok_eq (n : Nd) : n.ok = (decide (n.attrs.length ≤ 100000) && okL n.kids) := by cases n; rw [Nd.ok]; rfl
theorem ok_kid {l : List Nd} {n : Nd} (h : okL l = true) (hn : n ∈ l) : n.ok = true := by
  induction l with
  | nil => cases hn
  | cons a r ih =>
    simp only [okL, Bool.and_eq_true] at h
    rcases List.mem_cons.1 hn with rfl | hn
    · exact h.1
    · exact ih h.2 hn
def encS (n : Nd) : SV := nodeS n.name (slN 2 (n.attrs.map atRow)) n.text (slN 4 (encL n.kids))
theorem encS_ok (n : Nd) : argN (encS n) = some n := by
  have := argN_mk (nm := n.name) (tx := n.text) (atP_slN n.attrs) (kidP_enc n.kids)
  cases n; exact this
theorem enc_eq (n : Nd) : n.enc = [.str n.name, slN 2 (n.attrs.map atRow), .str n.text, slN 4 (encL n.kids)] := by cases n; simp only [Nd.enc, Nd.name, Nd.attrs, Nd.text, Nd.kids]
theorem encL_len : ∀ l : List Nd, (encL l).length = l.length
  | [] => by simp only [encL, List.length_nil]
  | k :: r => by simp only [encL, List.length_cons, encL_len r]
theorem encL_snoc : ∀ (l : List Nd) (n : Nd), encL (l ++ [n]) = encL l ++ [n.enc]
  | [], n => by simp [encL]
  | k :: r, n => by simp only [List.cons_append, encL, encL_snoc r n]
theorem take_snoc' {α : Type} {l : List α} {i : Nat} {x : α} (h : l[i]? = some x) : l.take (i + 1) = l.take i ++ [x] := by rw [List.take_add_one, h]; rfl
theorem acc_pcell {e : TypeId} {s : Nat} {H : List Blk} {es : List (List PV)} {out : SV} (h : Acc e s H es out) : pcell out = some (slN s es) := by
  rcases h with ⟨rfl, rfl⟩ | ⟨hne, k, v, rfl, _⟩
  · rfl
  · cases es with
    | nil => exact absurd rfl hne
    | cons a r => rfl
theorem acc_cells {e : TypeId} {s : Nat} {H : List Blk} {es : List (List PV)} {out : SV} (h : Acc e s H es out) : cellsOf out = some [out] := by
  rcases h with ⟨_, rfl⟩ | ⟨_, k, v, rfl, _⟩ <;> rfl
theorem cells_pv (p : PV) : cellsOf (.pv p) = some [.pv p] := rfl
theorem pcell_pv (p : PV) : pcell (.pv p) = some p := rfl
theorem cells_agg (l : List SV) : cellsOf (.agg l) = some l := rfl
/-- Nothing is said. -/
theorem OkAt.none {W0 : World} {g : Nat} {F : List SV → Option SV} (he : Enterable Tryz.prog g) (h : ∀ args r, F args ≠ some r) : OkAt W0 g F := ⟨he, fun C args vs r' H' hF I J hr => by
  simp only [specFn] at hF
  split at hF
  · split at hF
    · rename_i hFr; exact absurd hFr (h _ _)
    · cases hF
  · cases hF⟩
def TON (m : Nat) : List SV → Option SV
  | [v] => match argN v with
    | some n => if n.count ≤ m ∧ n.count ≤ 1000000 ∧ n.ok = true then some (encS n) else none
    | none => none
  | _ => none
theorem TON_ok {m : Nat} {v : SV} {n : Nd} (h : argN v = some n) (h1 : n.count ≤ m) (h2 : n.count ≤ 1000000) (h3 : n.ok = true) : TON m [v] = some (encS n) := by
  simp only [TON, h]; rw [if_pos ⟨h1, h2, h3⟩]
theorem of_TON {m : Nat} {args : List SV} {r : SV} {Q : Prop} (h : TON m args = some r) (k : ∀ a k n, atP a = some (Nd.attrs n) → kidP k = some n.kids → args = [nodeS n.name a n.text k] → r = encS n → n.count ≤ m → n.count ≤ 1000000 → n.ok = true → Q) : Q := by
  unfold TON at h
  split at h
  · split at h
    · rename_i n hn
      split at h
      · rename_i hc
        cases h
        obtain ⟨a, kk, e, h1, h2⟩ := argN_or hn
        exact k a kk n h1 h2 (by rw [e]) rfl hc.1 hc.2.1 hc.2.2
      · cases h
    · cases h
  · cases h
def TO : List SV → Option SV
  | [v] => match argN v with
    | some n => if n.count ≤ 1000000 ∧ n.ok = true then some (encS n) else none
    | none => none
  | _ => none
theorem TO_ok {v : SV} {n : Nd} (h : argN v = some n) (h2 : n.count ≤ 1000000) (h3 : n.ok = true) : TO [v] = some (encS n) := by
  simp only [TO, h]; rw [if_pos ⟨h2, h3⟩]
theorem TO_all {as1 : List SV} {r : SV} (h : TO as1 = some r) : ∃ m, TON m as1 = some r := by
  unfold TO at h
  split at h
  · split at h
    · rename_i n hn
      split at h
      · rename_i hc; cases h; exact ⟨n.count, TON_ok hn (Nat.le_refl _) hc.1 hc.2⟩
      · cases h
    · cases h
  · cases h
theorem app30 {H : List Blk} {es : List (List PV)} {out : SV} (x : Bs × Bs) (hl : es.length ≤ 100000) (h : Pm.Acc 48 2 H es out) :
    ∃ out' H', aAppend Y H 30 30 out (.tight 2 [[.str x.1, .str x.2]]) = some (out', H') ∧ Pm.Acc 48 2 H' (es ++ [atRow x]) out' ∧ (∀ {t0 : Option TypeId} (k : Nat) (cs : List SV), H[k]? = some (.box t0 cs) → H'[k]? = some (.box t0 cs)) := by
  obtain ⟨out', H', a, b, -, c⟩ := Acc.app (Y := Y) (t := 30) (e := 48) (x := atRow x) rfl Y_48 (by decide) (by decide) (by decide) (by simp [maxRow]; omega) h
  exact ⟨out', H', a, b, c⟩
theorem app31 {H : List Blk} {es : List (List PV)} {out : SV} (x : List PV) (hl : es.length ≤ 1000000) (h : Pm.Acc 33 4 H es out) :
    ∃ out' H', aAppend Y H 31 31 out (.tight 4 [x]) = some (out', H') ∧ Pm.Acc 33 4 H' (es ++ [x]) out' ∧ (∀ {t0 : Option TypeId} (k : Nat) (cs : List SV), H[k]? = some (.box t0 cs) → H'[k]? = some (.box t0 cs)) := by
  obtain ⟨out', H', a, b, -, c⟩ := Acc.app (Y := Y) (t := 31) (e := 33) (x := x) rfl Y_33 (by decide) (by decide) (by decide) (by simp [maxRow]; omega) h
  exact ⟨out', H', a, b, c⟩
noncomputable def T13 (m : Nat) : FuncId → Option Pm.Spec := tab [(13, .pure false (TON m))]
theorem T13_eq (m g : Nat) : T13 m g = tab [(13, .pure false (TON m))] g := rfl
theorem loop13a {F : List Fr} {P : SV × List Blk → Prop} {rs : List ResultVar} {m : Nat} {nm tx : Bs} {a k : PV} {l : List (Bs × Bs)} (ha : atP a = some l) (hl : l.length ≤ 100000) : ∀ (r i : Nat) (H : List Blk) (A : SV), i + r = l.length →
    H[0]? = some (.box (some 25) [.pv (.str nm), .pv a, .pv (.str tx), .pv k]) → H[1]? = some (.box (some 33) [.pv (.str []), .pv .nilSlice, .pv (.str []), .pv .nilSlice]) → H[2]? = some (.box (some 33) [.pv (.str nm), A, .pv (.str tx), .pv .nilSlice]) → Acc 48 2 H ((l.take i).map atRow) A →
    (∀ H' A', H'[0]? = some (.box (some 25) [.pv (.str nm), .pv a, .pv (.str tx), .pv k]) → H'[1]? = some (.box (some 33) [.pv (.str []), .pv .nilSlice, .pv (.str []), .pv .nilSlice]) → H'[2]? = some (.box (some 33) [.pv (.str nm), A', .pv (.str tx), .pv .nilSlice]) → Acc 48 2 H' (l.map atRow) A' →
      X Y (T13 m) rs F (.exit 0) ⟨mk 55 .J [(1, .ptr 0 0), (2, .ptr 1 0), (3, .ptr 2 0)], H'⟩ P) →
    X Y (T13 m) rs F (.loop (loopN Tryz.f13 0)) ⟨mk 55 .J [(1, .ptr 0 0), (2, .ptr 1 0), (3, .ptr 2 0), (4, .i (i : Nat))], H⟩ P := by
  have hal : aLen Y 22 (.pv a) = some l.length := (at_len ha).2
  intro r
  induction r with
  | zero =>
    intro i H A e h0 h1 h2 hA hx
    have e1 : i = l.length := by omega
    subst e1
    rw [List.take_of_length_le (Nat.le_refl _)] at hA
    apply X_loop_of
    · simp only [loopN, Tryz.f13, loopsOf, List.nil_append, List.append_nil, List.cons_append, List.getD_cons_succ, List.getD_cons_zero]; rfl
    simp [-aLen, -getElem?_pos, List.getElem?_cons_zero, List.getElem?_cons_succ, h0, hal]
    refine X_keep (hx H A h0 h1 h2 hA) (by simp)
  | succ r ih =>
    intro i H A e h0 h1 h2 hA hx
    have hi : i < l.length := by omega
    obtain ⟨x, hxi⟩ : ∃ x, l[i]? = some x := ⟨_, List.getElem?_eq_getElem hi⟩
    have hat : aIndexAddr Y 22 (.pv a) (i : Nat) = some (.cptr [.str x.1, .str x.2]) := (at_at ha hxi).2
    have q3 := next_i (m := i) (by omega)
    have c4 : ((i : Nat) : Int) < (l.length : Nat) := by omega
    obtain ⟨A', H2, a1, a2, a3⟩ := app30 x (by simp; omega) hA
    have hsn : (l.take i).map atRow ++ [atRow x] = (l.take (i + 1)).map atRow := by rw [take_snoc' hxi, List.map_append]; rfl
    rw [hsn] at a2
    have k0 := a3 _ _ h0
    have k1 := a3 _ _ h1
    have k2 := a3 _ _ h2
    have hlt := (List.getElem?_eq_some_iff.1 k2).1
    apply X_loop_of
    · simp only [loopN, Tryz.f13, loopsOf, List.nil_append, List.append_nil, List.cons_append, List.getD_cons_succ, List.getD_cons_zero]; rfl
    simp [-Int.natCast_add, -Int.not_lt, -Int.not_le, -aIndexAddr, -aLen, -aAppend, -cellsOf, -getElem?_pos, List.getElem?_cons_zero, List.getElem?_cons_succ, h0, h2, hal, q3, c4, hi, hat, hA.live, a1, a2.live, acc_cells a2, cells_pv, cells_agg, k2, hlt]
    refine X_keep (ih (i + 1) (H2.set 2 (.box (some 33) [.pv (.str nm), A', .pv (.str tx), .pv .nilSlice])) A' (by omega) ?_ ?_ ?_ (a2.box k2) hx) ?_
    · rw [List.getElem?_set_ne (by decide)]; exact k0
    · rw [List.getElem?_set_ne (by decide)]; exact k1
    · rw [List.getElem?_set_self hlt]
    · simp
theorem loop13b {F : List Fr} {P : SV × List Blk → Prop} {rs : List ResultVar} {m : Nat} {nm tx : Bs} {a k : PV} {A : SV} {ks : List Nd} {el : List (List PV)} (hk : kidP k = some ks) (hm : ∀ n ∈ ks, n.count ≤ m) (hb : countL ks < 1000000) (hok : okL ks = true) : ∀ (r i : Nat) (H : List Blk) (K : SV), i + r = ks.length →
    H[0]? = some (.box (some 25) [.pv (.str nm), .pv a, .pv (.str tx), .pv k]) → H[1]? = some (.box (some 33) [.pv (.str []), .pv .nilSlice, .pv (.str []), .pv .nilSlice]) → H[2]? = some (.box (some 33) [.pv (.str nm), A, .pv (.str tx), K]) → Acc 33 4 H (encL (ks.take i)) K →
    (∀ H' K', H'[1]? = some (.box (some 33) [.pv (.str []), .pv .nilSlice, .pv (.str []), .pv .nilSlice]) → H'[2]? = some (.box (some 33) [.pv (.str nm), A, .pv (.str tx), K']) → Acc 33 4 H' (encL ks) K' →
      X Y (T13 m) rs F (.exit 2) ⟨mk 55 .J [(2, .ptr 1 0), (3, .ptr 2 0)], H'⟩ P) →
    X Y (T13 m) rs F (.loop (loopN Tryz.f13 1)) ⟨mk 55 .J [(1, .ptr 0 0), (2, .ptr 1 0), (3, .ptr 2 0), (5, .i (i : Nat))], H⟩ P := by
  have hal : aLen Y 23 (.pv k) = some ks.length := (kid_len hk).2
  intro r
  induction r with
  | zero =>
    intro i H K e h0 h1 h2 hA hx
    have e1 : i = ks.length := by omega
    subst e1
    rw [List.take_of_length_le (Nat.le_refl _)] at hA
    apply X_loop_of
    · simp only [loopN, Tryz.f13, loopsOf, List.nil_append, List.append_nil, List.cons_append, List.getD_cons_succ, List.getD_cons_zero]; rfl
    simp [-aLen, -getElem?_pos, List.getElem?_cons_zero, List.getElem?_cons_succ, h0, hal]
    refine X_keep (hx H K h1 h2 hA) (by simp)
  | succ r ih =>
    intro i H K e h0 h1 h2 hA hx
    have hi : i < ks.length := by omega
    obtain ⟨n, hn⟩ : ∃ n, ks[i]? = some n := ⟨_, List.getElem?_eq_getElem hi⟩
    have hmem := List.mem_of_getElem? hn
    obtain ⟨nm', a', tx', k', hat, hv⟩ : ∃ nm' a' tx' k', aIndexAddr Y 23 (.pv k) (i : Nat) = some (.cptr [.str nm', a', .str tx', k']) ∧ argN (nodeS nm' a' tx' k') = some n := by
      obtain ⟨nm', a', tx', k', g1, g2, g3⟩ := kid_at hk hn
      exact ⟨nm', a', tx', k', g2, g3⟩
    have hc := count_kid hmem
    have hlen := countL_ge ks
    have f1 := TON_ok hv (hm n hmem) (by omega) (ok_kid hok hmem)
    unfold encS at f1
    have q3 := next_i (m := i) (by omega)
    have c4 : ((i : Nat) : Int) < (ks.length : Nat) := by omega
    obtain ⟨K', H2, a1, a2, a3⟩ := app31 n.enc (by rw [encL_len, List.length_take]; omega) hA
    rw [← encL_snoc, ← take_snoc' hn] at a2
    rw [enc_eq] at a1
    have k0 := a3 _ _ h0
    have k1 := a3 _ _ h1
    have k2 := a3 _ _ h2
    have hlt := (List.getElem?_eq_some_iff.1 k2).1
    apply X_loop_of
    · simp only [loopN, Tryz.f13, loopsOf, List.nil_append, List.append_nil, List.cons_append, List.getD_cons_succ, List.getD_cons_zero]; rfl
    simp [-Int.natCast_add, -Int.not_lt, -Int.not_le, -aIndexAddr, -aLen, -aAppend, -cellsOf, -getElem?_pos, List.getElem?_cons_zero, List.getElem?_cons_succ, T13_eq, h0, h2, hal, q3, c4, hi, hat, f1, hA.live, a1, a2.live, acc_cells a2, cells_pv, cells_agg, k2, hlt]
    refine X_keep (ih (i + 1) (H2.set 2 (.box (some 33) [.pv (.str nm), A, .pv (.str tx), K'])) K' (by omega) ?_ ?_ ?_ (a2.box k2) hx) ?_
    · rw [List.getElem?_set_ne (by decide)]; exact k0
    · rw [List.getElem?_set_ne (by decide)]; exact k1
    · rw [List.getElem?_set_self hlt]
    · simp
theorem x13 {m : Nat} {a k : PV} {n : Nd} (ha : atP a = some n.attrs) (hk : kidP k = some n.kids) (h1 : n.count ≤ m + 1) (h2 : n.count ≤ 1000000) (h3 : n.ok = true) : XFn Y (T13 m) Tryz.f13 [nodeS n.name a n.text k] [] (Is (encS n)) := by
  unfold XFn Tryz.f13
  rw [enter_1 _ (by decide)]
  have hce := count_eq n
  rw [ok_eq, Bool.and_eq_true, decide_eq_true_eq] at h3
  have La := fun F P rs H => loop13a (F := F) (P := P) (rs := rs) (m := m) (nm := n.name) (tx := n.text) (k := k) ha h3.1 n.attrs.length 0 H (.pv .nilSlice) (by omega)
  have Lb := fun F P rs H A => loop13b (F := F) (P := P) (rs := rs) (nm := n.name) (tx := n.text) (a := a) (A := A) (el := []) hk (m := m) (fun x hx => by have := count_kid hx; omega) (by omega) h3.2 n.kids.length 0 H (.pv .nilSlice) (by omega)
  simp [-outR]
  refine X_keep (La _ _ _ _ rfl rfl rfl (.inl ⟨rfl, rfl⟩) fun H A g0 g1 g2 gA => ?_) (by simp)
  simp [-outR]
  have pA := acc_pcell gA
  have lA := gA.live
  refine X_keep (Lb _ _ _ H A g0 g1 g2 (.inl ⟨by simp [encL], rfl⟩) fun H' K e1 e2 eK => ?_) (by simp)
  have pK := acc_pcell eK
  have lK := eK.live
  have hlt := (List.getElem?_eq_some_iff.1 e1).1
  simp [-outR, -getElem?_pos, List.getElem?_cons_zero, List.getElem?_cons_succ, e1, e2, hlt, lA, lK]
  simp [-pcell, pcell_pv, encS, pA, pK]
theorem meets13n (W0 : World) : ∀ m, OkAt W0 13 (TON m)
  | 0 => OkAt.none (enterable_of Tryz.func13 (by kernel_rfl)) fun args r h => by
    refine of_TON h fun a k n _ _ _ _ h1 _ _ => ?_
    have := count_pos n; omega
  | m + 1 => meets_fn env (tok_cons (meets13n W0 m) tok_nil) mixed Tryz.func13 (by kernel_rfl) (by kernel_rfl) fun args r h => by
    refine of_TON h fun a k n ha hk e1 e2 h1 h2 h3 => ?_
    subst e1; subst e2
    exact x13 ha hk h1 h2 h3
theorem meets13 (W0 : World) : OkAt W0 13 TO := OkAt.all (meets13n W0) fun as1 r h => TO_all h
theorem app22 {H : List Blk} {es : List (List PV)} {out : SV} (x : Bs × Bs) (hl : es.length ≤ 100000) (h : Pm.Acc 56 2 H es out) :
    ∃ out' H', aAppend Y H 22 22 out (.tight 2 [[.str x.1, .str x.2]]) = some (out', H') ∧ Pm.Acc 56 2 H' (es ++ [atRow x]) out' ∧ (∀ {t0 : Option TypeId} (k : Nat) (cs : List SV), H[k]? = some (.box t0 cs) → H'[k]? = some (.box t0 cs)) := by
  obtain ⟨out', H', a, b, -, c⟩ := Acc.app (Y := Y) (t := 22) (e := 56) (x := atRow x) rfl Y_56 (by decide) (by decide) (by decide) (by simp [maxRow]; omega) h
  exact ⟨out', H', a, b, c⟩
theorem app23 {H : List Blk} {es : List (List PV)} {out : SV} (x : List PV) (hl : es.length ≤ 1000000) (h : Pm.Acc 25 4 H es out) :
    ∃ out' H', aAppend Y H 23 23 out (.tight 4 [x]) = some (out', H') ∧ Pm.Acc 25 4 H' (es ++ [x]) out' ∧ (∀ {t0 : Option TypeId} (k : Nat) (cs : List SV), H[k]? = some (.box t0 cs) → H'[k]? = some (.box t0 cs)) := by
  obtain ⟨out', H', a, b, -, c⟩ := Acc.app (Y := Y) (t := 23) (e := 25) (x := x) rfl Y_25 (by decide) (by decide) (by decide) (by simp [maxRow]; omega) h
  exact ⟨out', H', a, b, c⟩
noncomputable def T17 (m : Nat) : FuncId → Option Pm.Spec := tab [(17, .pure false (TON m))]
theorem T17_eq (m g : Nat) : T17 m g = tab [(17, .pure false (TON m))] g := rfl
theorem loop17a {F : List Fr} {P : SV × List Blk → Prop} {rs : List ResultVar} {m : Nat} {nm tx : Bs} {a k : PV} {l : List (Bs × Bs)} (ha : atP a = some l) (hl : l.length ≤ 100000) : ∀ (r i : Nat) (H : List Blk) (A : SV), i + r = l.length →
    H[0]? = some (.box (some 33) [.pv (.str nm), .pv a, .pv (.str tx), .pv k]) → H[1]? = some (.box (some 25) [.pv (.str []), .pv .nilSlice, .pv (.str []), .pv .nilSlice]) → H[2]? = some (.box (some 25) [.pv (.str nm), A, .pv (.str tx), .pv .nilSlice]) → Acc 56 2 H ((l.take i).map atRow) A →
    (∀ H' A', H'[0]? = some (.box (some 33) [.pv (.str nm), .pv a, .pv (.str tx), .pv k]) → H'[1]? = some (.box (some 25) [.pv (.str []), .pv .nilSlice, .pv (.str []), .pv .nilSlice]) → H'[2]? = some (.box (some 25) [.pv (.str nm), A', .pv (.str tx), .pv .nilSlice]) → Acc 56 2 H' (l.map atRow) A' →
      X Y (T17 m) rs F (.exit 0) ⟨mk 55 .J [(1, .ptr 0 0), (2, .ptr 1 0), (3, .ptr 2 0)], H'⟩ P) →
    X Y (T17 m) rs F (.loop (loopN Tryz.f17 0)) ⟨mk 55 .J [(1, .ptr 0 0), (2, .ptr 1 0), (3, .ptr 2 0), (4, .i (i : Nat))], H⟩ P := by
  have hal : aLen Y 30 (.pv a) = some l.length := (at_len ha).1
  intro r
  induction r with
  | zero =>
    intro i H A e h0 h1 h2 hA hx
    have e1 : i = l.length := by omega
    subst e1
    rw [List.take_of_length_le (Nat.le_refl _)] at hA
    apply X_loop_of
    · simp only [loopN, Tryz.f17, loopsOf, List.nil_append, List.append_nil, List.cons_append, List.getD_cons_succ, List.getD_cons_zero]; rfl
    simp [-aLen, -getElem?_pos, List.getElem?_cons_zero, List.getElem?_cons_succ, h0, hal]
    refine X_keep (hx H A h0 h1 h2 hA) (by simp)
  | succ r ih =>
    intro i H A e h0 h1 h2 hA hx
    have hi : i < l.length := by omega
    obtain ⟨x, hxi⟩ : ∃ x, l[i]? = some x := ⟨_, List.getElem?_eq_getElem hi⟩
    have hat : aIndexAddr Y 30 (.pv a) (i : Nat) = some (.cptr [.str x.1, .str x.2]) := (at_at ha hxi).1
    have q3 := next_i (m := i) (by omega)
    have c4 : ((i : Nat) : Int) < (l.length : Nat) := by omega
    obtain ⟨A', H2, a1, a2, a3⟩ := app22 x (by simp; omega) hA
    have hsn : (l.take i).map atRow ++ [atRow x] = (l.take (i + 1)).map atRow := by rw [take_snoc' hxi, List.map_append]; rfl
    rw [hsn] at a2
    have k0 := a3 _ _ h0
    have k1 := a3 _ _ h1
    have k2 := a3 _ _ h2
    have hlt := (List.getElem?_eq_some_iff.1 k2).1
    apply X_loop_of
    · simp only [loopN, Tryz.f17, loopsOf, List.nil_append, List.append_nil, List.cons_append, List.getD_cons_succ, List.getD_cons_zero]; rfl
    simp [-Int.natCast_add, -Int.not_lt, -Int.not_le, -aIndexAddr, -aLen, -aAppend, -cellsOf, -getElem?_pos, List.getElem?_cons_zero, List.getElem?_cons_succ, h0, h2, hal, q3, c4, hi, hat, hA.live, a1, a2.live, acc_cells a2, cells_pv, cells_agg, k2, hlt]
    refine X_keep (ih (i + 1) (H2.set 2 (.box (some 25) [.pv (.str nm), A', .pv (.str tx), .pv .nilSlice])) A' (by omega) ?_ ?_ ?_ (a2.box k2) hx) ?_
    · rw [List.getElem?_set_ne (by decide)]; exact k0
    · rw [List.getElem?_set_ne (by decide)]; exact k1
    · rw [List.getElem?_set_self hlt]
    · simp
theorem loop17b {F : List Fr} {P : SV × List Blk → Prop} {rs : List ResultVar} {m : Nat} {nm tx : Bs} {a k : PV} {A : SV} {ks : List Nd} {el : List (List PV)} (hk : kidP k = some ks) (hm : ∀ n ∈ ks, n.count ≤ m) (hb : countL ks < 1000000) (hok : okL ks = true) : ∀ (r i : Nat) (H : List Blk) (K : SV), i + r = ks.length →
    H[0]? = some (.box (some 33) [.pv (.str nm), .pv a, .pv (.str tx), .pv k]) → H[1]? = some (.box (some 25) [.pv (.str []), .pv .nilSlice, .pv (.str []), .pv .nilSlice]) → H[2]? = some (.box (some 25) [.pv (.str nm), A, .pv (.str tx), K]) → Acc 25 4 H (encL (ks.take i)) K →
    (∀ H' K', H'[1]? = some (.box (some 25) [.pv (.str []), .pv .nilSlice, .pv (.str []), .pv .nilSlice]) → H'[2]? = some (.box (some 25) [.pv (.str nm), A, .pv (.str tx), K']) → Acc 25 4 H' (encL ks) K' →
      X Y (T17 m) rs F (.exit 2) ⟨mk 55 .J [(2, .ptr 1 0), (3, .ptr 2 0)], H'⟩ P) →
    X Y (T17 m) rs F (.loop (loopN Tryz.f17 1)) ⟨mk 55 .J [(1, .ptr 0 0), (2, .ptr 1 0), (3, .ptr 2 0), (5, .i (i : Nat))], H⟩ P := by
  have hal : aLen Y 31 (.pv k) = some ks.length := (kid_len hk).1
  intro r
  induction r with
  | zero =>
    intro i H K e h0 h1 h2 hA hx
    have e1 : i = ks.length := by omega
    subst e1
    rw [List.take_of_length_le (Nat.le_refl _)] at hA
    apply X_loop_of
    · simp only [loopN, Tryz.f17, loopsOf, List.nil_append, List.append_nil, List.cons_append, List.getD_cons_succ, List.getD_cons_zero]; rfl
    simp [-aLen, -getElem?_pos, List.getElem?_cons_zero, List.getElem?_cons_succ, h0, hal]
    refine X_keep (hx H K h1 h2 hA) (by simp)
  | succ r ih =>
    intro i H K e h0 h1 h2 hA hx
    have hi : i < ks.length := by omega
    obtain ⟨n, hn⟩ : ∃ n, ks[i]? = some n := ⟨_, List.getElem?_eq_getElem hi⟩
    have hmem := List.mem_of_getElem? hn
    obtain ⟨nm', a', tx', k', hat, hv⟩ : ∃ nm' a' tx' k', aIndexAddr Y 31 (.pv k) (i : Nat) = some (.cptr [.str nm', a', .str tx', k']) ∧ argN (nodeS nm' a' tx' k') = some n := by
      obtain ⟨nm', a', tx', k', g1, g2, g3⟩ := kid_at hk hn
      exact ⟨nm', a', tx', k', g1, g3⟩
    have hc := count_kid hmem
    have hlen := countL_ge ks
    have f1 := TON_ok hv (hm n hmem) (by omega) (ok_kid hok hmem)
    unfold encS at f1
    have q3 := next_i (m := i) (by omega)
    have c4 : ((i : Nat) : Int) < (ks.length : Nat) := by omega
    obtain ⟨K', H2, a1, a2, a3⟩ := app23 n.enc (by rw [encL_len, List.length_take]; omega) hA
    rw [← encL_snoc, ← take_snoc' hn] at a2
    rw [enc_eq] at a1
    have k0 := a3 _ _ h0
    have k1 := a3 _ _ h1
    have k2 := a3 _ _ h2
    have hlt := (List.getElem?_eq_some_iff.1 k2).1
    apply X_loop_of
    · simp only [loopN, Tryz.f17, loopsOf, List.nil_append, List.append_nil, List.cons_append, List.getD_cons_succ, List.getD_cons_zero]; rfl
    simp [-Int.natCast_add, -Int.not_lt, -Int.not_le, -aIndexAddr, -aLen, -aAppend, -cellsOf, -getElem?_pos, List.getElem?_cons_zero, List.getElem?_cons_succ, T17_eq, h0, h2, hal, q3, c4, hi, hat, f1, hA.live, a1, a2.live, acc_cells a2, cells_pv, cells_agg, k2, hlt]
    refine X_keep (ih (i + 1) (H2.set 2 (.box (some 25) [.pv (.str nm), A, .pv (.str tx), K'])) K' (by omega) ?_ ?_ ?_ (a2.box k2) hx) ?_
    · rw [List.getElem?_set_ne (by decide)]; exact k0
    · rw [List.getElem?_set_ne (by decide)]; exact k1
    · rw [List.getElem?_set_self hlt]
    · simp
theorem x17 {m : Nat} {a k : PV} {n : Nd} (ha : atP a = some n.attrs) (hk : kidP k = some n.kids) (h1 : n.count ≤ m + 1) (h2 : n.count ≤ 1000000) (h3 : n.ok = true) : XFn Y (T17 m) Tryz.f17 [nodeS n.name a n.text k] [] (Is (encS n)) := by
  unfold XFn Tryz.f17
  rw [enter_1 _ (by decide)]
  have hce := count_eq n
  rw [ok_eq, Bool.and_eq_true, decide_eq_true_eq] at h3
  have La := fun F P rs H => loop17a (F := F) (P := P) (rs := rs) (m := m) (nm := n.name) (tx := n.text) (k := k) ha h3.1 n.attrs.length 0 H (.pv .nilSlice) (by omega)
  have Lb := fun F P rs H A => loop17b (F := F) (P := P) (rs := rs) (nm := n.name) (tx := n.text) (a := a) (A := A) (el := []) hk (m := m) (fun x hx => by have := count_kid hx; omega) (by omega) h3.2 n.kids.length 0 H (.pv .nilSlice) (by omega)
  simp [-outR]
  refine X_keep (La _ _ _ _ rfl rfl rfl (.inl ⟨rfl, rfl⟩) fun H A g0 g1 g2 gA => ?_) (by simp)
  simp [-outR]
  have pA := acc_pcell gA
  have lA := gA.live
  refine X_keep (Lb _ _ _ H A g0 g1 g2 (.inl ⟨by simp [encL], rfl⟩) fun H' K e1 e2 eK => ?_) (by simp)
  have pK := acc_pcell eK
  have lK := eK.live
  have hlt := (List.getElem?_eq_some_iff.1 e1).1
  simp [-outR, -getElem?_pos, List.getElem?_cons_zero, List.getElem?_cons_succ, e1, e2, hlt, lA, lK]
  simp [-pcell, pcell_pv, encS, pA, pK]
theorem meets17n (W0 : World) : ∀ m, OkAt W0 17 (TON m)
  | 0 => OkAt.none (enterable_of Tryz.func17 (by kernel_rfl)) fun args r h => by
    refine of_TON h fun a k n _ _ _ _ h1 _ _ => ?_
    have := count_pos n; omega
  | m + 1 => meets_fn env (tok_cons (meets17n W0 m) tok_nil) mixed Tryz.func17 (by kernel_rfl) (by kernel_rfl) fun args r h => by
    refine of_TON h fun a k n ha hk e1 e2 h1 h2 h3 => ?_
    subst e1; subst e2
    exact x17 ha hk h1 h2 h3
theorem meets17 (W0 : World) : OkAt W0 17 TO := OkAt.all (meets17n W0) fun as1 r h => TO_all h
end Go.Proofs.YtkckpmcpmngiiaaGreatDoor
/- Trees cut short, by the machine. -/
set_option linter.unusedSimpArgs false
set_option linter.unusedVariables false
set_option maxRecDepth 1000000
set_option maxHeartbeats 400000
namespace Go.Proofs.YtkckpmcpmngiiaaGreatDoor
open Go Go.Pm Go.RowKit
theorem len9 (s : Bs) : aLen Y 9 (.pv (.str s)) = some s.length := by simp [aLen]
theorem min_at (s : Bs) (n : Nat) : aMinMax false [.pv (.int .i64 (s.length : Int)), .pv (.int .i64 (n : Int))] = some (.i ((min s.length n : Nat) : Int)) := by
  by_cases h : n < s.length
  · have h1 : (n : Int) < (s.length : Int) := by omega
    simp [aMinMax, h1]; omega
  · have h1 : ¬ (n : Int) < (s.length : Int) := by omega
    simp [-Int.not_lt, aMinMax, h1]; omega
theorem take_min (s : Bs) (n : Nat) : s.take (min s.length n) = s.take n := by
  by_cases h : n < s.length
  · rw [Nat.min_eq_right (by omega)]
  · rw [Nat.min_eq_left (by omega), List.take_of_length_le (by omega), List.take_of_length_le (by omega)]
theorem min40 (s : Bs) : aMinMax false [.pv (.int .i64 (s.length : Int)), .pv (.int .i64 40)] = some (.i ((min s.length 40 : Nat) : Int)) := min_at s 40
theorem min100 (s : Bs) : aMinMax false [.pv (.int .i64 (s.length : Int)), .pv (.int .i64 100)] = some (.i ((min s.length 100 : Nat) : Int)) := min_at s 100
def cutA (a : Bs × Bs) : Bs × Bs := (a.1.take 40, a.2.take 100)
/-- Cut short. -/
def cutN : Nat → Nd → Nd
  | 0, n => .mk (n.name.take 40) ((n.attrs.take 34).map cutA) (n.text.take 100) []
  | lv + 1, n => .mk (n.name.take 40) ((n.attrs.take 34).map cutA) (n.text.take 100) (if lv = 0 then [] else (n.kids.take 4).map (cutN lv))
def F11n (lv : Nat) : List SV → Option SV
  | [v, .pv (.int .i64 l)] => if l = (lv : Nat) ∧ 1 ≤ lv then (match argN v with
    | some n => some (encS (cutN lv n))
    | none => none) else none
  | _ => none
theorem F11n_ok {lv : Nat} {v : SV} {n : Nd} (hl : 1 ≤ lv) (h : argN v = some n) : F11n lv [v, .i (lv : Nat)] = some (encS (cutN lv n)) := by
  simp only [F11n, h]; rw [if_pos ⟨trivial, hl⟩]
noncomputable def T11 (lv : Nat) : FuncId → Option Pm.Spec := tab [(11, .pure false (F11n lv))]
theorem T11_eq (lv g : Nat) : T11 lv g = tab [(11, .pure false (F11n lv))] g := rfl
theorem loop11a {F : List Fr} {P : SV × List Blk → Prop} {rs : List ResultVar} {q lv : Nat} {nm tx : Bs} {nm' tx' : Bs} {a k : PV} {l : List (Bs × Bs)} (ha : atP a = some l) : ∀ (r i : Nat) (H : List Blk) (A : SV), i + r = min l.length 34 →
    H[0]? = some (.box (some 25) [.pv (.str nm), .pv a, .pv (.str tx), .pv k]) → H[1]? = some (.box (some 25) [.pv (.str []), .pv .nilSlice, .pv (.str []), .pv .nilSlice]) → H[2]? = some (.box (some 25) [.pv (.str nm'), A, .pv (.str tx'), .pv .nilSlice]) → Acc 56 2 H (((l.take i).map cutA).map atRow) A →
    (∀ H' A', H'[0]? = some (.box (some 25) [.pv (.str nm), .pv a, .pv (.str tx), .pv k]) → H'[1]? = some (.box (some 25) [.pv (.str []), .pv .nilSlice, .pv (.str []), .pv .nilSlice]) → H'[2]? = some (.box (some 25) [.pv (.str nm'), A', .pv (.str tx'), .pv .nilSlice]) → Acc 56 2 H' (((l.take 34).map cutA).map atRow) A' →
      X Y (T11 q) rs F (.exit 0) ⟨mk 99 .J [(1, .i (lv : Nat)), (2, .ptr 0 0), (4, .ptr 1 0), (5, .ptr 2 0)], H'⟩ P) →
    X Y (T11 q) rs F (.loop (loopN Tryz.f11 0)) ⟨mk 99 .J [(1, .i (lv : Nat)), (2, .ptr 0 0), (4, .ptr 1 0), (5, .ptr 2 0), (6, .i (i : Nat))], H⟩ P := by
  have hal := (at_len ha).2
  intro r
  induction r with
  | zero =>
    intro i H A e h0 h1 h2 hA hx
    have e1 : i = min l.length 34 := by omega
    have e2 : l.take i = l.take 34 := by
      rw [e1]
      by_cases h : 34 < l.length
      · rw [Nat.min_eq_right (by omega)]
      · rw [Nat.min_eq_left (by omega), List.take_of_length_le (by omega), List.take_of_length_le (by omega)]
    rw [e2] at hA
    apply X_loop_of
    · simp only [loopN, Tryz.f11, loopsOf, List.nil_append, List.append_nil, List.cons_append, List.getD_cons_succ, List.getD_cons_zero]; rfl
    by_cases h : i < l.length
    · have c1 : ((i : Nat) : Int) < (l.length : Nat) := by omega
      have c2 : ¬ ((i : Nat) : Int) < 34 := by omega
      have c3 : ¬ i < 34 := by omega
      simp [-Int.not_lt, -Int.not_le, -aLen, -getElem?_pos, List.getElem?_cons_zero, List.getElem?_cons_succ, h0, hal, h, c1, c2, c3]
      refine X_keep (hx H A h0 h1 h2 hA) (by simp)
    · have c1 : ¬ ((i : Nat) : Int) < (l.length : Nat) := by omega
      simp [-Int.not_lt, -Int.not_le, -aLen, -getElem?_pos, List.getElem?_cons_zero, List.getElem?_cons_succ, h0, hal, h, c1]
      refine X_keep (hx H A h0 h1 h2 hA) (by simp)
  | succ r ih =>
    intro i H A e h0 h1 h2 hA hx
    have hi : i < l.length := by omega
    have hi34 : i < 34 := by omega
    obtain ⟨x, hxi⟩ : ∃ x, l[i]? = some x := ⟨_, List.getElem?_eq_getElem hi⟩
    have hat := (at_at ha hxi).2
    have q3 := next_i (m := i) (by omega)
    have c4 : ((i : Nat) : Int) < (l.length : Nat) := by omega
    have c5 : ((i : Nat) : Int) < 34 := by omega
    obtain ⟨A', H2, a1, a2, a3⟩ := app22 (cutA x) (by simp; omega) hA
    have hsn : ((l.take i).map cutA).map atRow ++ [atRow (cutA x)] = ((l.take (i + 1)).map cutA).map atRow := by rw [take_snoc' hxi, List.map_append, List.map_append]; rfl
    rw [hsn] at a2
    have a1 : aAppend Y H 22 22 A (.tight 2 [[.str (x.1.take 40), .str (x.2.take 100)]]) = some (A', H2) := a1
    have k0 := a3 _ _ h0
    have k1 := a3 _ _ h1
    have k2 := a3 _ _ h2
    have hlt := (List.getElem?_eq_some_iff.1 k2).1
    have m1 := min40 x.1
    have m2 := min100 x.2
    have t1 := take_min x.1 40
    have t2 := take_min x.2 100
    have b1 : min x.1.length 40 ≤ x.1.length := Nat.min_le_left _ _
    have b2 : min x.2.length 100 ≤ x.2.length := Nat.min_le_left _ _
    have z1 : ((min x.1.length 40 : Nat) : Int).toNat = min x.1.length 40 := Int.toNat_natCast _
    have z2 : ((min x.2.length 100 : Nat) : Int).toNat = min x.2.length 100 := Int.toNat_natCast _
    have y1 : (0 : Int) ≤ ((min x.1.length 40 : Nat) : Int) := by omega
    have y2 : (0 : Int) ≤ ((min x.2.length 100 : Nat) : Int) := by omega
    generalize ((min x.1.length 40 : Nat) : Int) = E1 at *
    generalize ((min x.2.length 100 : Nat) : Int) = E2 at *
    generalize min x.1.length 40 = n1 at *
    generalize min x.2.length 100 = n2 at *
    apply X_loop_of
    · simp only [loopN, Tryz.f11, loopsOf, List.nil_append, List.append_nil, List.cons_append, List.getD_cons_succ, List.getD_cons_zero]; rfl
    simp [-Int.natCast_add, -Int.not_lt, -Int.not_le, -aIndexAddr, -aLen, -aAppend, -aMinMax, -cellsOf, -getElem?_pos, List.getElem?_cons_zero, List.getElem?_cons_succ, h0, h2, hal, len9, q3, c4, c5, hi, hi34, hat, m1, m2, t1, t2, b1, b2, z1, z2, y1, y2, hA.live, a1, a2.live, acc_cells a2, cells_pv, cells_agg, k2, hlt]
    refine X_keep (ih (i + 1) (H2.set 2 (.box (some 25) [.pv (.str nm'), A', .pv (.str tx'), .pv .nilSlice])) A' (by omega) ?_ ?_ ?_ (a2.box k2) hx) ?_
    · rw [List.getElem?_set_ne (by decide)]; exact k0
    · rw [List.getElem?_set_ne (by decide)]; exact k1
    · rw [List.getElem?_set_self hlt]
    · simp
theorem loop11b {F : List Fr} {P : SV × List Blk → Prop} {rs : List ResultVar} {lv : Nat} (hlv : lv ≤ 100) {nm tx nm' tx' : Bs} {a k : PV} {A : SV} {ks : List Nd} (hk : kidP k = some ks) : ∀ (r i : Nat) (H : List Blk) (K : SV), i + r = (if lv = 0 then 0 else min ks.length 4) →
    H[0]? = some (.box (some 25) [.pv (.str nm), .pv a, .pv (.str tx), .pv k]) → H[1]? = some (.box (some 25) [.pv (.str []), .pv .nilSlice, .pv (.str []), .pv .nilSlice]) → H[2]? = some (.box (some 25) [.pv (.str nm'), A, .pv (.str tx'), K]) → Acc 25 4 H (encL ((ks.take i).map (cutN lv))) K →
    (∀ H' K', H'[1]? = some (.box (some 25) [.pv (.str []), .pv .nilSlice, .pv (.str []), .pv .nilSlice]) → H'[2]? = some (.box (some 25) [.pv (.str nm'), A, .pv (.str tx'), K']) → Acc 25 4 H' (encL (if lv = 0 then [] else (ks.take 4).map (cutN lv))) K' →
      X Y (T11 lv) rs F (.exit 2) ⟨mk 99 .J [(4, .ptr 1 0), (5, .ptr 2 0)], H'⟩ P) →
    X Y (T11 lv) rs F (.loop (loopN Tryz.f11 1)) ⟨mk 99 .J [(1, .i (lv + 1 : Nat)), (2, .ptr 0 0), (4, .ptr 1 0), (5, .ptr 2 0), (7, .i (i : Nat))], H⟩ P := by
  have hal := (kid_len hk).2
  intro r
  induction r with
  | zero =>
    intro i H K e h0 h1 h2 hA hx
    have e2 : (ks.take i).map (cutN lv) = if lv = 0 then [] else (ks.take 4).map (cutN lv) := by
      by_cases h : lv = 0
      · rw [if_pos h] at e ⊢
        rw [show i = 0 by omega]; rfl
      · rw [if_neg h] at e ⊢
        congr 1
        by_cases h4 : 4 < ks.length
        · rw [show i = 4 by omega]
        · rw [List.take_of_length_le (by omega), List.take_of_length_le (by omega)]
    rw [e2] at hA
    have hx := hx H K h1 h2 hA
    apply X_loop_of
    · simp only [loopN, Tryz.f11, loopsOf, List.nil_append, List.append_nil, List.cons_append, List.getD_cons_succ, List.getD_cons_zero]; rfl
    by_cases h : i < ks.length
    · have c1 : ((i : Nat) : Int) < (ks.length : Nat) := by omega
      by_cases h4 : i < 4
      · have c2 : ((i : Nat) : Int) < 4 := by omega
        have c3 : ¬ (1 : Int) < ((lv + 1 : Nat) : Int) := by
          by_cases hl0 : lv = 0
          · omega
          · rw [if_neg hl0] at e; omega
        have c3' : lv = 0 := by omega
        simp [-Int.natCast_add, -Int.not_lt, -Int.not_le, -aLen, -getElem?_pos, List.getElem?_cons_zero, List.getElem?_cons_succ, h0, hal, h, c1, c2, h4, c3]
        refine X_keep hx (by simp)
      · have c2 : ¬ ((i : Nat) : Int) < 4 := by omega
        simp [-Int.natCast_add, -Int.not_lt, -Int.not_le, -aLen, -getElem?_pos, List.getElem?_cons_zero, List.getElem?_cons_succ, h0, hal, h, c1, c2, h4]
        refine X_keep hx (by simp)
    · have c1 : ¬ ((i : Nat) : Int) < (ks.length : Nat) := by omega
      simp [-Int.natCast_add, -Int.not_lt, -Int.not_le, -aLen, -getElem?_pos, List.getElem?_cons_zero, List.getElem?_cons_succ, h0, hal, h, c1]
      refine X_keep hx (by simp)
  | succ r ih =>
    intro i H K e h0 h1 h2 hA hx
    have hl0 : ¬ lv = 0 := by intro h; rw [if_pos h] at e; omega
    have e' := e
    rw [if_neg hl0] at e'
    have hi : i < ks.length := by omega
    obtain ⟨n, hn⟩ : ∃ n, ks[i]? = some n := ⟨_, List.getElem?_eq_getElem hi⟩
    obtain ⟨nm1, a', tx1, k', -, hat, hv⟩ := kid_at hk hn
    have f1 := F11n_ok (lv := lv) (by omega) hv
    unfold encS at f1
    have q3 := next_i (m := i) (by omega)
    have c4 : ((i : Nat) : Int) < (ks.length : Nat) := by omega
    have c5 : ((i : Nat) : Int) < 4 := by omega
    have c6 : (1 : Int) < ((lv + 1 : Nat) : Int) := by omega
    have hi4 : i < 4 := by omega
    have w1 : IntKind.i64.wrap (((lv + 1 : Nat) : Int) - 1) = (lv : Nat) := by rw [wrap64 (by omega) (by omega)]; omega
    obtain ⟨K', H2, a1, a2, a3⟩ := app23 (cutN lv n).enc (by rw [encL_len, List.length_map, List.length_take]; omega) hA
    rw [← encL_snoc, show (ks.take i).map (cutN lv) ++ [cutN lv n] = (ks.take (i + 1)).map (cutN lv) by rw [take_snoc' hn, List.map_append]; rfl] at a2
    rw [enc_eq] at a1
    have k0 := a3 _ _ h0
    have k1 := a3 _ _ h1
    have k2 := a3 _ _ h2
    have hlt := (List.getElem?_eq_some_iff.1 k2).1
    apply X_loop_of
    · simp only [loopN, Tryz.f11, loopsOf, List.nil_append, List.append_nil, List.cons_append, List.getD_cons_succ, List.getD_cons_zero]; rfl
    simp [-Int.natCast_add, -Int.not_lt, -Int.not_le, -aIndexAddr, -aLen, -aAppend, -cellsOf, -getElem?_pos, List.getElem?_cons_zero, List.getElem?_cons_succ, T11_eq, h0, h2, hal, q3, c4, c5, c6, w1, hi, hi4, hat, f1, hA.live, a1, a2.live, acc_cells a2, cells_pv, cells_agg, k2, hlt]
    refine X_keep (ih (i + 1) (H2.set 2 (.box (some 25) [.pv (.str nm'), A, .pv (.str tx'), K'])) K' (by omega) ?_ ?_ ?_ (a2.box k2) hx) ?_
    · rw [List.getElem?_set_ne (by decide)]; exact k0
    · rw [List.getElem?_set_ne (by decide)]; exact k1
    · rw [List.getElem?_set_self hlt]
    · simp
theorem x11 {lv : Nat} {a k : PV} {n : Nd} (hlv : lv ≤ 100) (ha : atP a = some n.attrs) (hk : kidP k = some n.kids) : XFn Y (T11 lv) Tryz.f11 [nodeS n.name a n.text k, .i (lv + 1 : Nat)] [] (Is (encS (cutN (lv + 1) n))) := by
  unfold XFn Tryz.f11
  rw [enter_2 _ (by decide)]
  have La := fun F P rs H => loop11a (F := F) (P := P) (rs := rs) (q := lv) (lv := lv + 1) (nm := n.name) (tx := n.text) (nm' := n.name.take 40) (tx' := n.text.take 100) (k := k) ha (min n.attrs.length 34) 0 H (.pv .nilSlice) (by omega)
  have Lb := fun F P rs H A => loop11b (F := F) (P := P) (rs := rs) (lv := lv) hlv (nm := n.name) (tx := n.text) (nm' := n.name.take 40) (tx' := n.text.take 100) (a := a) (A := A) hk (if lv = 0 then 0 else min n.kids.length 4) 0 H (.pv .nilSlice) (by omega)
  have m1 := min40 n.name
  have m2 := min100 n.text
  have t1 := take_min n.name 40
  have t2 := take_min n.text 100
  have b1 : min n.name.length 40 ≤ n.name.length := Nat.min_le_left _ _
  have b2 : min n.text.length 100 ≤ n.text.length := Nat.min_le_left _ _
  have z1 : ((min n.name.length 40 : Nat) : Int).toNat = min n.name.length 40 := Int.toNat_natCast _
  have z2 : ((min n.text.length 100 : Nat) : Int).toNat = min n.text.length 100 := Int.toNat_natCast _
  have y1 : (0 : Int) ≤ ((min n.name.length 40 : Nat) : Int) := by omega
  have y2 : (0 : Int) ≤ ((min n.text.length 100 : Nat) : Int) := by omega
  generalize ((min n.name.length 40 : Nat) : Int) = E1 at *
  generalize ((min n.text.length 100 : Nat) : Int) = E2 at *
  generalize min n.name.length 40 = n1 at *
  generalize min n.text.length 100 = n2 at *
  simp [-Int.natCast_add, -outR, -aMinMax, m1, m2, t1, t2, b1, b2, z1, z2, y1, y2]
  refine X_keep (La _ _ _ _ rfl rfl rfl (.inl ⟨rfl, rfl⟩) fun H A g0 g1 g2 gA => ?_) (by simp)
  simp [-Int.natCast_add, -outR]
  have pA := acc_pcell gA
  have lA := gA.live
  refine X_keep (Lb _ _ _ H A g0 g1 g2 (.inl ⟨by simp [encL], rfl⟩) fun H' K e1 e2 eK => ?_) (by simp)
  have pK := acc_pcell eK
  have lK := eK.live
  have hlt := (List.getElem?_eq_some_iff.1 e1).1
  simp [-outR, -getElem?_pos, List.getElem?_cons_zero, List.getElem?_cons_succ, e1, e2, hlt, lA, lK]
  simp [-pcell, pcell_pv, encS, cutN, Nd.name, Nd.attrs, Nd.text, Nd.kids, pA, pK]
theorem F11n_of {lv : Nat} {args : List SV} {r : SV} (h : F11n lv args = some r) : ∃ (a k : PV) (n : Nd), atP a = some n.attrs ∧ kidP k = some n.kids ∧ args = [nodeS n.name a n.text k, .i (lv : Nat)] ∧ r = encS (cutN lv n) ∧ 1 ≤ lv := by
  unfold F11n at h
  split at h
  · split at h
    · rename_i hll
      obtain ⟨hll, h1⟩ := hll
      subst hll
      split at h
      · rename_i n hn
        cases h
        obtain ⟨a, k, rfl, ha, hk⟩ := argN_or hn
        exact ⟨a, k, n, ha, hk, rfl, rfl, h1⟩
      · cases h
    · cases h
  · cases h
theorem meets11 (W0 : World) : ∀ lv, lv ≤ 100 → OkAt W0 11 (F11n (lv + 1))
  | 0, _ => meets_fn (T := T11 0) env (tok_cons (OkAt.none (W0 := W0) (enterable_of Tryz.func11 (by kernel_rfl)) fun _ _ h => by obtain ⟨_, _, _, _, _, _, _, h1⟩ := F11n_of h; omega) tok_nil) mixed Tryz.func11 (by kernel_rfl) (by kernel_rfl) fun args r h => by
    obtain ⟨a, k, n, ha, hk, rfl, rfl, -⟩ := F11n_of h
    exact x11 (Nat.zero_le _) ha hk
  | lv + 1, hl => meets_fn env (tok_cons (meets11 W0 lv (by omega)) tok_nil) mixed Tryz.func11 (by kernel_rfl) (by kernel_rfl) fun args r h => by
    obtain ⟨a, k, n, ha, hk, rfl, rfl, -⟩ := F11n_of h
    exact x11 hl ha hk
end Go.Proofs.YtkckpmcpmngiiaaGreatDoor
/- The first attribute and the children with a name, by the machine. -/
set_option linter.unusedSimpArgs false
set_option linter.unusedVariables false
set_option maxRecDepth 1000000
set_option maxHeartbeats 400000
namespace Go.Proofs.YtkckpmcpmngiiaaGreatDoor
open Go Go.Pm Go.RowKit
/-- Results that are placed alike are alike. -/
theorem OkAt.place {W0 : World} {g : Nat} {F K : List SV → Option SV} (hF : OkAt W0 g F) (h : ∀ as1 r, K as1 = some r → ∃ r0, F as1 = some r0 ∧ ∀ H, placeR false H r0 = placeR false H r) : OkAt W0 g K := ⟨hF.1, fun C args vs r' H' hK I J hr => by
  have h1 : specFn (.pure false F) args C.H = some (r', H') := by
    simp only [specFn] at hK ⊢
    split at hK
    · rename_i as1 has
      split at hK
      · rename_i r hFr
        obtain ⟨r0, e1, e2⟩ := h as1 r hFr
        simp only [e1]
        rw [e2]; exact hK
      · cases hK
    · cases hK
  exact hF.2 C args vs r' H' h1 I J hr⟩
def attrOf (nm : Bs) : List (Bs × Bs) → Bs × Bool
  | [] => ([], false)
  | a :: r => if a.1 = nm then (a.2, true) else attrOf nm r
theorem attrOf_drop {l : List (Bs × Bs)} {i : Nat} {x : Bs × Bs} (n : Bs) (h : l[i]? = some x) : attrOf n (l.drop i) = if x.1 = n then (x.2, true) else attrOf n (l.drop (i + 1)) := by
  obtain ⟨h1, h2⟩ := List.getElem?_eq_some_iff.1 h
  rw [List.drop_eq_getElem_cons h1, h2]; rfl
theorem loop30 {F : List Fr} {P : SV × List Blk → Prop} {nm : Bs} {a : PV} {l : List (Bs × Bs)} (ha : atP a = some l) (hb : l.length ≤ 1000000) : ∀ (r i : Nat) (H : List Blk), i + r = l.length →
    ((attrOf nm (l.drop i)).2 = true → ∀ H, P (.tuple [.str (attrOf nm (l.drop i)).1, .bool true], H)) → (attrOf nm (l.drop i) = ([], false) → ∀ H, X Y T0 [.tmp 4, .tmp 5] F (.exit 0) ⟨mk 22 .J [], H⟩ P) →
    X Y T0 [.tmp 4, .tmp 5] F (.loop (loopN Tryz.f30 0)) ⟨mk 22 .J [(1, .str nm), (9, .pv a), (10, .i (l.length : Nat)), (11, .i (i : Nat))], H⟩ P := by
  intro r
  induction r with
  | zero =>
    intro i H e hp hx
    have e1 : i = l.length := by omega
    subst e1
    have hx := hx (by rw [List.drop_of_length_le (Nat.le_refl _)]; rfl) H
    apply X_loop_of
    · simp only [loopN, Tryz.f30, loopsOf, List.nil_append, List.append_nil, List.cons_append, List.getD_cons_succ, List.getD_cons_zero]; rfl
    simp
    refine X_keep hx (by simp)
  | succ r ih =>
    intro i H e hp hx
    have hi : i < l.length := by omega
    obtain ⟨x, hxi⟩ : ∃ x, l[i]? = some x := ⟨_, List.getElem?_eq_getElem hi⟩
    have hat := (at_at ha hxi).1
    have q3 := next_i (m := i) (by omega)
    have c4 : ((i : Nat) : Int) < (l.length : Nat) := by omega
    rw [attrOf_drop nm hxi] at hp hx
    apply X_loop_of
    · simp only [loopN, Tryz.f30, loopsOf, List.nil_append, List.append_nil, List.cons_append, List.getD_cons_succ, List.getD_cons_zero]; rfl
    by_cases hn : x.1 = nm
    · rw [if_pos hn] at hp
      simp [-Int.natCast_add, -Int.not_lt, -Int.not_le, -aIndexAddr, -getElem?_pos, List.getElem?_cons_zero, List.getElem?_cons_succ, q3, c4, hi, hat, hn, get_last, set_last]
      exact hp rfl _
    · rw [if_neg hn] at hp hx
      simp [-Int.natCast_add, -Int.not_lt, -Int.not_le, -aIndexAddr, -getElem?_pos, List.getElem?_cons_zero, List.getElem?_cons_succ, q3, c4, hi, hat, hn, get_last, set_last]
      refine X_keep (ih (i + 1) _ (by omega) hp hx) ?_
      simp
theorem attrOf_none {nm : Bs} : ∀ {l : List (Bs × Bs)}, (attrOf nm l).2 = false → attrOf nm l = ([], false)
  | [], _ => rfl
  | a :: r, h => by
    unfold attrOf at h ⊢
    by_cases hn : a.1 = nm
    · rw [if_pos hn] at h; cases h
    · rw [if_neg hn] at h ⊢; exact attrOf_none h
theorem x30 {a k : PV} {n : Nd} {nm : Bs} (ha : atP a = some n.attrs) (hb : n.attrs.length ≤ 1000000) : XFn Y T0 Tryz.f30 [nodeS n.name a n.text k, .str nm] [] (Is (.tuple [.str (attrOf nm n.attrs).1, .bool (attrOf nm n.attrs).2])) := by
  unfold XFn Tryz.f30
  rw [enter_2 _ (by decide)]
  have hl := (at_len ha).1
  have L := fun F P H => loop30 (F := F) (P := P) (nm := nm) ha hb n.attrs.length 0 H (by omega)
  simp only [List.drop_zero] at L
  simp [-Int.natCast_add, -outR, -aLen, hl]
  refine X_keep (L _ _ _ (fun h H => ?_) fun h H => ?_) (by simp)
  · simp [h]
  · simp [h]
def F30 : List SV → Option SV
  | [v, .pv (.str nm)] => match argN v with
    | some n => if n.attrs.length ≤ 1000000 then some (.tuple [.str (attrOf nm n.attrs).1, .bool (attrOf nm n.attrs).2]) else none
    | none => none
  | _ => none
theorem F30_ok {v : SV} {n : Nd} {nm : Bs} (h : argN v = some n) (hb : n.attrs.length ≤ 1000000) : F30 [v, .str nm] = some (.tuple [.str (attrOf nm n.attrs).1, .bool (attrOf nm n.attrs).2]) := by
  simp only [F30, h]; rw [if_pos hb]
theorem meets30 (W0 : World) : OkAt W0 30 F30 := meets_fn env tok_nil mixed Tryz.func30 (by kernel_rfl) (by kernel_rfl) fun args r h => by
  unfold F30 at h
  split at h
  · split at h
    · rename_i n hn
      split at h
      · rename_i hc
        cases h
        obtain ⟨a, k, rfl, ha, hk⟩ := argN_or hn
        exact x30 ha hc
      · cases h
    · cases h
  · cases h
open Classical in
/-- The element that an argument is, in the form that To makes. -/
noncomputable def argS (v : SV) : Option Nd := match argN v with
  | some n => if v = encS n then some n else none
  | none => none
theorem argS_or {v : SV} {n : Nd} (h : argS v = some n) : v = encS n := by
  unfold argS at h
  split at h
  · split at h
    · rename_i hv; cases h; exact hv
    · cases h
  · cases h
theorem argS_ok (n : Nd) : argS (encS n) = some n := by
  simp only [argS, encS_ok]; rw [if_pos trivial]
theorem encL_at : ∀ {l : List Nd} {i : Nat} {n : Nd}, l[i]? = some n → (encL l)[i]? = some n.enc
  | [], i, n, h => by simp at h
  | k :: r, 0, n, h => by simp at h; subst h; simp [encL]
  | k :: r, i + 1, n, h => by simp at h; simpa [encL] using encL_at h
theorem kidS_at {l : List Nd} {i : Nat} {n : Nd} (hi : l[i]? = some n) : aIndexAddr Y 31 (.pv (slN 4 (encL l))) (i : Nat) = some (.cptr n.enc) ∧ aIndexAddr Y 23 (.pv (slN 4 (encL l))) (i : Nat) = some (.cptr n.enc) := by
  have h1 := encL_at hi
  cases hl : encL l with
  | nil => rw [hl] at h1; simp at h1
  | cons e r =>
    rw [hl] at h1
    constructor <;> simp [slN, aIndexAddr, kindOf, aElem, h1, -getElem?_pos]
theorem kidS_len (l : List Nd) : aLen Y 31 (.pv (slN 4 (encL l))) = some l.length ∧ aLen Y 23 (.pv (slN 4 (encL l))) = some l.length := kid_len (kidP_enc l)
def named (nm : Bs) (l : List Nd) : List Nd := l.filter fun c => decide (c.name = nm)
theorem named_snoc {l : List Nd} {i : Nat} {n : Nd} (nm : Bs) (h : l[i]? = some n) : named nm (l.take (i + 1)) = if n.name = nm then named nm (l.take i) ++ [n] else named nm (l.take i) := by
  rw [take_snoc' h, named, List.filter_append]
  by_cases hn : n.name = nm <;> simp [hn, named]
theorem named_le (nm : Bs) (l : List Nd) : (named nm l).length ≤ l.length := List.length_filter_le _ _
theorem loop32 {F : List Fr} {P : SV × List Blk → Prop} {nm : Bs} {ks : List Nd} (hb : ks.length ≤ 1000000) : ∀ (r i : Nat) (H : List Blk) (A : SV), i + r = ks.length → Acc 33 4 H (encL (named nm (ks.take i))) A →
    (∀ H A, Acc 33 4 H (encL (named nm ks)) A → X Y T0 [.tmp 4] F (.exit 0) ⟨mk 25 .J [(5, A)], H⟩ P) →
    X Y T0 [.tmp 4] F (.loop (loopN Tryz.f32 0)) ⟨mk 25 .J [(1, .str nm), (5, A), (9, .pv (slN 4 (encL ks))), (10, .i (ks.length : Nat)), (11, .i (i : Nat))], H⟩ P := by
  intro r
  induction r with
  | zero =>
    intro i H A e hA hx
    have e1 : i = ks.length := by omega
    subst e1
    rw [List.take_of_length_le (Nat.le_refl _)] at hA
    apply X_loop_of
    · simp only [loopN, Tryz.f32, loopsOf, List.nil_append, List.append_nil, List.cons_append, List.getD_cons_succ, List.getD_cons_zero]; rfl
    simp
    refine X_keep (hx H A hA) (by simp)
  | succ r ih =>
    intro i H A e hA hx
    have hi : i < ks.length := by omega
    obtain ⟨n, hn⟩ : ∃ n, ks[i]? = some n := ⟨_, List.getElem?_eq_getElem hi⟩
    have hat := (kidS_at hn).1
    rw [enc_eq] at hat
    have q3 := next_i (m := i) (by omega)
    have c4 : ((i : Nat) : Int) < (ks.length : Nat) := by omega
    have hs := named_snoc nm hn
    have hle := named_le nm (ks.take i)
    rw [List.length_take] at hle
    apply X_loop_of
    · simp only [loopN, Tryz.f32, loopsOf, List.nil_append, List.append_nil, List.cons_append, List.getD_cons_succ, List.getD_cons_zero]; rfl
    have hA2 := hA.more [.box (some 33) [.pv (.str n.name), .pv (slN 2 (n.attrs.map atRow)), .pv (.str n.text), .pv (slN 4 (encL n.kids))]]
    by_cases hnm : n.name = nm
    · obtain ⟨K', H2, a1, a2, a3⟩ := app31 n.enc (by rw [encL_len]; omega) hA2
      rw [enc_eq] at a1
      rw [← encL_snoc] at a2
      rw [if_pos hnm] at hs
      rw [← hs] at a2
      have hlv := hA.live
      rw [hnm] at a1 hat
      simp [-Int.natCast_add, -Int.not_lt, -Int.not_le, -aIndexAddr, -aAppend, -getElem?_pos, List.getElem?_cons_zero, List.getElem?_cons_succ, q3, c4, hi, hat, get_last, set_last, hlv, a1, hnm, a2.live]
      refine X_keep (ih (i + 1) _ _ (by omega) a2 hx) ?_
      simp
    · rw [if_neg hnm] at hs
      rw [← hs] at hA2
      simp [-Int.natCast_add, -Int.not_lt, -Int.not_le, -aIndexAddr, -aAppend, -getElem?_pos, List.getElem?_cons_zero, List.getElem?_cons_succ, q3, c4, hi, hat, get_last, set_last, hnm]
      refine X_keep (ih (i + 1) _ _ (by omega) hA2 hx) ?_
      simp
def frK (l : List Nd) : SV := if encL l = [] then .pv .nilSlice else .fresh 33 4 (encL l)
theorem x32 {n : Nd} {nm : Bs} (hb : n.kids.length ≤ 1000000) : XFn Y T0 Tryz.f32 [encS n, .str nm] [] (Is (frK (named nm n.kids))) := by
  unfold XFn Tryz.f32 encS nodeS
  rw [enter_2 _ (by decide)]
  have hl := (kidS_len n.kids).1
  have L := fun F P H => loop32 (F := F) (P := P) (nm := nm) (ks := n.kids) hb n.kids.length 0 H (.pv .nilSlice) (by omega) (.inl ⟨rfl, rfl⟩)
  simp [-Int.natCast_add, -outR, -aLen, hl]
  refine X_keep (L _ _ _ fun H A hA => ?_) (by simp)
  have h1 := hA.outR
  have h2 := hA.live
  simp [-outR, h2, h1, frK]
noncomputable def F32f : List SV → Option SV
  | [v, .pv (.str nm)] => match argS v with
    | some n => if n.kids.length ≤ 1000000 then some (frK (named nm n.kids)) else none
    | none => none
  | _ => none
noncomputable def F32 : List SV → Option SV
  | [v, .pv (.str nm)] => match argS v with
    | some n => if n.kids.length ≤ 1000000 then some (.pv (slN 4 (encL (named nm n.kids)))) else none
    | none => none
  | _ => none
theorem F32_ok {n : Nd} {nm : Bs} (hb : n.kids.length ≤ 1000000) : F32 [encS n, .str nm] = some (.pv (slN 4 (encL (named nm n.kids)))) := by
  simp only [F32, argS_ok]; rw [if_pos hb]
theorem frK_place (l : List Nd) (H : List Blk) : placeR false H (frK l) = placeR false H (.pv (slN 4 (encL l))) := by
  unfold frK
  cases encL l <;> rfl
theorem meets32 (W0 : World) : OkAt W0 32 F32 := by
  have h0 : OkAt W0 32 F32f := meets_fn env tok_nil mixed Tryz.func32 (by kernel_rfl) (by kernel_rfl) fun args r h => by
    unfold F32f at h
    split at h
    · split at h
      · rename_i n hn
        split at h
        · rename_i hc
          cases h
          rw [argS_or hn]
          exact x32 hc
        · cases h
      · cases h
    · cases h
  refine h0.place fun as1 r h => ?_
  unfold F32 at h
  split at h
  · split at h
    · rename_i n hn
      split at h
      · rename_i hc
        cases h
        exact ⟨_, by simp only [F32f, hn]; rw [if_pos hc], frK_place _⟩
      · cases h
    · cases h
  · cases h
noncomputable def T31 : FuncId → Option Pm.Spec := tab [(32, .pure false F32)]
theorem T31_eq (g : Nat) : T31 g = tab [(32, .pure false F32)] g := rfl
def childOf (nm : Bs) (n : Nd) : Nd × Bool := match named nm n.kids with
  | [] => (.mk [] [] [] [], false)
  | c :: _ => (c, true)
theorem zeroS : encS (.mk [] [] [] []) = .agg [.pv (.str []), .pv .nilSlice, .pv (.str []), .pv .nilSlice] := by
  simp only [encS, nodeS, Nd.name, Nd.attrs, Nd.text, Nd.kids, List.map_nil, encL, slN]
theorem x31 {n : Nd} {nm : Bs} (hb : n.kids.length ≤ 1000000) : XFn Y T31 Tryz.f31 [encS n, .str nm] [] (Is (.tuple [encS (childOf nm n).1, .bool (childOf nm n).2])) := by
  have f1 := F32_ok (nm := nm) hb
  have hle := named_le nm n.kids
  unfold encS nodeS at f1
  unfold XFn Tryz.f31
  rw [show encS n = nodeS n.name (slN 2 (n.attrs.map atRow)) n.text (slN 4 (encL n.kids)) from rfl, nodeS, enter_2 _ (by decide)]
  have hl := (kidS_len (named nm n.kids)).1
  unfold childOf
  cases hc : named nm n.kids with
  | nil =>
    rw [hc, show slN 4 (encL []) = .nilSlice by simp only [encL, slN]] at f1
    simp [T31_eq, f1, zeroS]
  | cons c r =>
    have hat := (kidS_at (l := named nm n.kids) (i := 0) (n := c) (by rw [hc]; rfl)).1
    rw [enc_eq] at hat
    rw [hc] at f1 hl hat hle
    have c1 : (0 : Int) < ((c :: r).length : Nat) := by simp
    have hat : aIndexAddr Y 31 (.pv (slN 4 (encL (c :: r)))) 0 = _ := hat
    generalize (c :: r).length = ll at *
    generalize slN 4 (encL (c :: r)) = kk at *
    have c2 : 0 < ll := by omega
    simp [-Int.natCast_add, -Int.not_lt, -Int.not_le, -aLen, -aIndexAddr, T31_eq, f1, hl, hat, c1, c2, encS, nodeS]
noncomputable def F31 : List SV → Option SV
  | [v, .pv (.str nm)] => match argS v with
    | some n => if n.kids.length ≤ 1000000 then some (.tuple [encS (childOf nm n).1, .bool (childOf nm n).2]) else none
    | none => none
  | _ => none
theorem F31_ok {n : Nd} {nm : Bs} (hb : n.kids.length ≤ 1000000) : F31 [encS n, .str nm] = some (.tuple [encS (childOf nm n).1, .bool (childOf nm n).2]) := by
  simp only [F31, argS_ok]; rw [if_pos hb]
theorem meets31 (W0 : World) : OkAt W0 31 F31 := meets_fn env (tok_cons (meets32 W0) tok_nil) mixed Tryz.func31 (by kernel_rfl) (by kernel_rfl) fun args r h => by
  unfold F31 at h
  split at h
  · split at h
    · rename_i n hn
      split at h
      · rename_i hc
        cases h
        rw [argS_or hn]
        exact x31 hc
      · cases h
    · cases h
  · cases h
end Go.Proofs.YtkckpmcpmngiiaaGreatDoor
/- Equality of elements, by the machine. -/
set_option linter.unusedSimpArgs false
set_option linter.unusedVariables false
set_option maxRecDepth 1000000
set_option maxHeartbeats 400000
namespace Go.Proofs.YtkckpmcpmngiiaaGreatDoor
open Go Go.Pm Go.RowKit
open Classical in
noncomputable def eqB {α : Type} (a b : α) : Bool := decide (a = b)
theorem eqB_t {α : Type} {a b : α} (h : a = b) : eqB a b = true := by unfold eqB; simp [h]
theorem eqB_f {α : Type} {a b : α} (h : ¬ a = b) : eqB a b = false := by unfold eqB; simp [h]
theorem eqB_iff {α : Type} {a b : α} : eqB a b = true ↔ a = b := by unfold eqB; simp
theorem nd_ext {a b : Nd} (h1 : a.name = b.name) (h2 : a.attrs = b.attrs) (h3 : a.text = b.text) (h4 : a.kids = b.kids) : a = b := by
  cases a; cases b
  simp only [Nd.name, Nd.attrs, Nd.text, Nd.kids] at h1 h2 h3 h4
  subst h1; subst h2; subst h3; subst h4; rfl
theorem take_step {α : Type} {l l' : List α} {i : Nat} {x y : α} (hx : l[i]? = some x) (hy : l'[i]? = some y) (h : l.take i = l'.take i) (e : x = y) : l.take (i + 1) = l'.take (i + 1) := by
  rw [take_snoc' hx, take_snoc' hy, h, e]
theorem ne_at {α : Type} {l l' : List α} {i : Nat} {x y : α} (hx : l[i]? = some x) (hy : l'[i]? = some y) (e : ¬ x = y) : ¬ l = l' := by
  intro h; subst h; rw [hx] at hy; cases hy; exact e rfl
theorem take_all {α : Type} {l l' : List α} {i : Nat} (h1 : l.length ≤ i) (h2 : l'.length ≤ i) (h : l.take i = l'.take i) : l = l' := by
  rwa [List.take_of_length_le h1, List.take_of_length_le h2] at h
noncomputable def E16n (m : Nat) : List SV → Option SV
  | [v, w] => match argN v, argN w with
    | some a, some b => if a.count ≤ m ∧ a.count ≤ 1000000 ∧ a.ok = true then some (.bool (eqB a b)) else none
    | _, _ => none
  | _ => none
theorem E16n_ok {m : Nat} {v w : SV} {a b : Nd} (h : argN v = some a) (h' : argN w = some b) (h1 : a.count ≤ m) (h2 : a.count ≤ 1000000) (h3 : a.ok = true) : E16n m [v, w] = some (.bool (eqB a b)) := by
  simp only [E16n, h, h']; rw [if_pos ⟨h1, h2, h3⟩]
theorem of_E16n {m : Nat} {args : List SV} {r : SV} {Q : Prop} (h : E16n m args = some r) (k : ∀ v w a b, argN v = some a → argN w = some b → args = [v, w] → r = .bool (eqB a b) → a.count ≤ m → a.count ≤ 1000000 → a.ok = true → Q) : Q := by
  unfold E16n at h
  split at h
  · split at h
    · rename_i a b ha hb
      split at h
      · rename_i hc
        cases h
        exact k _ _ a b ha hb rfl rfl hc.1 hc.2.1 hc.2.2
      · cases h
    · cases h
  · cases h
noncomputable def T16 (m : Nat) : FuncId → Option Pm.Spec := tab [(16, .pure false (E16n m))]
theorem T16_eq (m g : Nat) : T16 m g = tab [(16, .pure false (E16n m))] g := rfl
theorem loop16a {F : List Fr} {P : SV × List Blk → Prop} {m : Nat} {nm tx nm' tx' : Bs} {a k a' k' : PV} {l l' : List (Bs × Bs)} (ha : atP a = some l) (ha' : atP a' = some l') (hl : l.length ≤ 100000) (hll : l.length = l'.length) : ∀ (r i : Nat), i + r = l.length → l.take i = l'.take i →
    (¬ l = l' → P (.bool false, [ndB nm a tx k, ndB nm' a' tx' k'])) → (l = l' → X Y (T16 m) [.tmp 4] F (.exit 0) ⟨mk 74 .J [(2, .ptr 0 0), (3, .ptr 1 0)], [ndB nm a tx k, ndB nm' a' tx' k']⟩ P) →
    X Y (T16 m) [.tmp 4] F (.loop (loopN Tryz.f16 0)) ⟨mk 74 .J [(2, .ptr 0 0), (3, .ptr 1 0), (5, .i (i : Nat))], [ndB nm a tx k, ndB nm' a' tx' k']⟩ P := by
  have hal := (at_len ha).2
  intro r
  induction r with
  | zero =>
    intro i e ht hp hx
    have e1 : i = l.length := by omega
    subst e1
    apply X_loop_of
    · simp only [loopN, Tryz.f16, loopsOf, List.nil_append, List.append_nil, List.cons_append, List.getD_cons_succ, List.getD_cons_zero]; rfl
    simp [-aLen, hal]
    refine X_keep (hx (take_all (Nat.le_refl _) (by omega) ht)) (by simp)
  | succ r ih =>
    intro i e ht hp hx
    have hi : i < l.length := by omega
    obtain ⟨x, hxi⟩ : ∃ x, l[i]? = some x := ⟨_, List.getElem?_eq_getElem hi⟩
    obtain ⟨y, hyi⟩ : ∃ y, l'[i]? = some y := ⟨_, List.getElem?_eq_getElem (by omega)⟩
    have hat := (at_at ha hxi).2
    have hat' := (at_at ha' hyi).2
    have q3 := next_i (m := i) (by omega)
    have c4 : ((i : Nat) : Int) < (l.length : Nat) := by omega
    obtain ⟨x1, x2⟩ := x
    obtain ⟨y1, y2⟩ := y
    apply X_loop_of
    · simp only [loopN, Tryz.f16, loopsOf, List.nil_append, List.append_nil, List.cons_append, List.getD_cons_succ, List.getD_cons_zero]; rfl
    by_cases h1 : x1 = y1
    · by_cases h2 : x2 = y2
      · simp [-Int.natCast_add, -Int.not_lt, -Int.not_le, -aIndexAddr, -aLen, -getElem?_pos, List.getElem?_cons_zero, List.getElem?_cons_succ, hal, q3, c4, hi, hat, hat', h1, h2]
        refine X_keep (ih (i + 1) (by omega) (take_step hxi hyi ht (by rw [h1, h2])) hp hx) ?_
        simp
      · have hp := hp (ne_at hxi hyi (by simp [h2]))
        simp [-Int.natCast_add, -Int.not_lt, -Int.not_le, -aIndexAddr, -aLen, -getElem?_pos, List.getElem?_cons_zero, List.getElem?_cons_succ, hal, q3, c4, hi, hat, hat', h1, h2]
        exact hp
    · have hp := hp (ne_at hxi hyi (by simp [h1]))
      simp [-Int.natCast_add, -Int.not_lt, -Int.not_le, -aIndexAddr, -aLen, -getElem?_pos, List.getElem?_cons_zero, List.getElem?_cons_succ, hal, q3, c4, hi, hat, hat', h1]
      exact hp
theorem loop16b {F : List Fr} {P : SV × List Blk → Prop} {m : Nat} {nm tx nm' tx' : Bs} {a k a' k' : PV} {l l' : List Nd} (ha : kidP k = some l) (ha' : kidP k' = some l') (hm : ∀ n ∈ l, n.count ≤ m) (hb : countL l < 1000000) (hok : okL l = true) (hll : l.length = l'.length) : ∀ (r i : Nat), i + r = l.length → l.take i = l'.take i →
    (¬ l = l' → P (.bool false, [ndB nm a tx k, ndB nm' a' tx' k'])) → (l = l' → X Y (T16 m) [.tmp 4] F (.exit 2) ⟨mk 74 .J [], [ndB nm a tx k, ndB nm' a' tx' k']⟩ P) →
    X Y (T16 m) [.tmp 4] F (.loop (loopN Tryz.f16 1)) ⟨mk 74 .J [(2, .ptr 0 0), (3, .ptr 1 0), (6, .i (i : Nat))], [ndB nm a tx k, ndB nm' a' tx' k']⟩ P := by
  have hal := (kid_len ha).2
  have hlen := countL_ge l
  intro r
  induction r with
  | zero =>
    intro i e ht hp hx
    have e1 : i = l.length := by omega
    subst e1
    apply X_loop_of
    · simp only [loopN, Tryz.f16, loopsOf, List.nil_append, List.append_nil, List.cons_append, List.getD_cons_succ, List.getD_cons_zero]; rfl
    simp [-aLen, hal]
    refine X_keep (hx (take_all (Nat.le_refl _) (by omega) ht)) (by simp)
  | succ r ih =>
    intro i e ht hp hx
    have hi : i < l.length := by omega
    obtain ⟨x, hxi⟩ : ∃ x, l[i]? = some x := ⟨_, List.getElem?_eq_getElem hi⟩
    obtain ⟨y, hyi⟩ : ∃ y, l'[i]? = some y := ⟨_, List.getElem?_eq_getElem (by omega)⟩
    have hmem := List.mem_of_getElem? hxi
    obtain ⟨p1, p2, p3, p4, -, hat, hv⟩ := kid_at ha hxi
    obtain ⟨q1, q2, q3, q4, -, hat', hw⟩ := kid_at ha' hyi
    have hc := count_kid hmem
    have f1 := E16n_ok hv hw (hm x hmem) (by omega) (ok_kid hok hmem)
    have n3 := next_i (m := i) (by omega)
    have c4 : ((i : Nat) : Int) < (l.length : Nat) := by omega
    apply X_loop_of
    · simp only [loopN, Tryz.f16, loopsOf, List.nil_append, List.append_nil, List.cons_append, List.getD_cons_succ, List.getD_cons_zero]; rfl
    by_cases h1 : x = y
    · rw [eqB_t h1] at f1
      simp [-Int.natCast_add, -Int.not_lt, -Int.not_le, -aIndexAddr, -aLen, -getElem?_pos, List.getElem?_cons_zero, List.getElem?_cons_succ, T16_eq, hal, n3, c4, hi, hat, hat', f1]
      refine X_keep (ih (i + 1) (by omega) (take_step hxi hyi ht h1) hp hx) ?_
      simp
    · have hp := hp (ne_at hxi hyi h1)
      rw [eqB_f h1] at f1
      simp [-Int.natCast_add, -Int.not_lt, -Int.not_le, -aIndexAddr, -aLen, -getElem?_pos, List.getElem?_cons_zero, List.getElem?_cons_succ, T16_eq, hal, n3, c4, hi, hat, hat', f1]
      exact hp
theorem x16 {m : Nat} {a k a' k' : PV} {n n' : Nd} (ha : atP a = some n.attrs) (hk : kidP k = some n.kids) (ha' : atP a' = some n'.attrs) (hk' : kidP k' = some n'.kids) (h1 : n.count ≤ m + 1) (h2 : n.count ≤ 1000000) (h3 : n.ok = true) : XFn Y (T16 m) Tryz.f16 [nodeS n.name a n.text k, nodeS n'.name a' n'.text k'] [] (Is (.bool (eqB n n'))) := by
  unfold XFn Tryz.f16
  rw [enter_2 _ (by decide)]
  have hce := count_eq n
  rw [ok_eq, Bool.and_eq_true, decide_eq_true_eq] at h3
  have l1 := (at_len ha).2
  have l2 := (at_len ha').2
  have l3 := (kid_len hk).2
  have l4 := (kid_len hk').2
  by_cases e1 : n.name = n'.name
  case neg =>
    have hf : eqB n n' = false := eqB_f fun h => e1 (by rw [h])
    simp [-aLen, -Int.not_lt, -Int.not_le, e1, hf]
  by_cases e2 : n.text = n'.text
  case neg =>
    have hf : eqB n n' = false := eqB_f fun h => e2 (by rw [h])
    simp [-aLen, -Int.not_lt, -Int.not_le, e1, e2, hf]
  by_cases e3 : n.attrs.length = n'.attrs.length
  case neg =>
    have hf : eqB n n' = false := eqB_f fun h => e3 (by rw [h])
    have e3' : ¬ ((n.attrs.length : Nat) : Int) = (n'.attrs.length : Nat) := by omega
    simp [-aLen, -Int.not_lt, -Int.not_le, e1, e2, l1, l2, e3, e3', hf, beqZ, bneZ]
  by_cases e4 : n.kids.length = n'.kids.length
  case neg =>
    have hf : eqB n n' = false := eqB_f fun h => e4 (by rw [h])
    have e4' : ¬ ((n.kids.length : Nat) : Int) = (n'.kids.length : Nat) := by omega
    simp [-aLen, -Int.not_lt, -Int.not_le, e1, e2, l1, l2, e3, l3, l4, e4, e4', hf, beqZ, bneZ]
  have La := fun F P => loop16a (F := F) (P := P) (m := m) (nm := n'.name) (tx := n'.text) (nm' := n'.name) (tx' := n'.text) (k := k) (k' := k') ha ha' h3.1 e3 n.attrs.length 0 (by omega) rfl
  have Lb := fun F P => loop16b (F := F) (P := P) (m := m) (nm := n'.name) (tx := n'.text) (nm' := n'.name) (tx' := n'.text) (a := a) (a' := a') hk hk' (fun x hx => by have := count_kid hx; omega) (by omega) h3.2 e4 n.kids.length 0 (by omega) rfl
  simp [-outR, -aLen, -Int.not_lt, -Int.not_le, e1, e2, l1, l2, e3, l3, l4, e4, beqZ, bneZ]
  refine X_keep (La _ _ (fun h => ?_) (fun h => ?_)) (by simp)
  · have hf : eqB n n' = false := eqB_f fun h' => h (by rw [h'])
    simp [hf]
  · simp [-outR]
    refine X_keep (Lb _ _ (fun h' => ?_) (fun h' => ?_)) (by simp)
    · have hf : eqB n n' = false := eqB_f fun h2 => h' (by rw [h2])
      simp [hf]
    · have hf : eqB n n' = true := eqB_t (nd_ext e1 h e2 h')
      simp [hf]
theorem meets16n (W0 : World) : ∀ m, OkAt W0 16 (E16n m)
  | 0 => OkAt.none (enterable_of Tryz.func16 (by kernel_rfl)) fun args r h => by
    refine of_E16n h fun v w a b _ _ _ _ h1 _ _ => ?_
    have := count_pos a; omega
  | m + 1 => meets_fn env (tok_cons (meets16n W0 m) tok_nil) mixed Tryz.func16 (by kernel_rfl) (by kernel_rfl) fun args r h => by
    refine of_E16n h fun v w a b hv hw e1 e2 h1 h2 h3 => ?_
    subst e1; subst e2
    obtain ⟨a1, k1, rfl, g1, g2⟩ := argN_or hv
    obtain ⟨a2, k2, rfl, g3, g4⟩ := argN_or hw
    exact x16 g1 g2 g3 g4 h1 h2 h3
noncomputable def E16 : List SV → Option SV
  | [v, w] => match argN v, argN w with
    | some a, some b => if a.count ≤ 1000000 ∧ a.ok = true then some (.bool (eqB a b)) else none
    | _, _ => none
  | _ => none
theorem E16_ok {v w : SV} {a b : Nd} (h : argN v = some a) (h' : argN w = some b) (h2 : a.count ≤ 1000000) (h3 : a.ok = true) : E16 [v, w] = some (.bool (eqB a b)) := by
  simp only [E16, h, h']; rw [if_pos ⟨h2, h3⟩]
theorem E16_all {as1 : List SV} {r : SV} (h : E16 as1 = some r) : ∃ m, E16n m as1 = some r := by
  unfold E16 at h
  split at h
  · split at h
    · rename_i a b ha hb
      split at h
      · rename_i hc; cases h; exact ⟨a.count, E16n_ok ha hb (Nat.le_refl _) hc.1 hc.2⟩
      · cases h
    · cases h
  · cases h
theorem meets16 (W0 : World) : OkAt W0 16 E16 := OkAt.all (meets16n W0) fun as1 r h => E16_all h
end Go.Proofs.YtkckpmcpmngiiaaGreatDoor
/- Equal of the package, by the machine. -/
set_option linter.unusedSimpArgs false
set_option linter.unusedVariables false
set_option maxRecDepth 1000000
set_option maxHeartbeats 400000
namespace Go.Proofs.YtkckpmcpmngiiaaGreatDoor
open Go Go.Pm Go.RowKit
theorem get_2a (H : List Blk) (a b : Blk) : (H ++ [a, b])[H.length]? = some a := by simp
theorem get_2b (H : List Blk) (a b : Blk) : (H ++ [a, b])[H.length + 1]? = some b := by simp
theorem set_2b (H : List Blk) (a b c : Blk) : (H ++ [a, b]).set (H.length + 1) c = H ++ [a, c] := by simp
noncomputable def F52 : List SV → Option SV
  | [.pv a, .pv b] => match atP a, atP b with
    | some l, some l' => if l.length ≤ 100000 then some (.bool (eqB l l')) else none
    | _, _ => none
  | _ => none
theorem F52_ok {a b : PV} {l l' : List (Bs × Bs)} (ha : atP a = some l) (hb : atP b = some l') (h : l.length ≤ 100000) : F52 [.pv a, .pv b] = some (.bool (eqB l l')) := by
  simp only [F52, ha, hb]; rw [if_pos h]
theorem loop52 {F : List Fr} {P : SV × List Blk → Prop} {H : List Blk} {a a' : PV} {l l' : List (Bs × Bs)} (ha : atP a = some l) (ha' : atP a' = some l') (hl : l.length ≤ 100000) (hll : l.length = l'.length) : ∀ (r i : Nat), i + r = l.length → l.take i = l'.take i →
    (¬ l = l' → P (.bool false, H)) → (l = l' → X Y T0 [.tmp 4] F (.exit 0) ⟨mk 26 .J [], H⟩ P) →
    X Y T0 [.tmp 4] F (.loop (loopN Tryz.f52 0)) ⟨mk 26 .J [(0, .pv a), (1, .pv a'), (12, .i (l.length : Nat)), (13, .i (i : Nat))], H⟩ P := by
  intro r
  induction r with
  | zero =>
    intro i e ht hp hx
    have e1 : i = l.length := by omega
    subst e1
    apply X_loop_of
    · simp only [loopN, Tryz.f52, loopsOf, List.nil_append, List.append_nil, List.cons_append, List.getD_cons_succ, List.getD_cons_zero]; rfl
    simp
    refine X_keep (hx (take_all (Nat.le_refl _) (by omega) ht)) (by simp)
  | succ r ih =>
    intro i e ht hp hx
    have hi : i < l.length := by omega
    obtain ⟨x, hxi⟩ : ∃ x, l[i]? = some x := ⟨_, List.getElem?_eq_getElem hi⟩
    obtain ⟨y, hyi⟩ : ∃ y, l'[i]? = some y := ⟨_, List.getElem?_eq_getElem (by omega)⟩
    have hat := (at_at ha hxi).1
    have hat' := (at_at ha' hyi).1
    have q3 := next_i (m := i) (by omega)
    have c4 : ((i : Nat) : Int) < (l.length : Nat) := by omega
    obtain ⟨x1, x2⟩ := x
    obtain ⟨y1, y2⟩ := y
    apply X_loop_of
    · simp only [loopN, Tryz.f52, loopsOf, List.nil_append, List.append_nil, List.cons_append, List.getD_cons_succ, List.getD_cons_zero]; rfl
    by_cases h1 : x1 = y1
    · by_cases h2 : x2 = y2
      · simp [-Int.natCast_add, -Int.not_lt, -Int.not_le, -aIndexAddr, -aLen, -getElem?_pos, List.getElem?_cons_zero, List.getElem?_cons_succ, q3, c4, hi, hat, hat', h1, h2]
        refine X_keep (ih (i + 1) (by omega) (take_step hxi hyi ht (by rw [h1, h2])) hp hx) ?_
        simp
      · have hp := hp (ne_at hxi hyi (by simp [h2]))
        simp [-Int.natCast_add, -Int.not_lt, -Int.not_le, -aIndexAddr, -aLen, -getElem?_pos, List.getElem?_cons_zero, List.getElem?_cons_succ, q3, c4, hi, hat, hat', h1, h2]
        exact hp
    · have hp := hp (ne_at hxi hyi (by simp [h1]))
      simp [-Int.natCast_add, -Int.not_lt, -Int.not_le, -aIndexAddr, -aLen, -getElem?_pos, List.getElem?_cons_zero, List.getElem?_cons_succ, q3, c4, hi, hat, hat', h1]
      exact hp
theorem x52 {a a' : PV} {l l' : List (Bs × Bs)} (ha : atP a = some l) (ha' : atP a' = some l') (hl : l.length ≤ 100000) : XFn Y T0 Tryz.f52 [.pv a, .pv a'] [] (Is (.bool (eqB l l'))) := by
  unfold XFn Tryz.f52
  rw [enter_2 _ (by decide)]
  have l1 := (at_len ha).1
  have l2 := (at_len ha').1
  by_cases e3 : l.length = l'.length
  case neg =>
    have hf : eqB l l' = false := eqB_f fun h => e3 (by rw [h])
    have e3' : ¬ ((l.length : Nat) : Int) = (l'.length : Nat) := by omega
    simp [-aLen, -Int.not_lt, -Int.not_le, l1, l2, e3, e3', hf, beqZ, bneZ]
  have La := fun F P H => loop52 (F := F) (P := P) (H := H) ha ha' hl e3 l.length 0 (by omega) rfl
  simp [-outR, -aLen, -Int.not_lt, -Int.not_le, l1, l2, e3, beqZ, bneZ]
  rw [e3] at La
  refine X_keep (La _ _ _ (fun h => ?_) (fun h => ?_)) (by simp)
  · simp [eqB_f h]
  · simp [eqB_t h]
theorem meets52 (W0 : World) : OkAt W0 52 F52 := meets_fn env tok_nil mixed Tryz.func52 (by kernel_rfl) (by kernel_rfl) fun args r h => by
  unfold F52 at h
  split at h
  · split at h
    · rename_i l l' ha hb
      split at h
      · rename_i hc; cases h; exact x52 ha hb hc
      · cases h
    · cases h
  · cases h
noncomputable def F53n (m : Nat) : List SV → Option SV
  | [.pv a, .pv b, .pv (.fn 28)] => match kidP a, kidP b with
    | some l, some l' => if countL l ≤ m ∧ countL l < 1000000 ∧ okL l = true then some (.bool (eqB l l')) else none
    | _, _ => none
  | _ => none
theorem F53n_ok {m : Nat} {a b : PV} {l l' : List Nd} (ha : kidP a = some l) (hb : kidP b = some l') (h : countL l ≤ m) (h2 : countL l < 1000000) (h3 : okL l = true) : F53n m [.pv a, .pv b, .pv (.fn 28)] = some (.bool (eqB l l')) := by
  simp only [F53n, ha, hb]; rw [if_pos ⟨h, h2, h3⟩]
noncomputable def T53 (m : Nat) : FuncId → Option Pm.Spec := tab [(28, .pure false (E16n m))]
theorem T53_eq (m g : Nat) : T53 m g = tab [(28, .pure false (E16n m))] g := rfl
theorem loop53 {F : List Fr} {P : SV × List Blk → Prop} {m : Nat} {k k' : PV} {l l' : List Nd} (ha : kidP k = some l) (ha' : kidP k' = some l') (hm : countL l ≤ m) (hb : countL l < 1000000) (hok : okL l = true) (hll : l.length = l'.length) : ∀ (r i : Nat) (H : List Blk), i + r = l.length → l.take i = l'.take i →
    (¬ l = l' → ∀ H, P (.bool false, H)) → (l = l' → ∀ H, X Y (T53 m) [.tmp 6] F (.exit 0) ⟨mk 32 .J [], H⟩ P) →
    X Y (T53 m) [.tmp 6] F (.loop (loopN Tryz.f53 0)) ⟨mk 32 .J [(1, .pv k'), (2, .pv (.fn 28)), (15, .pv k), (16, .i (l.length : Nat)), (17, .i (i : Nat))], H⟩ P := by
  have hlen := countL_ge l
  intro r
  induction r with
  | zero =>
    intro i H e ht hp hx
    have e1 : i = l.length := by omega
    subst e1
    apply X_loop_of
    · simp only [loopN, Tryz.f53, loopsOf, List.nil_append, List.append_nil, List.cons_append, List.getD_cons_succ, List.getD_cons_zero]; rfl
    simp
    refine X_keep (hx (take_all (Nat.le_refl _) (by omega) ht) H) (by simp)
  | succ r ih =>
    intro i H e ht hp hx
    have hi : i < l.length := by omega
    obtain ⟨x, hxi⟩ : ∃ x, l[i]? = some x := ⟨_, List.getElem?_eq_getElem hi⟩
    obtain ⟨y, hyi⟩ : ∃ y, l'[i]? = some y := ⟨_, List.getElem?_eq_getElem (by omega)⟩
    have hmem := List.mem_of_getElem? hxi
    obtain ⟨p1, p2, p3, p4, hat, -, hv⟩ := kid_at ha hxi
    obtain ⟨q1, q2, q3, q4, hat', -, hw⟩ := kid_at ha' hyi
    have hc := count_kid hmem
    have f1 := E16n_ok (m := m) hv hw (by omega) (by omega) (ok_kid hok hmem)
    have n3 := next_i (m := i) (by omega)
    have c4 : ((i : Nat) : Int) < (l.length : Nat) := by omega
    apply X_loop_of
    · simp only [loopN, Tryz.f53, loopsOf, List.nil_append, List.append_nil, List.cons_append, List.getD_cons_succ, List.getD_cons_zero]; rfl
    by_cases h1 : x = y
    · rw [eqB_t h1] at f1
      simp [-Int.natCast_add, -Int.not_lt, -Int.not_le, -aIndexAddr, -aLen, -getElem?_pos, List.getElem?_cons_zero, List.getElem?_cons_succ, T53_eq, n3, c4, hi, hat, hat', f1, get_last, set_last, get_2a, get_2b, set_2b]
      refine X_keep (ih (i + 1) _ (by omega) (take_step hxi hyi ht h1) hp hx) ?_
      simp
    · have hp := hp (ne_at hxi hyi h1)
      rw [eqB_f h1] at f1
      simp [-Int.natCast_add, -Int.not_lt, -Int.not_le, -aIndexAddr, -aLen, -getElem?_pos, List.getElem?_cons_zero, List.getElem?_cons_succ, T53_eq, n3, c4, hi, hat, hat', f1, get_last, set_last, get_2a, get_2b, set_2b]
      exact hp _
theorem x53 {m : Nat} {a a' : PV} {l l' : List Nd} (ha : kidP a = some l) (ha' : kidP a' = some l') (hm : countL l ≤ m) (hb : countL l < 1000000) (hok : okL l = true) : XFn Y (T53 m) Tryz.f53 [.pv a, .pv a', .pv (.fn 28)] [] (Is (.bool (eqB l l'))) := by
  unfold XFn Tryz.f53
  rw [enter_3 _ (by decide)]
  have l1 := (kid_len ha).1
  have l2 := (kid_len ha').1
  by_cases e3 : l.length = l'.length
  case neg =>
    have hf : eqB l l' = false := eqB_f fun h => e3 (by rw [h])
    have e3' : ¬ ((l.length : Nat) : Int) = (l'.length : Nat) := by omega
    simp [-aLen, -Int.not_lt, -Int.not_le, l1, l2, e3, e3', hf, beqZ, bneZ]
  have La := fun F P H => loop53 (F := F) (P := P) ha ha' hm hb hok e3 l.length 0 H (by omega) rfl
  rw [e3] at La
  simp [-outR, -aLen, -Int.not_lt, -Int.not_le, l1, l2, e3, beqZ, bneZ]
  refine X_keep (La _ _ _ (fun h H => ?_) (fun h H => ?_)) (by simp)
  · simp [eqB_f h]
  · simp [eqB_t h]
theorem meets53n {W0 : World} {m : Nat} (h0 : OkAt W0 28 (E16n m)) : OkAt W0 53 (F53n m) := meets_fn env (tok_cons h0 tok_nil) mixed Tryz.func53 (by kernel_rfl) (by kernel_rfl) fun args r h => by
  unfold F53n at h
  split at h
  · split at h
    · rename_i l l' ha hb
      split at h
      · rename_i hc; cases h; exact x53 ha hb hc.1 hc.2.1 hc.2.2
      · cases h
    · cases h
  · cases h
noncomputable def T28 (m : Nat) : FuncId → Option Pm.Spec := tab [(52, .pure false F52), (53, .pure false (F53n m))]
theorem T28_eq (m g : Nat) : T28 m g = tab [(52, .pure false F52), (53, .pure false (F53n m))] g := rfl
theorem x28 {m : Nat} {a k a' k' : PV} {n n' : Nd} (ha : atP a = some n.attrs) (hk : kidP k = some n.kids) (ha' : atP a' = some n'.attrs) (hk' : kidP k' = some n'.kids) (h1 : n.count ≤ m + 1) (h2 : n.count ≤ 1000000) (h3 : n.ok = true) : XFn Y (T28 m) Tryz.f28 [nodeS n.name a n.text k, nodeS n'.name a' n'.text k'] [] (Is (.bool (eqB n n'))) := by
  unfold XFn Tryz.f28
  rw [enter_2 _ (by decide)]
  have hce := count_eq n
  rw [ok_eq, Bool.and_eq_true, decide_eq_true_eq] at h3
  have f1 := F52_ok ha ha' h3.1
  have f2 := F53n_ok (m := m) hk hk' (by omega) (by omega) h3.2
  by_cases e1 : n.name = n'.name
  case neg =>
    have hf : eqB n n' = false := eqB_f fun h => e1 (by rw [h])
    simp [e1, hf]
  by_cases e2 : n.text = n'.text
  case neg =>
    have hf : eqB n n' = false := eqB_f fun h => e2 (by rw [h])
    simp [e1, e2, hf]
  by_cases e3 : n.attrs = n'.attrs
  case neg =>
    have hf : eqB n n' = false := eqB_f fun h => e3 (by rw [h])
    rw [eqB_f e3] at f1
    simp [T28_eq, e1, e2, f1, hf]
  rw [eqB_t e3] at f1
  by_cases e4 : n.kids = n'.kids
  · have hf : eqB n n' = true := eqB_t (nd_ext e1 e3 e2 e4)
    rw [eqB_t e4] at f2
    simp [T28_eq, e1, e2, f1, f2, hf]
  · have hf : eqB n n' = false := eqB_f fun h => e4 (by rw [h])
    rw [eqB_f e4] at f2
    simp [T28_eq, e1, e2, f1, f2, hf]
theorem meets28n (W0 : World) : ∀ m, OkAt W0 28 (E16n m)
  | 0 => OkAt.none (enterable_of Tryz.func28 (by kernel_rfl)) fun args r h => by
    refine of_E16n h fun v w a b _ _ _ _ h1 _ _ => ?_
    have := count_pos a; omega
  | m + 1 => meets_fn env (tok_cons (meets52 W0) (tok_cons (meets53n (meets28n W0 m)) tok_nil)) mixed Tryz.func28 (by kernel_rfl) (by kernel_rfl) fun args r h => by
    refine of_E16n h fun v w a b hv hw e1 e2 h1 h2 h3 => ?_
    subst e1; subst e2
    obtain ⟨a1, k1, rfl, g1, g2⟩ := argN_or hv
    obtain ⟨a2, k2, rfl, g3, g4⟩ := argN_or hw
    exact x28 g1 g2 g3 g4 h1 h2 h3
theorem meets28 (W0 : World) : OkAt W0 28 E16 := OkAt.all (meets28n W0) fun as1 r h => E16_all h
end Go.Proofs.YtkckpmcpmngiiaaGreatDoor
/- Copies of elements, by the machine. -/
set_option linter.unusedSimpArgs false
set_option linter.unusedVariables false
set_option maxRecDepth 1000000
set_option maxHeartbeats 400000
namespace Go.Proofs.YtkckpmcpmngiiaaGreatDoor
open Go Go.Pm Go.RowKit
def frA (l : List (Bs × Bs)) : SV := if l = [] then .pv .nilSlice else .fresh 48 2 (l.map atRow)
open Classical in
noncomputable def argA (p : PV) : Option (List (Bs × Bs)) := match atP p with
  | some l => if p = slN 2 (l.map atRow) ∧ l.length ≤ 100000 then some l else none
  | none => none
theorem argA_or {p : PV} {l : List (Bs × Bs)} (h : argA p = some l) : p = slN 2 (l.map atRow) ∧ l.length ≤ 100000 := by
  unfold argA at h
  split at h
  · split at h
    · rename_i hv; cases h; exact hv
    · cases h
  · cases h
theorem argA_ok {l : List (Bs × Bs)} (h : l.length ≤ 100000) : argA (slN 2 (l.map atRow)) = some l := by
  simp only [argA, atP_slN]; rw [if_pos ⟨trivial, h⟩]
noncomputable def F54f : List SV → Option SV
  | [.pv p] => match argA p with
    | some l => some (frA l)
    | none => none
  | _ => none
noncomputable def F54 : List SV → Option SV
  | [.pv p] => match argA p with
    | some l => some (.pv (slN 2 (l.map atRow)))
    | none => none
  | _ => none
theorem F54_ok {l : List (Bs × Bs)} (h : l.length ≤ 100000) : F54 [.pv (slN 2 (l.map atRow))] = some (.pv (slN 2 (l.map atRow))) := by
  simp only [F54, argA_ok h]
theorem x54 {l : List (Bs × Bs)} (h : l.length ≤ 100000) : XFn Y T0 Tryz.f54 [.pv (slN 2 (l.map atRow))] [] (Is (frA l)) := by
  unfold XFn Tryz.f54
  rw [enter_1 _ (by decide)]
  cases l with
  | nil => simp [slN, frA]
  | cons a r =>
    have hn : ¬ (a :: r) = [] := by simp
    have e1 : (a :: r).map atRow = atRow a :: r.map atRow := rfl
    have e0 : slN 2 ((a :: r).map atRow) = .slice 2 ((a :: r).map atRow) := rfl
    have ha : aAppend Y [] 30 30 (.tight 2 []) (.pv (.slice 2 ((a :: r).map atRow))) = some (.own 0 0 2 ((a :: r).map atRow), [.tok 0 48]) := by
      have c1 : ((a :: r).map atRow).length * 32 ≤ maxRow := by simp [maxRow] at h ⊢; omega
      have c2 : ((a :: r).map atRow).length ≤ maxRow := by simp [maxRow] at h ⊢; omega
      have c3 : ((a :: r).map atRow).isEmpty = false := rfl
      generalize (a :: r).map atRow = es at *
      simp only [maxRow] at c1 c2
      simp [-List.isEmpty_iff, aAppend, kindOf, sliceElems, strideOk, c1, c2, c3]
    have c1 : frA (a :: r) = .fresh 48 2 ((a :: r).map atRow) := by unfold frA; rw [if_neg hn]
    rw [e0, c1]
    generalize (a :: r).map atRow = es at *
    simp [-aAppend, ha]
theorem meets54 (W0 : World) : OkAt W0 54 F54 := by
  have h0 : OkAt W0 54 F54f := meets_fn env tok_nil mixed Tryz.func54 (by kernel_rfl) (by kernel_rfl) fun args r h => by
    unfold F54f at h
    split at h
    · split at h
      · rename_i l hl
        cases h
        obtain ⟨e, hb⟩ := argA_or hl
        rw [e]
        exact x54 hb
      · cases h
    · cases h
  refine h0.place fun as1 r h => ?_
  unfold F54 at h
  split at h
  · split at h
    · rename_i l hl
      cases h
      refine ⟨frA l, by simp only [F54f, hl], fun H => ?_⟩
      unfold frA
      cases l <;> rfl
    · cases h
  · cases h
noncomputable def F29n (m : Nat) : List SV → Option SV
  | [v] => match argS v with
    | some n => if n.count ≤ m ∧ n.count ≤ 1000000 ∧ n.ok = true then some (encS n) else none
    | none => none
  | _ => none
theorem F29n_ok {m : Nat} {n : Nd} (h1 : n.count ≤ m) (h2 : n.count ≤ 1000000) (h3 : n.ok = true) : F29n m [encS n] = some (encS n) := by
  simp only [F29n, argS_ok]; rw [if_pos ⟨h1, h2, h3⟩]
noncomputable def T29 (m : Nat) : FuncId → Option Pm.Spec := tab [(54, .pure false F54), (29, .pure false (F29n m))]
theorem T29_eq (m g : Nat) : T29 m g = tab [(54, .pure false F54), (29, .pure false (F29n m))] g := rfl
theorem loop29 {F : List Fr} {P : SV × List Blk → Prop} {rs : List ResultVar} {m : Nat} {nm tx : Bs} {A : PV} {ks : List Nd} (hm : ∀ n ∈ ks, n.count ≤ m) (hb : countL ks < 1000000) (hok : okL ks = true) : ∀ (r i : Nat) (H : List Blk) (K : SV), i + r = ks.length →
    H[0]? = some (.box (some 33) [.pv (.str nm), .pv A, .pv (.str tx), K]) → H[1]? = some (.box (some 33) [.pv (.str []), .pv .nilSlice, .pv (.str []), .pv .nilSlice]) → Acc 33 4 H (encL (ks.take i)) K →
    (∀ H' K', H'[0]? = some (.box (some 33) [.pv (.str nm), .pv A, .pv (.str tx), K']) → H'[1]? = some (.box (some 33) [.pv (.str []), .pv .nilSlice, .pv (.str []), .pv .nilSlice]) → Acc 33 4 H' (encL ks) K' →
      X Y (T29 m) rs F (.exit 0) ⟨mk 28 .J [(1, .ptr 0 0), (2, .ptr 1 0)], H'⟩ P) →
    X Y (T29 m) rs F (.loop (loopN Tryz.f29 0)) ⟨mk 28 .J [(1, .ptr 0 0), (2, .ptr 1 0), (13, .pv (slN 4 (encL ks))), (14, .i (ks.length : Nat)), (15, .i (i : Nat))], H⟩ P := by
  intro r
  induction r with
  | zero =>
    intro i H K e h0 h1 hA hx
    have e1 : i = ks.length := by omega
    subst e1
    rw [List.take_of_length_le (Nat.le_refl _)] at hA
    apply X_loop_of
    · simp only [loopN, Tryz.f29, loopsOf, List.nil_append, List.append_nil, List.cons_append, List.getD_cons_succ, List.getD_cons_zero]; rfl
    simp
    refine X_keep (hx H K h0 h1 hA) (by simp)
  | succ r ih =>
    intro i H K e h0 h1 hA hx
    have hi : i < ks.length := by omega
    obtain ⟨n, hn⟩ : ∃ n, ks[i]? = some n := ⟨_, List.getElem?_eq_getElem hi⟩
    have hmem := List.mem_of_getElem? hn
    have hat := (kidS_at hn).1
    rw [enc_eq] at hat
    have hc := count_kid hmem
    have hlen := countL_ge ks
    have f1 := F29n_ok (hm n hmem) (by omega) (ok_kid hok hmem)
    unfold encS at f1
    have q3 := next_i (m := i) (by omega)
    have c4 : ((i : Nat) : Int) < (ks.length : Nat) := by omega
    have g0 : (H ++ [.box (some 33) [.pv (.str n.name), .pv (slN 2 (n.attrs.map atRow)), .pv (.str n.text), .pv (slN 4 (encL n.kids))]])[0]? = some (.box (some 33) [.pv (.str nm), .pv A, .pv (.str tx), K]) := by
      rw [List.getElem?_append_left (List.getElem?_eq_some_iff.1 h0).1]; exact h0
    have g1 : (H ++ [.box (some 33) [.pv (.str n.name), .pv (slN 2 (n.attrs.map atRow)), .pv (.str n.text), .pv (slN 4 (encL n.kids))]])[1]? = some (.box (some 33) [.pv (.str []), .pv .nilSlice, .pv (.str []), .pv .nilSlice]) := by
      rw [List.getElem?_append_left (List.getElem?_eq_some_iff.1 h1).1]; exact h1
    have gl := get_last H (.box (some 33) [.pv (.str n.name), .pv (slN 2 (n.attrs.map atRow)), .pv (.str n.text), .pv (slN 4 (encL n.kids))])
    have hA2 := hA.more [.box (some 33) [.pv (.str n.name), .pv (slN 2 (n.attrs.map atRow)), .pv (.str n.text), .pv (slN 4 (encL n.kids))]]
    obtain ⟨K', H2, a1, a2, a3⟩ := app31 n.enc (by rw [encL_len, List.length_take]; omega) hA2
    rw [← encL_snoc, ← take_snoc' hn] at a2
    rw [enc_eq] at a1
    have k0 := a3 _ _ g0
    have k1 := a3 _ _ g1
    have hlt := (List.getElem?_eq_some_iff.1 k0).1
    apply X_loop_of
    · simp only [loopN, Tryz.f29, loopsOf, List.nil_append, List.append_nil, List.cons_append, List.getD_cons_succ, List.getD_cons_zero]; rfl
    simp [-Int.natCast_add, -Int.not_lt, -Int.not_le, -aIndexAddr, -aLen, -aAppend, -cellsOf, -getElem?_pos, List.getElem?_cons_zero, List.getElem?_cons_succ, T29_eq, q3, c4, hi, hat, get_last, set_last, cells_agg, g0, gl, f1, hA.live, a1, a2.live, acc_cells a2, k0, hlt]
    refine X_keep (ih (i + 1) (H2.set 0 (.box (some 33) [.pv (.str nm), .pv A, .pv (.str tx), K'])) K' (by omega) ?_ ?_ (a2.box k0) hx) ?_
    · rw [List.getElem?_set_self hlt]
    · rw [List.getElem?_set_ne (by decide)]; exact k1
    · simp
theorem x29 {m : Nat} {n : Nd} (h1 : n.count ≤ m + 1) (h2 : n.count ≤ 1000000) (h3 : n.ok = true) : XFn Y (T29 m) Tryz.f29 [encS n] [] (Is (encS n)) := by
  unfold XFn Tryz.f29
  have hce := count_eq n
  rw [ok_eq, Bool.and_eq_true, decide_eq_true_eq] at h3
  have hl := (kidS_len n.kids).1
  have f1 := F54_ok h3.1
  have L := fun F P rs H A => loop29 (F := F) (P := P) (rs := rs) (m := m) (nm := n.name) (tx := n.text) (A := A) (ks := n.kids) (fun x hx => by have := count_kid hx; omega) (by omega) h3.2 n.kids.length 0 H (.pv .nilSlice) (by omega)
  rw [show encS n = nodeS n.name (slN 2 (n.attrs.map atRow)) n.text (slN 4 (encL n.kids)) from rfl, nodeS, enter_1 _ (by decide)]
  simp [-outR, -aLen, T29_eq, f1, hl]
  refine X_keep (L _ _ _ _ _ rfl rfl (.inl ⟨by simp [encL], rfl⟩) fun H' K e0 e1 eK => ?_) (by simp)
  have pK := acc_pcell eK
  have lK := eK.live
  have hlt := (List.getElem?_eq_some_iff.1 e1).1
  simp [-outR, -getElem?_pos, List.getElem?_cons_zero, List.getElem?_cons_succ, e0, e1, hlt, lK]
  simp [-pcell, pcell_pv, pK]
theorem meets29n (W0 : World) : ∀ m, OkAt W0 29 (F29n m)
  | 0 => OkAt.none (enterable_of Tryz.func29 (by kernel_rfl)) fun args r h => by
    unfold F29n at h
    split at h
    · split at h
      · rename_i n hn
        split at h
        · rename_i hc; have := count_pos n; omega
        · cases h
      · cases h
    · cases h
  | m + 1 => meets_fn env (tok_cons (meets54 W0) (tok_cons (meets29n W0 m) tok_nil)) mixed Tryz.func29 (by kernel_rfl) (by kernel_rfl) fun args r h => by
    unfold F29n at h
    split at h
    · split at h
      · rename_i n hn
        split at h
        · rename_i hc
          cases h
          rw [argS_or hn]
          exact x29 hc.1 hc.2.1 hc.2.2
        · cases h
      · cases h
    · cases h
noncomputable def F29 : List SV → Option SV
  | [v] => match argS v with
    | some n => if n.count ≤ 1000000 ∧ n.ok = true then some (encS n) else none
    | none => none
  | _ => none
theorem F29_ok {n : Nd} (h2 : n.count ≤ 1000000) (h3 : n.ok = true) : F29 [encS n] = some (encS n) := by
  simp only [F29, argS_ok]; rw [if_pos ⟨h2, h3⟩]
theorem meets29 (W0 : World) : OkAt W0 29 F29 := OkAt.all (meets29n W0) fun as1 r h => by
  unfold F29 at h
  split at h
  · split at h
    · rename_i n hn
      split at h
      · rename_i hc
        cases h
        exact ⟨n.count, by simp only [F29n, hn]; rw [if_pos ⟨Nat.le_refl _, hc⟩]⟩
      · cases h
    · cases h
  · cases h
end Go.Proofs.YtkckpmcpmngiiaaGreatDoor
/- The reader's small steps, by the machine: fail, sees, expect. -/
set_option linter.unusedSimpArgs false
set_option linter.unusedVariables false
set_option maxRecDepth 1000000
set_option maxHeartbeats 400000
namespace Go.Proofs.YtkckpmcpmngiiaaGreatDoor
open Go Go.Pm Go.RowKit
def hasPre (s p : Bs) : Bool := decide (p.length ≤ s.length ∧ s.take p.length = p)
def F74 : List SV → Option SV
  | [.pv (.str s), .pv (.str p)] => some (.bool (hasPre s p))
  | _ => none
theorem x85 (s p : Bs) : XFn Y T0 Tryz.f85 [.str s, .str p] [] (Is (.bool (hasPre s p))) := by
  unfold XFn Tryz.f85
  rw [enter_2 _ (by decide)]
  by_cases h : p.length ≤ s.length
  · have c1 : ((p.length : Nat) : Int) ≤ (s.length : Nat) := by omega
    by_cases h2 : s.take p.length = p
    · simp [-Int.not_lt, -Int.not_le, h, c1, h2, hasPre]
    · simp [-Int.not_lt, -Int.not_le, h, c1, h2, hasPre]
  · have c1 : ¬ ((p.length : Nat) : Int) ≤ (s.length : Nat) := by omega
    simp [-Int.not_lt, -Int.not_le, -Nat.not_le, h, c1, hasPre]
theorem meets85 (W0 : World) : OkAt W0 85 F74 := meets_fn env tok_nil mixed Tryz.func85 (by kernel_rfl) (by kernel_rfl) fun args r h => by
  unfold F74 at h
  split at h
  · cases h; exact x85 _ _
  · cases h
noncomputable def T74 : FuncId → Option Pm.Spec := tab [(85, .pure false F74)]
theorem T74_eq (g : Nat) : T74 g = tab [(85, .pure false F74)] g := rfl
theorem x74 (s p : Bs) : XFn Y T74 Tryz.f74 [.str s, .str p] [] (Is (.bool (hasPre s p))) := by
  unfold XFn Tryz.f74
  rw [enter_2 _ (by decide)]
  simp [T74_eq, F74]
theorem meets74 (W0 : World) : OkAt W0 74 F74 := meets_fn env (tok_cons (meets85 W0) tok_nil) mixed Tryz.func74 (by kernel_rfl) (by kernel_rfl) fun args r h => by
  unfold F74 at h
  split at h
  · cases h; exact x74 _ _
  · cases h
/-- Where the reader is, how many elements it has begun, and the first error. -/
structure Rd where
  at' : Nat
  n : Nat
  e : Nat
abbrev rbx (s : Bs) (a n e : Nat) : Blk := .box (some 66) [.pv (.str s), .i (a : Nat), .i (n : Nat), .i (e : Nat)]
abbrev rb (s : Bs) (g : Rd) : Blk := rbx s g.at' g.n g.e
def Rd.fail (g : Rd) (p e : Nat) : Rd := if g.e = 0 then ⟨p, g.n, e⟩ else g
theorem set_same {H : List Blk} {k : Nat} {b : Blk} (h : H[k]? = some b) : H.set k b = H := by
  obtain ⟨h1, h2⟩ := List.getElem?_eq_some_iff.1 h
  rw [← h2]; exact List.set_getElem_self h1
theorem x37 {H : List Blk} {k : Nat} {s : Bs} {g : Rd} (hk : H[k]? = some (rb s g)) (p e : Nat) :
    XFn Y T0 Tryz.f37 [.ptr k 0, .i (p : Nat), .i (e : Nat)] H (fun x => x = (.tuple [], H.set k (rb s (g.fail p e)))) := by
  unfold XFn Tryz.f37
  rw [enter_3 _ (by decide)]
  have hlt := (List.getElem?_eq_some_iff.1 hk).1
  by_cases h : g.e = 0
  · have c1 : ((g.e : Nat) : Int) = 0 := by omega
    simp [-getElem?_pos, List.getElem?_cons_zero, List.getElem?_cons_succ, hk, hlt, c1, h, Rd.fail, beqZ, bneZ]
  · have c1 : ¬ ((g.e : Nat) : Int) = 0 := by omega
    simp [-getElem?_pos, List.getElem?_cons_zero, List.getElem?_cons_succ, hk, hlt, c1, h, Rd.fail, beqZ, bneZ]
    exact (set_same hk).symm
noncomputable def A37 : List SV → List Blk → Option (SV × List Blk) := arunAll Y T0 Tryz.f37
theorem meets37 (W0 : World) : Enterable Tryz.prog 37 ∧ Meets Tryz.prog W0 37 (specFn (.heap A37)) := meets_heap env tok_nil mixed Tryz.func37 (by kernel_rfl) (by kernel_rfl)
theorem all37 {H : List Blk} {k : Nat} {s : Bs} {g : Rd} (hk : H[k]? = some (rb s g)) (p e : Nat) : A37 [.ptr k 0, .i (p : Nat), .i (e : Nat)] H = some (.tuple [], H.set k (rb s (g.fail p e))) := by
  obtain ⟨r, H', h1, h2⟩ := all_of_XFn (by rfl) (x37 hk p e)
  cases h2; exact h1
/-- Does a text follow? -/
def Rd.sees (s : Bs) (g : Rd) (p : Bs) : Bool := decide (g.e = 0) && hasPre (s.drop g.at') p
noncomputable def T57 : FuncId → Option Pm.Spec := tab [(74, .pure false F74)]
theorem T57_eq (g : Nat) : T57 g = tab [(74, .pure false F74)] g := rfl
theorem x57 {H : List Blk} {k : Nat} {s : Bs} {g : Rd} (hk : H[k]? = some (rb s g)) (hg : g.e = 0 → g.at' ≤ s.length) (p : Bs) :
    XFn Y T57 Tryz.f57 [.ptr k 0, .str p] H (fun x => x = (.bool (g.sees s p), H)) := by
  unfold XFn Tryz.f57
  rw [enter_2 _ (by decide)]
  have hlt := (List.getElem?_eq_some_iff.1 hk).1
  by_cases h : g.e = 0
  · have c1 : ((g.e : Nat) : Int) = 0 := by omega
    have c2 := hg h
    have c3 : ((g.at' : Nat) : Int) ≤ (s.length : Nat) := by omega
    have c4 : s.take s.length = s := List.take_length
    simp [-getElem?_pos, List.getElem?_cons_zero, List.getElem?_cons_succ, T57_eq, F74, hk, hlt, c1, h, c2, c3, c4, Rd.sees, beqZ, bneZ]
  · have c1 : ¬ ((g.e : Nat) : Int) = 0 := by omega
    simp [-getElem?_pos, List.getElem?_cons_zero, List.getElem?_cons_succ, T57_eq, hk, hlt, c1, h, Rd.sees, beqZ, bneZ]
noncomputable def A57 : List SV → List Blk → Option (SV × List Blk) := arunAll Y T57 Tryz.f57
theorem meets57 (W0 : World) : Enterable Tryz.prog 57 ∧ Meets Tryz.prog W0 57 (specFn (.heap A57)) := meets_heap env (tok_cons (meets74 W0) tok_nil) mixed Tryz.func57 (by kernel_rfl) (by kernel_rfl)
theorem all57 {H : List Blk} {k : Nat} {s : Bs} {g : Rd} (hk : H[k]? = some (rb s g)) (hg : g.e = 0 → g.at' ≤ s.length) (p : Bs) : A57 [.ptr k 0, .str p] H = some (.bool (g.sees s p), H) := by
  obtain ⟨r, H', h1, h2⟩ := all_of_XFn (by rfl) (x57 hk hg p)
  cases h2; exact h1
/-- A byte is read. -/
def Rd.expect (s : Bs) (g : Rd) (c : Nat) : Rd :=
  if g.e ≠ 0 then g else match s[g.at']? with
  | none => ⟨g.at', g.n, 35⟩
  | some b => if b.toNat = c then ⟨g.at' + 1, g.n, g.e⟩ else ⟨g.at', g.n, 13⟩
noncomputable def T59 : FuncId → Option Pm.Spec := tab [(37, .heap A37)]
theorem T59_eq (g : Nat) : T59 g = tab [(37, .heap A37)] g := rfl
theorem x59 {H : List Blk} {k : Nat} {s : Bs} {g : Rd} (hk : H[k]? = some (rb s g)) (hs : s.length ≤ 100000000) (hg : g.e = 0 → g.at' ≤ s.length) (c : Nat) (hc : c < 256) :
    XFn Y T59 Tryz.f59 [.ptr k 0, .pv (.int .u8 (c : Nat))] H (fun x => x = (.tuple [], H.set k (rb s (g.expect s c)))) := by
  unfold XFn Tryz.f59
  rw [enter_2 _ (by decide)]
  have hlt := (List.getElem?_eq_some_iff.1 hk).1
  by_cases h : g.e = 0
  · have c1 : ((g.e : Nat) : Int) = 0 := by omega
    have c2 := hg h
    by_cases hl : g.at' = s.length
    · have c3 : ((g.at' : Nat) : Int) = (s.length : Nat) := by omega
      have hn : s[g.at']? = none := List.getElem?_eq_none (by omega)
      have f1 := all37 hk g.at' 35
      have e1 : g.expect s c = g.fail g.at' 35 := by unfold Rd.expect Rd.fail; rw [if_neg (by simp [h]), hn, if_pos h]
      rw [← e1] at f1
      have f1 : A37 [.ptr k 0, .i (g.at' : Nat), .i 35] H = _ := f1
      simp [-getElem?_pos, List.getElem?_cons_zero, List.getElem?_cons_succ, T59_eq, hk, hlt, c1, h, c3, beqZ, bneZ]
      rw [c3] at f1
      simp [-getElem?_pos, f1]
    · have c3 : ¬ ((g.at' : Nat) : Int) = (s.length : Nat) := by omega
      have hi : g.at' < s.length := by omega
      obtain ⟨b, hb⟩ : ∃ b, s[g.at']? = some b := ⟨_, List.getElem?_eq_getElem hi⟩
      by_cases hbc : b.toNat = c
      · have c4 : ((b.toNat : Nat) : Int) = (c : Nat) := by omega
        have q3 := next_i (m := g.at') (by omega)
        have e1 : g.expect s c = ⟨g.at' + 1, g.n, g.e⟩ := by unfold Rd.expect; rw [if_neg (by simp [h]), hb]; simp [hbc]
        simp [-Int.natCast_add, -getElem?_pos, List.getElem?_cons_zero, List.getElem?_cons_succ, T59_eq, hk, hlt, c1, h, c3, hi, hb, c4, q3, e1, hl, hbc, beqZ, bneZ]
        rfl
      · have c4 : ¬ ((b.toNat : Nat) : Int) = (c : Nat) := by omega
        have f1 := all37 hk g.at' 13
        have e1 : g.expect s c = g.fail g.at' 13 := by unfold Rd.expect Rd.fail; rw [if_neg (by simp [h]), hb, if_pos h]; simp [hbc, h]
        rw [← e1] at f1
        have f1 : A37 [.ptr k 0, .i (g.at' : Nat), .i 13] H = _ := f1
        simp [-getElem?_pos, List.getElem?_cons_zero, List.getElem?_cons_succ, T59_eq, hk, hlt, c1, h, c3, hi, hb, c4, f1, hl, hbc, beqZ, bneZ]
  · have c1 : ¬ ((g.e : Nat) : Int) = 0 := by omega
    have e1 : g.expect s c = g := by unfold Rd.expect; rw [if_pos h]
    simp [-getElem?_pos, List.getElem?_cons_zero, List.getElem?_cons_succ, T59_eq, hk, hlt, c1, h, e1, beqZ, bneZ]
    exact (set_same hk).symm
noncomputable def A59 : List SV → List Blk → Option (SV × List Blk) := arunAll Y T59 Tryz.f59
theorem meets59 (W0 : World) : Enterable Tryz.prog 59 ∧ Meets Tryz.prog W0 59 (specFn (.heap A59)) := meets_heap env (tok_cons (meets37 W0) tok_nil) mixed Tryz.func59 (by kernel_rfl) (by kernel_rfl)
theorem all59 {H : List Blk} {k : Nat} {s : Bs} {g : Rd} (hk : H[k]? = some (rb s g)) (hs : s.length ≤ 100000000) (hg : g.e = 0 → g.at' ≤ s.length) (c : Nat) (hc : c < 256) : A59 [.ptr k 0, .pv (.int .u8 (c : Nat))] H = some (.tuple [], H.set k (rb s (g.expect s c))) := by
  obtain ⟨r, H', h1, h2⟩ := all_of_XFn (by rfl) (x59 hk hs hg c hc)
  cases h2; exact h1
end Go.Proofs.YtkckpmcpmngiiaaGreatDoor
/- The reader's blanks and names, by the machine. -/
set_option linter.unusedSimpArgs false
set_option linter.unusedVariables false
set_option maxRecDepth 1000000
set_option maxHeartbeats 400000
namespace Go.Proofs.YtkckpmcpmngiiaaGreatDoor
open Go Go.Pm Go.RowKit
/-- Behind the bytes of a kind. -/
def skip (p : UInt8 → Bool) (s : Bs) (i : Nat) : Nat := i + ((s.drop i).takeWhile p).length
theorem skip_some {p : UInt8 → Bool} {s : Bs} {i : Nat} {b : UInt8} (h : s[i]? = some b) : skip p s i = if p b = true then skip p s (i + 1) else i := by
  obtain ⟨h1, h2⟩ := List.getElem?_eq_some_iff.1 h
  unfold skip
  rw [List.drop_eq_getElem_cons h1, h2, List.takeWhile_cons]
  split
  · rw [List.length_cons]; omega
  · rfl
theorem skip_end {p : UInt8 → Bool} {s : Bs} {i : Nat} (h : s.length ≤ i) : skip p s i = i := by
  unfold skip; rw [List.drop_of_length_le h]; rfl
theorem skip_le {p : UInt8 → Bool} {s : Bs} {i : Nat} (h : i ≤ s.length) : skip p s i ≤ s.length := by
  have h1 : ((s.drop i).takeWhile p).length ≤ (s.drop i).length := (List.takeWhile_prefix p).length_le
  rw [List.length_drop] at h1
  unfold skip; omega
theorem skip_ge {p : UInt8 → Bool} {s : Bs} {i : Nat} : i ≤ skip p s i := by unfold skip; omega
def Rd.blanks (s : Bs) (g : Rd) : Rd := if g.e = 0 then ⟨skip (bB blaZ) s g.at', g.n, g.e⟩ else g
theorem get_setk {H : List Blk} {k : Nat} (hk : k < H.length) (b : Blk) : (H.set k b)[k]? = some b := List.getElem?_set_self hk
noncomputable def T56 : FuncId → Option Pm.Spec := tab [(73, .pure false (bF blaZ))]
theorem T56_eq (g : Nat) : T56 g = tab [(73, .pure false (bF blaZ))] g := rfl
theorem loop56 {F : List Fr} {P : SV × List Blk → Prop} {rs : List ResultVar} {s : Bs} {n from' k : Nat} {H : List Blk} (hk : k < H.length) (hs : s.length ≤ 100000000) : ∀ (r i : Nat), i + r = s.length →
    X Y T56 rs F (.exit 0) ⟨mk 50 .J [(0, .ptr k 0), (3, .i (from' : Nat))], H.set k (rbx s (skip (bB blaZ) s i) n 0)⟩ P →
    X Y T56 rs F (.loop (loopN Tryz.f56 0)) ⟨mk 50 .J [(0, .ptr k 0), (3, .i (from' : Nat))], H.set k (rbx s i n 0)⟩ P := by
  intro r
  induction r with
  | zero =>
    intro i e hx
    have e1 : i = s.length := by omega
    subst e1
    rw [skip_end (Nat.le_refl _)] at hx
    apply X_loop_of
    · simp only [loopN, Tryz.f56, loopsOf, List.nil_append, List.append_nil, List.cons_append, List.getD_cons_succ, List.getD_cons_zero]; rfl
    simp [-getElem?_pos, List.getElem?_cons_zero, List.getElem?_cons_succ, T56_eq, get_setk hk, beqZ, bneZ]
    refine X_keep hx (by simp)
  | succ r ih =>
    intro i e hx
    have hi : i < s.length := by omega
    obtain ⟨c, hc⟩ : ∃ c, s[i]? = some c := ⟨_, List.getElem?_eq_getElem hi⟩
    have hb := bF_at blaZ c
    have q3 := next_i (m := i) (by omega)
    have c4 : ((i : Nat) : Int) < (s.length : Nat) := by omega
    rw [skip_some hc] at hx
    apply X_loop_of
    · simp only [loopN, Tryz.f56, loopsOf, List.nil_append, List.append_nil, List.cons_append, List.getD_cons_succ, List.getD_cons_zero]; rfl
    cases hbc : bB blaZ c with
    | false =>
      rw [hbc] at hb hx
      rw [if_neg (by decide)] at hx
      simp [-Int.natCast_add, -Int.not_lt, -Int.not_le, -getElem?_pos, List.getElem?_cons_zero, List.getElem?_cons_succ, T56_eq, get_setk hk, q3, c4, hi, hc, hb, beqZ, bneZ]
      refine X_keep hx (by simp)
    | true =>
      rw [hbc] at hb hx
      rw [if_pos rfl] at hx
      simp [-Int.natCast_add, -Int.not_lt, -Int.not_le, -getElem?_pos, List.getElem?_cons_zero, List.getElem?_cons_succ, T56_eq, get_setk hk, q3, c4, hi, hc, hb, hk, beqZ, bneZ]
      refine X_keep (ih (i + 1) (by omega) hx) (by simp)
theorem x56 {H : List Blk} {k : Nat} {s : Bs} {g : Rd} (hk : H[k]? = some (rb s g)) (hs : s.length ≤ 100000000) (hg : g.e = 0 → g.at' ≤ s.length) :
    XFn Y T56 Tryz.f56 [.ptr k 0] H (fun x => x = (.bool (decide (g.at' < (g.blanks s).at')), H.set k (rb s (g.blanks s)))) := by
  unfold XFn Tryz.f56
  rw [enter_1 _ (by decide)]
  have hlt := (List.getElem?_eq_some_iff.1 hk).1
  obtain ⟨a, n, e⟩ := g
  by_cases h : e = 0
  · subst h
    have hg : a ≤ s.length := hg rfl
    have L := fun F P rs => loop56 (F := F) (P := P) (rs := rs) (n := n) (from' := a) (k := k) (H := H) hlt hs (s.length - a) a (by omega)
    have e1 : Rd.blanks s ⟨a, n, 0⟩ = ⟨skip (bB blaZ) s a, n, 0⟩ := by unfold Rd.blanks; rw [if_pos rfl]
    have hH : H = H.set k (rbx s a n 0) := (set_same hk).symm
    rw [e1]
    have hk0 : H[k]? = some (.box (some 66) [.pv (.str s), .i (a : Nat), .i (n : Nat), .i 0]) := hk
    simp [-getElem?_pos, List.getElem?_cons_zero, List.getElem?_cons_succ, hk0]
    rw [hH]
    refine X_keep (L _ _ _ ?_) (by simp)
    by_cases hlt2 : a < skip (bB blaZ) s a
    · have c1 : ((a : Nat) : Int) < (skip (bB blaZ) s a : Nat) := by omega
      simp [-Int.not_lt, -Int.not_le, -getElem?_pos, List.getElem?_cons_zero, List.getElem?_cons_succ, get_setk hlt, c1, hlt2]
    · have c1 : ¬ ((a : Nat) : Int) < (skip (bB blaZ) s a : Nat) := by omega
      simp [-Int.not_lt, -Int.not_le, -Nat.not_lt, -getElem?_pos, List.getElem?_cons_zero, List.getElem?_cons_succ, get_setk hlt, c1, hlt2]
  · have e1 : Rd.blanks s ⟨a, n, e⟩ = ⟨a, n, e⟩ := by unfold Rd.blanks; rw [if_neg h]
    have c1 : ¬ ((e : Nat) : Int) = 0 := by omega
    have hk0 : H[k]? = some (.box (some 66) [.pv (.str s), .i (a : Nat), .i (n : Nat), .i (e : Nat)]) := hk
    rw [e1, show H.set k (rb s ⟨a, n, e⟩) = H from set_same hk]
    simp only [X_seq]
    simp [-getElem?_pos, List.getElem?_cons_zero, List.getElem?_cons_succ, hk0]
    apply X_loop_of (b' := loopN Tryz.f56 0)
    · rfl
    simp only [loopN, Tryz.f56, loopsOf, List.nil_append, List.append_nil, List.cons_append, List.getD_cons_succ, List.getD_cons_zero]
    simp [-getElem?_pos, List.getElem?_cons_zero, List.getElem?_cons_succ, hk0, T56_eq, c1, h, beqZ, bneZ]
noncomputable def A56 : List SV → List Blk → Option (SV × List Blk) := arunAll Y T56 Tryz.f56
theorem meets56 (W0 : World) : Enterable Tryz.prog 56 ∧ Meets Tryz.prog W0 56 (specFn (.heap A56)) := meets_heap env (tok_cons (meets73 W0) tok_nil) mixed Tryz.func56 (by kernel_rfl) (by kernel_rfl)
theorem all56 {H : List Blk} {k : Nat} {s : Bs} {g : Rd} (hk : H[k]? = some (rb s g)) (hs : s.length ≤ 100000000) (hg : g.e = 0 → g.at' ≤ s.length) : A56 [.ptr k 0] H = some (.bool (decide (g.at' < (g.blanks s).at')), H.set k (rb s (g.blanks s))) := by
  obtain ⟨r, H', h1, h2⟩ := all_of_XFn (by rfl) (x56 hk hs hg)
  cases h2; exact h1
end Go.Proofs.YtkckpmcpmngiiaaGreatDoor
/- The reader's names, by the machine. -/
set_option linter.unusedSimpArgs false
set_option linter.unusedVariables false
set_option maxRecDepth 1000000
set_option maxHeartbeats 400000
namespace Go.Proofs.YtkckpmcpmngiiaaGreatDoor
open Go Go.Pm Go.RowKit
/-- A name, and where the reader is behind it. -/
def Rd.name (s : Bs) (g : Rd) : Bs × Rd :=
  if g.e ≠ 0 then ([], g) else match s[g.at']? with
  | none => ([], ⟨g.at', g.n, 35⟩)
  | some b => if bB begZ b = true then ((s.take (skip (bB inZ) s g.at')).drop g.at', ⟨skip (bB inZ) s g.at', g.n, g.e⟩) else ([], ⟨g.at', g.n, 13⟩)
noncomputable def T60 : FuncId → Option Pm.Spec := tab [(37, .heap A37), (44, .pure false (bF begZ)), (45, .pure false (bF inZ))]
theorem T60_eq (g : Nat) : T60 g = tab [(37, .heap A37), (44, .pure false (bF begZ)), (45, .pure false (bF inZ))] g := rfl
theorem loop60 {F : List Fr} {P : SV × List Blk → Prop} {rs : List ResultVar} {s : Bs} {n from' k : Nat} {H : List Blk} (hk : k < H.length) (hs : s.length ≤ 100000000) : ∀ (r i : Nat), i + r = s.length →
    X Y T60 rs F (.exit 1) ⟨mk 93 .J [(0, .ptr k 0), (4, .i (from' : Nat))], H.set k (rbx s (skip (bB inZ) s i) n 0)⟩ P →
    X Y T60 rs F (.loop (loopN Tryz.f60 0)) ⟨mk 93 .J [(0, .ptr k 0), (4, .i (from' : Nat))], H.set k (rbx s i n 0)⟩ P := by
  intro r
  induction r with
  | zero =>
    intro i e hx
    have e1 : i = s.length := by omega
    subst e1
    rw [skip_end (Nat.le_refl _)] at hx
    apply X_loop_of
    · simp only [loopN, Tryz.f60, loopsOf, List.nil_append, List.append_nil, List.cons_append, List.getD_cons_succ, List.getD_cons_zero]; rfl
    simp [-getElem?_pos, List.getElem?_cons_zero, List.getElem?_cons_succ, T60_eq, get_setk hk, beqZ, bneZ]
    refine X_keep hx (by simp)
  | succ r ih =>
    intro i e hx
    have hi : i < s.length := by omega
    obtain ⟨c, hc⟩ : ∃ c, s[i]? = some c := ⟨_, List.getElem?_eq_getElem hi⟩
    have hb := bF_at inZ c
    have q3 := next_i (m := i) (by omega)
    have c4 : ((i : Nat) : Int) < (s.length : Nat) := by omega
    rw [skip_some hc] at hx
    apply X_loop_of
    · simp only [loopN, Tryz.f60, loopsOf, List.nil_append, List.append_nil, List.cons_append, List.getD_cons_succ, List.getD_cons_zero]; rfl
    cases hbc : bB inZ c with
    | false =>
      rw [hbc] at hb hx
      rw [if_neg (by decide)] at hx
      simp [-Int.natCast_add, -Int.not_lt, -Int.not_le, -getElem?_pos, List.getElem?_cons_zero, List.getElem?_cons_succ, T60_eq, get_setk hk, q3, c4, hi, hc, hb, beqZ, bneZ]
      refine X_keep hx (by simp)
    | true =>
      rw [hbc] at hb hx
      rw [if_pos rfl] at hx
      simp [-Int.natCast_add, -Int.not_lt, -Int.not_le, -getElem?_pos, List.getElem?_cons_zero, List.getElem?_cons_succ, T60_eq, get_setk hk, q3, c4, hi, hc, hb, hk, beqZ, bneZ]
      refine X_keep (ih (i + 1) (by omega) hx) (by simp)
theorem x60 {H : List Blk} {k : Nat} {s : Bs} {g : Rd} (hk : H[k]? = some (rb s g)) (hs : s.length ≤ 100000000) (hg : g.e = 0 → g.at' ≤ s.length) :
    XFn Y T60 Tryz.f60 [.ptr k 0] H (fun x => x = (.tuple [.str (g.name s).1, .i (g.at' : Nat)], H.set k (rb s (g.name s).2))) := by
  unfold XFn Tryz.f60
  rw [enter_1 _ (by decide)]
  have hlt := (List.getElem?_eq_some_iff.1 hk).1
  obtain ⟨a, n, e⟩ := g
  by_cases h : e = 0
  case neg =>
    have e1 : Rd.name s ⟨a, n, e⟩ = ([], ⟨a, n, e⟩) := by unfold Rd.name; rw [if_pos h]
    have c1 : ¬ ((e : Nat) : Int) = 0 := by omega
    have hk0 : H[k]? = some (.box (some 66) [.pv (.str s), .i (a : Nat), .i (n : Nat), .i (e : Nat)]) := hk
    rw [e1, show H.set k (rb s ([], (⟨a, n, e⟩ : Rd)).2) = H from set_same hk]
    simp [-getElem?_pos, List.getElem?_cons_zero, List.getElem?_cons_succ, hk0, T60_eq, c1, h, beqZ, bneZ]
  subst h
  have hg : a ≤ s.length := hg rfl
  have hk0 : H[k]? = some (.box (some 66) [.pv (.str s), .i (a : Nat), .i (n : Nat), .i 0]) := hk
  by_cases hl : a = s.length
  · have c3 : ((a : Nat) : Int) = (s.length : Nat) := by omega
    have hn : s[a]? = none := List.getElem?_eq_none (by omega)
    have f1 := all37 hk a 35
    have e1 : Rd.name s ⟨a, n, 0⟩ = ([], Rd.fail ⟨a, n, 0⟩ a 35) := by unfold Rd.name Rd.fail; simp only [hn]; rfl
    have f1 : A37 [.ptr k 0, .i (a : Nat), .i 35] H = _ := f1
    rw [e1]
    rw [c3] at f1
    simp [-getElem?_pos, List.getElem?_cons_zero, List.getElem?_cons_succ, hk0, T60_eq, c3, f1, beqZ, bneZ]
  · have c3 : ¬ ((a : Nat) : Int) = (s.length : Nat) := by omega
    have hi : a < s.length := by omega
    obtain ⟨b, hb⟩ : ∃ b, s[a]? = some b := ⟨_, List.getElem?_eq_getElem hi⟩
    have hbb := bF_at begZ b
    cases hbc : bB begZ b with
    | false =>
      rw [hbc] at hbb
      have f1 := all37 hk a 13
      have e1 : Rd.name s ⟨a, n, 0⟩ = ([], Rd.fail ⟨a, n, 0⟩ a 13) := by unfold Rd.name Rd.fail; simp only [hb, hbc]; rfl
      have f1 : A37 [.ptr k 0, .i (a : Nat), .i 13] H = _ := f1
      rw [e1]
      simp [-getElem?_pos, List.getElem?_cons_zero, List.getElem?_cons_succ, hk0, T60_eq, c3, hl, hi, hb, hbb, f1, beqZ, bneZ]
    | true =>
      rw [hbc] at hbb
      have L := fun F P rs => loop60 (F := F) (P := P) (rs := rs) (n := n) (from' := a) (k := k) (H := H) hlt hs (s.length - a) a (by omega)
      have e1 : Rd.name s ⟨a, n, 0⟩ = ((s.take (skip (bB inZ) s a)).drop a, ⟨skip (bB inZ) s a, n, 0⟩) := by unfold Rd.name; simp only [hb, hbc]; rfl
      have hH : H = H.set k (rbx s a n 0) := (set_same hk).symm
      rw [e1]
      simp [-getElem?_pos, List.getElem?_cons_zero, List.getElem?_cons_succ, hk0, T60_eq, c3, hl, hi, hb, hbb, beqZ, bneZ]
      rw [hH]
      refine X_keep (L _ _ _ ?_) (by simp)
      have d1 := skip_ge (p := bB inZ) (s := s) (i := a)
      have d2 := skip_le (p := bB inZ) hg
      have d3 : ((a : Nat) : Int) ≤ (skip (bB inZ) s a : Nat) := by omega
      have d4 : ((skip (bB inZ) s a : Nat) : Int) ≤ (s.length : Nat) := by omega
      generalize skip (bB inZ) s a = q at *
      simp [-Int.not_lt, -Int.not_le, -getElem?_pos, List.getElem?_cons_zero, List.getElem?_cons_succ, get_setk hlt, d1, d2, d3, d4]
noncomputable def A60 : List SV → List Blk → Option (SV × List Blk) := arunAll Y T60 Tryz.f60
theorem meets60 (W0 : World) : Enterable Tryz.prog 60 ∧ Meets Tryz.prog W0 60 (specFn (.heap A60)) := meets_heap env (tok_cons (meets37 W0) (tok_cons (meets44 W0) (tok_cons (meets45 W0) tok_nil))) mixed Tryz.func60 (by kernel_rfl) (by kernel_rfl)
theorem all60 {H : List Blk} {k : Nat} {s : Bs} {g : Rd} (hk : H[k]? = some (rb s g)) (hs : s.length ≤ 100000000) (hg : g.e = 0 → g.at' ≤ s.length) : A60 [.ptr k 0] H = some (.tuple [.str (g.name s).1, .i (g.at' : Nat)], H.set k (rb s (g.name s).2)) := by
  obtain ⟨r, H', h1, h2⟩ := all_of_XFn (by rfl) (x60 hk hs hg)
  cases h2; exact h1
end Go.Proofs.YtkckpmcpmngiiaaGreatDoor
