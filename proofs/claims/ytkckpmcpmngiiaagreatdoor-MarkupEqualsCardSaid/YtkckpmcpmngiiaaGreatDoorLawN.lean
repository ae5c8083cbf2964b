/- The law Equals: its parts joined. -/
import Derived.Test.YtkckpmcpmngiiaaGreatDoorLawM
import Derived.Test.YtkckpmcpmngiiaaGreatDoorLawP
set_option linter.unusedSimpArgs false
set_option linter.unusedVariables false
set_option maxRecDepth 1000000
set_option maxHeartbeats 1000000
namespace Go.Proofs.YtkckpmcpmngiiaaGreatDoor
open Go Go.Pm Go.RowKit
theorem below_evo {W : World} {C D : Cf} (J : J0 W C) (h : Evo C D) : Below W.heap.size C.w D.w :=
  ⟨h.os, h.tape, h.output, h.size, fun k hk => h.frame k (Nat.lt_of_lt_of_le hk J.size) fun i g hg e => by have := J.G i g hg; omega⟩
theorem start_inj {W : World} {C : Cf} (J : J0 W C) : InvJ W (Pm.start C.w) :=
  ⟨start_inv _, J.size, J.heap, fun b o hb => Nat.lt_of_lt_of_le hb J.size, fun k g h => by simp at h⟩
theorem slots4 {s : St} {k1 k2 k3 k4 : Nat} {vs : List SV} {v1 v2 v3 v4 : SV} (h : aresults Y s [.tmp k1, .tmp k2, .tmp k3, .tmp k4] = some vs) (hp : pack vs = .tuple [v1, v2, v3, v4]) :
    live (s.tm.getD k1 .undef) = some v1 ∧ live (s.tm.getD k2 .undef) = some v2 ∧ live (s.tm.getD k3 .undef) = some v3 ∧ live (s.tm.getD k4 .undef) = some v4 := by
  simp only [aresults, aresult] at h
  cases e1 : live (s.tm.getD k1 .undef) with
  | none => rw [e1] at h; cases h
  | some x1 =>
    cases e2 : live (s.tm.getD k2 .undef) with
    | none => rw [e1, e2] at h; cases h
    | some x2 =>
      cases e3 : live (s.tm.getD k3 .undef) with
      | none => rw [e1, e2, e3] at h; cases h
      | some x3 =>
        cases e4 : live (s.tm.getD k4 .undef) with
        | none => rw [e1, e2, e3, e4] at h; cases h
        | some x4 =>
          rw [e1, e2, e3, e4] at h
          cases h
          simp only [pack, SV.tuple.injEq, List.cons.injEq, and_true] at hp
          obtain ⟨rfl, rfl, rfl, rfl⟩ := hp
          exact ⟨rfl, rfl, rfl, rfl⟩
theorem look_or : ∀ (l : List (Nat × SV)) (i : Nat), Pm.look .J l i = .J ∨ ∃ x ∈ l, x.1 = i ∧ Pm.look .J l i = x.2
  | [], i => .inl rfl
  | x :: l, i => by
    obtain ⟨k, v⟩ := x
    by_cases h : i = k
    · subst h; exact .inr ⟨(i, v), List.mem_cons_self .., rfl, by simp [Pm.look]⟩
    · have e : Pm.look SV.J ((k, v) :: l) i = Pm.look .J l i := by simp [Pm.look, h, Ne.symm h]
      rw [e]
      rcases look_or l i with h1 | ⟨x, h1, h2⟩
      · exact .inl h1
      · exact .inr ⟨x, List.mem_cons_of_mem _ h1, h2⟩
theorem le_list {n : Nat} {l : List (Nat × SV)} {H : List Blk} {tm : List SV} (hl : tm.length = n) (h : ∀ x ∈ l, tm[x.1]? = some x.2) : Le ⟨mk n .J l, H⟩ ⟨tm, H⟩ := by
  refine ⟨rfl, by simp [mk_len, hl], fun i a b ha hb => ?_⟩
  simp only [mk_get] at ha
  split at ha
  · cases ha
    rcases look_or l i with h1 | ⟨x, h1, h2, h3⟩
    · exact .inl (by rw [h1]; rfl)
    · refine .inr ?_
      have := h x h1
      rw [h2] at this
      simp only at hb
      rw [this] at hb
      rw [h3]; exact Option.some.inj hb
  · cases ha
theorem cadr_of_box {C : Cf} (I : Inv C) {k : Nat} {t : Option TypeId} {ps : List PV} {g : GB} (hH : C.H[k]? = some (.box t (ps.map .pv))) (hG : C.G[k]? = some g) : RelS (Pm.start C.w) (.cadr g.blk 0 ps) (.pointer (some ⟨g.blk, 0, none⟩)) := by
  obtain ⟨arr, T', hg, hsz, hrel, -⟩ := I.box k _ g hH hG
  have hlt := (Array.getElem?_eq_some_iff.1 hg).1
  have hget : ∀ (j : Nat) (p : PV), ps[j]? = some p → ∃ u, arr[j]? = some u ∧ RelP C.w C.S p u := fun j p hj => by
    have h1 : (ps.map SV.pv)[j]? = some (.pv p) := by rw [List.getElem?_map, hj]; rfl
    have h2 : j < arr.size := by have := (List.getElem?_eq_some_iff.1 h1).1; omega
    have h3 : arr[j]? = some arr[j] := by simp [h2]
    exact ⟨_, h3, rel_pv (hrel j _ _ h1 h3)⟩
  refine .cadr ps g.blk 0 (fun j => arr.getD j (.bool false)) (fun j p hj => hlt) (fun j p hj => ?_) (fun j p hj => ?_)
  · obtain ⟨u, h1, h2⟩ := hget j p hj
    rw [Nat.zero_add, cell_of_row _ _ _ _ _ _ hg, h1]
    simp [Array.getD_eq_getD_getElem?, h1]
  · obtain ⟨u, h1, h2⟩ := hget j p hj
    have e : arr.getD j (.bool false) = u := by simp [Array.getD_eq_getD_getElem?, h1]
    rw [e]
    exact RelP.mono (fun b o h => I.inb b o h) (fun _ _ _ => rfl) h2
theorem cptr_of_cadr {C D : Cf} {b o : Nat} {ps : List PV} {v : Value} (h : RelS C (.cadr b o ps) v) (hS : ∀ x y, C.S x y → D.S x y) (hc : ∀ x y, C.S x y → D.w.cell? ⟨x, y, none⟩ = C.w.cell? ⟨x, y, none⟩) : v = .pointer (some ⟨b, o, none⟩) ∧ RelS D (.cptr ps) v ∧ RelS D (.cadr b o ps) v := by
  cases h with | cadr _ _ _ u h1 h2 h3 =>
  refine ⟨rfl, .cptr ps b o u (fun j p hj => hS _ _ (h1 j p hj)) (fun j p hj => (hc _ _ (h1 j p hj)).trans (h2 j p hj)) (fun j p hj => RelP.mono hS hc (h3 j p hj)), .cadr ps b o u (fun j p hj => hS _ _ (h1 j p hj)) (fun j p hj => (hc _ _ (h1 j p hj)).trans (h2 j p hj)) (fun j p hj => RelP.mono hS hc (h3 j p hj))⟩
/-! ## The parts, as runs -/
def M9 : Code := .region 0 #[{ dst := some 4, op := .assign (.const (.bool true)), type := 4, pos := "", after := #[], guard := none }] false
theorem runA {a0 k0 a1 k1 : PV} {n0 n1 : Nd} (ha0 : atP a0 = some n0.attrs) (hk0 : kidP k0 = some n0.kids) (ha1 : atP a1 = some n1.attrs) (hk1 : kidP k1 = some n1.kids) :
    ∃ s1, Runs Y T9 (glue 3 c0 .skip) (enter 63 [nodeS n0.name a0 n0.text k0, nodeS n1.name a1 n1.text k1] []) (.norm s1) ∧ s1.H = [bxN25 (cutN 4 n0), bxN25 (cutN 4 n1), bxN33 (cutN 4 n0)] ∧
      s1.tm[2]? = some (.ptr 0 0) ∧ s1.tm[3]? = some (.ptr 1 0) ∧ s1.tm[5]? = some (.ptr 2 0) ∧ s1.tm[4]? = some (.bool false) := by
  obtain ⟨s1, h1, h2, vs, h3, h4⟩ := norm_of (T := T9) (n := 3) (c := c0) (M := M9) (rs := [.tmp 2, .tmp 3, .tmp 5, .tmp 4]) (R0 := .tuple [.ptr 0 0, .ptr 1 0, .ptr 2 0, .bool false]) (R1 := .tuple [.ptr 0 0, .ptr 1 0, .ptr 2 0, .bool true]) (by kernel_rfl) (by simp)
    (t9A ha0 hk0 ha1 hk1 (by simp; rfl)) (t9A ha0 hk0 ha1 hk1 (by unfold M9; simp))
  obtain ⟨l1, l2, l3, l4⟩ := slots4 h3 h4
  exact ⟨s1, h1, h2, live_at l1 (by simp), live_at l2 (by simp), live_at l3 (by simp), live_at l4 (by simp)⟩
theorem runB {n b : Nd} {b2 b3 b5 : Nat} (hn : n.count ≤ 1000) (hb : b.count ≤ 1000000) (hon : n.ok = true) (hob : b.ok = true) (hal : n.attrs.length ≤ 100) {tm : List SV} (hl : tm.length = 63)
    (h2 : tm[2]? = some (.cadr b2 0 (cls n))) (h3 : tm[3]? = some (.cadr b3 0 (cls b))) (h4 : tm[4]? = some (.bool false)) (h5 : tm[5]? = some (.cadr b5 0 (cls n))) :
    ∃ s1 k A K, Runs Y T9 (glue 3 c3 .skip) ⟨tm, []⟩ (.norm s1) ∧ Copied n k s1.H A K ∧
      s1.tm[2]? = some (.cadr b2 0 (cls n)) ∧ s1.tm[5]? = some (.cadr b5 0 (cls n)) ∧ s1.tm[6]? = some (.ptr k 0) ∧ s1.tm[4]? = some (.bool false) := by
  obtain ⟨k, H, A, K, hC, hX⟩ := t9B (b2 := b2) (b3 := b3) (b5 := b5) hn hb hon hob hal
  have hle : Le ⟨mk 63 .J [(2, .cadr b2 0 (cls n)), (3, .cadr b3 0 (cls b)), (4, .bool false), (5, .cadr b5 0 (cls n))], []⟩ ⟨tm, []⟩ := le_list hl (fun x hx => by
    simp only [List.mem_cons, List.not_mem_nil, or_false] at hx
    rcases hx with rfl | rfl | rfl | rfl <;> assumption)
  obtain ⟨s1, h1, e2, vs, e3, e4⟩ := norm_of (T := T9) (n := 3) (c := c3) (M := M9) (rs := [.tmp 2, .tmp 5, .tmp 6, .tmp 4]) (R0 := .tuple [.cadr b2 0 (cls n), .cadr b5 0 (cls n), .ptr k 0, .bool false]) (R1 := .tuple [.cadr b2 0 (cls n), .cadr b5 0 (cls n), .ptr k 0, .bool true]) (H1 := H) (by kernel_rfl) (by simp)
    (X_le hle (hX (by simp [live_cadr]))) (X_le hle (hX (by unfold M9; simp [live_cadr])))
  obtain ⟨l1, l2, l3, l4⟩ := slots4 e3 e4
  exact ⟨s1, k, A, K, h1, by rw [e2]; exact hC, live_at l1 (by simp), live_at l2 (by simp), live_at l3 (by simp), live_at l4 (by simp)⟩
theorem runC {n : Nd} {b2 b5 p len : Nat} {s0 : Bs} (hs : s0.length ≤ 1000) (hl1 : 0 < len) (hl2 : len ≤ 1000) {tm : List SV} (hl : tm.length = 63)
    (h2 : tm[2]? = some (.cadr b2 0 (cls n))) (h4 : tm[4]? = some (.bool false)) (h5 : tm[5]? = some (.cadr b5 0 (cls n))) (h6 : tm[6]? = some (.ptr 0 0)) :
    ∃ s1, Runs Y T9 (glue 1 c6 .skip) ⟨tm, [cpK n p (.bsl 1 0 len 4), .box none [.pv (.str s0)]]⟩ (.norm s1) ∧ s1.H = [cpK n p (.bsl 1 0 len 4), .box none [.pv (.str (s0 ++ [120]))]] ∧
      s1.tm[2]? = some (.cadr b2 0 (cls n)) ∧ s1.tm[5]? = some (.cadr b5 0 (cls n)) ∧ s1.tm[6]? = some (.ptr 0 0) := by
  have hle : Le ⟨mk 63 .J [(2, .cadr b2 0 (cls n)), (4, .bool false), (5, .cadr b5 0 (cls n)), (6, .ptr 0 0)], [cpK n p (.bsl 1 0 len 4), .box none [.pv (.str s0)]]⟩ ⟨tm, [cpK n p (.bsl 1 0 len 4), .box none [.pv (.str s0)]]⟩ := le_list hl (fun x hx => by
    simp only [List.mem_cons, List.not_mem_nil, or_false] at hx
    rcases hx with rfl | rfl | rfl | rfl <;> assumption)
  obtain ⟨s1, h1, e2, vs, e3, e4⟩ := norm_of (T := T9) (n := 1) (c := c6) (M := M9) (rs := [.tmp 2, .tmp 5, .tmp 6, .tmp 4]) (R0 := .tuple [.cadr b2 0 (cls n), .cadr b5 0 (cls n), .ptr 0 0, .bool false]) (R1 := .tuple [.cadr b2 0 (cls n), .cadr b5 0 (cls n), .ptr 0 0, .bool true]) (by kernel_rfl) (by simp)
    (X_le hle (t9C hs hl1 hl2 (by simp [live_cadr]; rfl))) (X_le hle (t9C hs hl1 hl2 (by unfold M9; simp [live_cadr])))
  obtain ⟨l1, l2, l3, l4⟩ := slots4 e3 e4
  exact ⟨s1, h1, e2, live_at l1 (by simp), live_at l2 (by simp), live_at l3 (by simp)⟩
theorem runE {n : Nd} {b2 b5 p : Nat} {tm : List SV} (hl : tm.length = 63)
    (h2 : tm[2]? = some (.cadr b2 0 (cls n))) (h4 : tm[4]? = some (.bool false)) (h5 : tm[5]? = some (.cadr b5 0 (cls n))) (h6 : tm[6]? = some (.ptr 0 0)) :
    ∃ s1, Runs Y T9 (glue 1 c6 .skip) ⟨tm, [cpK n p (.pv .nilSlice)]⟩ (.norm s1) ∧ s1.H = [cpK n p (.pv .nilSlice)] ∧
      s1.tm[2]? = some (.cadr b2 0 (cls n)) ∧ s1.tm[5]? = some (.cadr b5 0 (cls n)) ∧ s1.tm[6]? = some (.ptr 0 0) := by
  have hle : Le ⟨mk 63 .J [(2, .cadr b2 0 (cls n)), (4, .bool false), (5, .cadr b5 0 (cls n)), (6, .ptr 0 0)], [cpK n p (.pv .nilSlice)]⟩ ⟨tm, [cpK n p (.pv .nilSlice)]⟩ := le_list hl (fun x hx => by
    simp only [List.mem_cons, List.not_mem_nil, or_false] at hx
    rcases hx with rfl | rfl | rfl | rfl <;> assumption)
  obtain ⟨s1, h1, e2, vs, e3, e4⟩ := norm_of (T := T9) (n := 1) (c := c6) (M := M9) (rs := [.tmp 2, .tmp 5, .tmp 6, .tmp 4]) (R0 := .tuple [.cadr b2 0 (cls n), .cadr b5 0 (cls n), .ptr 0 0, .bool false]) (R1 := .tuple [.cadr b2 0 (cls n), .cadr b5 0 (cls n), .ptr 0 0, .bool true]) (by kernel_rfl) (by simp)
    (X_le hle (t9E (by simp [live_cadr]; rfl))) (X_le hle (t9E (by unfold M9; simp [live_cadr])))
  obtain ⟨l1, l2, l3, l4⟩ := slots4 e3 e4
  exact ⟨s1, h1, e2, live_at l1 (by simp), live_at l2 (by simp), live_at l3 (by simp)⟩
/-! ## The last part -/
theorem ok7 : codeOk T9d c7 = true := by kernel_rfl
theorem partD {W : World} {C : Cf} {a : Act} {tm : List SV} {n : Nd} {p : Nat} {k : PV} (J : InvJ W C) (hb : Below W.heap.size W C.w) (hR : RelL (Pm.start C.w) tm a.tmps.toList) (hd : a.defers = []) (hl : tm.length = 63)
    (hn : n.count ≤ 1000000) (hok : n.ok = true) (hp : p ≠ n.attrs.length)
    (h2 : tm[2]? = some (.cptr (cls n))) (h5 : tm[5]? = some (.cptr (cls n))) (h6 : tm[6]? = some (.cptr [.str n.name, .hdr p, .str n.text, k])) :
    c7.wp Tryz.prog (bodyPost Tryz.prog Tryz.f9 fun e w' => e = .returned (.bool true) ∧ Below W.heap.size W w') a C.w := by
  have hle : Le ⟨mk 63 .J [(2, .cptr (cls n)), (5, .cptr (cls n)), (6, .cptr [.str n.name, .hdr p, .str n.text, k])], []⟩ ⟨tm, []⟩ := le_list hl (fun x hx => by
    simp only [List.mem_cons, List.not_mem_nil, or_false] at hx
    rcases hx with rfl | rfl | rfl <;> assumption)
  obtain ⟨o, ⟨r, H'⟩, ⟨fuel, ho⟩, f, hI⟩ := X_le hle (t9D (k := k) hn hok hp)
  have er : r = .bool true := outR_bool (H := H') hI
  subst er
  have IJ := start_inj J.2
  have R : StRel (Pm.start C.w) ⟨tm, []⟩ a := ⟨rfl, hR, hd⟩
  refine wp_mono (w := (Pm.start C.w).w) ((both_sound env (tok9d W) mixed fuel).1 c7 ok7 ho IJ R) ?_
  intro e a' w hrel
  have fin : ∀ {D : Cf} {s : St}, InvJ W D → Evo (Pm.start C.w) D → StRel D s a' → (aresults Y s [.tmp 4]).map (fun vs => (pack vs, s.H)) = some (.bool true, H') →
      a'.defers = [] ∧ ∃ v, (results Tryz.f9 a'.tmps).run Tryz.prog D.w = .ok v D.w ∧ ((Ending.returned v = .returned (.bool true)) ∧ Below W.heap.size W D.w) := fun {D s} I' EV R' hf => by
    obtain ⟨h1, v, h2, h3, h4⟩ := finish_post env I'.1 (fn := Tryz.f9) R' hf
    cases h3 with | pv _ _ h3 =>
    cases h3
    exact ⟨h1, _, h2, rfl, hb.trans (below_evo (C := Pm.start C.w) IJ.2 EV)⟩
  cases e with
  | normal =>
    obtain ⟨D, s, e1, I', EV, R', rfl⟩ := hrel
    cases e1
    exact fin I' EV R' f
  | ret =>
    obtain ⟨D, s, e1, I', EV, R', rfl⟩ := hrel
    cases e1
    exact fin I' EV R' f
  | exit id =>
    obtain ⟨D, s, e1, _⟩ := hrel
    cases e1
    simp [finish] at f
  | goto l => exact hrel.elim
  | panic ch => exact hrel.elim
  | outgrown => exact hrel.elim
end Go.Proofs.YtkckpmcpmngiiaaGreatDoor
