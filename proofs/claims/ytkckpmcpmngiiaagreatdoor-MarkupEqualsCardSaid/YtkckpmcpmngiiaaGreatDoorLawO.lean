/- The law Equals: the parts one behind the other. -/
import Derived.Test.YtkckpmcpmngiiaaGreatDoorLawN
import Derived.Test.YtkckpmcpmngiiaaGreatDoorLawP
set_option linter.unusedSimpArgs false
set_option linter.unusedVariables false
set_option maxRecDepth 1000000
set_option maxHeartbeats 1000000
namespace Go.Proofs.YtkckpmcpmngiiaaGreatDoor
open Go Go.Pm Go.RowKit
abbrev Post9 (W : World) : Exit → Act → World → Prop := bodyPost Tryz.prog Tryz.f9 fun e w' => e = .returned (.bool true) ∧ Below W.heap.size W w'
theorem cptr_of_cells {w : World} {b : Nat} {arr : Array Value} {t : TypeId} {fz : Nat × Nat} {ps : List PV} (hg : w.heap[b]? = some (.cells arr t fz)) (h : ∀ (j : Nat) (p : PV), ps[j]? = some p → ∃ u, arr[j]? = some u ∧ RelP w (fun x _ => x < w.heap.size) p u) :
    RelS (Pm.start w) (.cptr ps) (.pointer (some ⟨b, 0, none⟩)) := by
  have hlt := (Array.getElem?_eq_some_iff.1 hg).1
  refine .cptr ps b 0 (fun j => arr.getD j (.bool false)) (fun j p hj => hlt) (fun j p hj => ?_) (fun j p hj => ?_)
  · obtain ⟨u, h1, h2⟩ := h j p hj
    rw [Nat.zero_add]
    show w.cell? _ = _
    rw [cell_of_row _ _ _ _ _ _ hg, h1]
    simp [Array.getD_eq_getD_getElem?, h1]
  · obtain ⟨u, h1, h2⟩ := h j p hj
    have e : arr.getD j (.bool false) = u := by simp [Array.getD_eq_getD_getElem?, h1]
    rw [e]; exact h2
/-- Two boxes, and whatever stood before. -/
theorem two_box {w : World} {b c : Nat} {arr brr : Array Value} {t t' : TypeId} {cs ds : List SV} {S : Nat → Nat → Prop} (hne : b ≠ c) (hS : ∀ x o, S x o → x < w.heap.size ∧ x ≠ b ∧ x ≠ c) (hb : w.heap[b]? = some (.cells arr t (0, 0))) (hl : arr.size = cs.length)
    (hb' : w.heap[c]? = some (.cells brr t' (0, 0))) (hl' : ds.length ≤ brr.size)
    (hr : ∀ (j : Nat) (x : SV) (u : Value), cs[j]? = some x → arr[j]? = some u → RelS ⟨w, S, [.box (some t) cs, .box none ds], [⟨b, 0, 0, 0⟩, ⟨c, 0, 0, 0⟩]⟩ x u) (h1 : ∀ (j : Nat) (x : SV), cs[j]? = some x → x.one = true)
    (hr' : ∀ (j : Nat) (x : SV) (u : Value), ds[j]? = some x → brr[j]? = some u → RelS ⟨w, S, [.box (some t) cs, .box none ds], [⟨b, 0, 0, 0⟩, ⟨c, 0, 0, 0⟩]⟩ x u) (h1' : ∀ (j : Nat) (x : SV), ds[j]? = some x → x.one = true) :
    Inv ⟨w, S, [.box (some t) cs, .box none ds], [⟨b, 0, 0, 0⟩, ⟨c, 0, 0, 0⟩]⟩ := by
  have z : ∀ {k : Nat} {bl : Blk}, ([.box (some t) cs, .box none ds] : List Blk)[k]? = some bl → (k = 0 ∧ bl = .box (some t) cs) ∨ (k = 1 ∧ bl = .box none ds) := by
    intro k bl h
    rcases k with _ | _ | k
    · simp at h; exact .inl ⟨rfl, h.symm⟩
    · simp at h; exact .inr ⟨rfl, h.symm⟩
    · simp at h
  have zg : ∀ {k : Nat} {g : GB}, ([⟨b, 0, 0, 0⟩, ⟨c, 0, 0, 0⟩] : List GB)[k]? = some g → (k = 0 ∧ g = ⟨b, 0, 0, 0⟩) ∨ (k = 1 ∧ g = ⟨c, 0, 0, 0⟩) := by
    intro k g h
    rcases k with _ | _ | k
    · simp at h; exact .inl ⟨rfl, h.symm⟩
    · simp at h; exact .inr ⟨rfl, h.symm⟩
    · simp at h
  refine ⟨rfl, fun x o h => (hS x o h).1, ?_, ?_, ?_, ?_, ?_, ?_⟩
  · intro _ k cs' g e1 e2
    rcases z e1 with ⟨rfl, e3⟩ | ⟨rfl, e3⟩ <;> rcases zg e2 with ⟨e4, rfl⟩ | ⟨e4, rfl⟩ <;> cases e4
    · cases e3; exact ⟨arr, t, hb, Nat.le_of_eq hl.symm, hr, h1⟩
    · cases e3; exact ⟨brr, t', hb', hl', hr', h1'⟩
  · intro _ k cs' g o e1 e2 hs
    rcases zg e2 with ⟨_, rfl⟩ | ⟨_, rfl⟩
    · exact (hS _ _ hs).2.1 rfl
    · exact (hS _ _ hs).2.2 rfl
  · intro k v e g e1 _
    rcases z e1 with ⟨_, e3⟩ | ⟨_, e3⟩ <;> cases e3
  · intro k v e g o e1 _ _ _
    rcases z e1 with ⟨_, e3⟩ | ⟨_, e3⟩ <;> cases e3
  · intro k t2 cs' g e1 e2
    rcases z e1 with ⟨rfl, e3⟩ | ⟨rfl, e3⟩
    · rcases zg e2 with ⟨_, rfl⟩ | ⟨e4, rfl⟩
      · cases e3; exact ⟨arr, hb, hl⟩
      · cases e4
    · cases e3
  · intro k k' g g' hn _ _ e1 e2
    rcases zg e1 with ⟨rfl, rfl⟩ | ⟨rfl, rfl⟩ <;> rcases zg e2 with ⟨rfl, rfl⟩ | ⟨rfl, rfl⟩
    · exact absurd rfl hn
    · exact hne
    · exact Ne.symm hne
    · exact absurd rfl hn
theorem runs_len {T : FuncId → Option Pm.Spec} {c : Code} {s s' : St} (h : Runs Y T c s (.norm s')) : s'.tm.length = s.tm.length := by
  obtain ⟨n, h⟩ := h
  exact acode_len9 n c h
/-- What a value of the copy's rows is, whatever they hold. -/
theorem forget_K {D : Cf} {K : SV} {u : Value} {len : Nat} (hK : K = .pv .nilSlice ∨ K = .bsl 1 0 len 4) (h : RelS D K u) : ∃ k : PV, ∀ (w : World) (S : Nat → Nat → Prop), RelP w S k u := by
  rcases hK with rfl | rfl
  · cases h with | pv _ _ h => cases h; exact ⟨.nilSlice, fun w S => .nilSlice⟩
  · cases h with | bsl _ _ _ _ cap cs g hH hG hcap => exact ⟨.hdr len, fun w S => .hdr _ _ _⟩
theorem partE {W w1 : World} {D : Cf} {s : St} {a : Act} {n : Nd} {p len b2 b5 : Nat} {K : SV} {v2 v5 : Value} (J : InvJ W D) (hb : Below W.heap.size W D.w) (R : StRel D s a) (hl : s.tm.length = 63)
    (hw : w1.heap.size ≤ D.w.heap.size) (hc : ∀ x y, x < w1.heap.size → D.w.cell? ⟨x, y, none⟩ = w1.cell? ⟨x, y, none⟩)
    (hn : n.count ≤ 1000000) (hok : n.ok = true) (hp : p ≠ n.attrs.length) (hK : K = .pv .nilSlice ∨ K = .bsl 1 0 len 4) (hH : D.H[0]? = some (cpK n p K))
    (e2 : RelS (Pm.start w1) (.cadr b2 0 (cls n)) v2) (e5 : RelS (Pm.start w1) (.cadr b5 0 (cls n)) v5)
    (h2 : s.tm[2]? = some (.cadr b2 0 (cls n))) (h5 : s.tm[5]? = some (.cadr b5 0 (cls n))) (h6 : s.tm[6]? = some (.ptr 0 0)) : c7.wp Tryz.prog (Post9 W) a D.w := by
  obtain ⟨u2, q2, r2⟩ := R.tm.get h2
  obtain ⟨u5, q5, r5⟩ := R.tm.get h5
  obtain ⟨u6, q6, r6⟩ := R.tm.get h6
  have hS : ∀ x y, (Pm.start w1).S x y → (Pm.start D.w).S x y := fun x y h => Nat.lt_of_lt_of_le h hw
  obtain ⟨x2, y2, -⟩ := cptr_of_cadr (D := Pm.start D.w) e2 hS (fun x y h => hc x y h)
  obtain ⟨x5, y5, -⟩ := cptr_of_cadr (D := Pm.start D.w) e5 hS (fun x y h => hc x y h)
  have z2 : u2 = v2 := by rw [x2]; cases r2; rfl
  have z5 : u5 = v5 := by rw [x5]; cases r5; rfl
  subst z2 z5
  cases r6 with | ptr _ _ cs g hH2 hG2 =>
  rw [hH] at hH2
  cases hH2
  obtain ⟨arr, T', hg, hsz, hrel, -⟩ := J.1.box 0 _ g hH hG2
  have hget : ∀ (j : Nat) (c : SV), ([.pv (.str n.name), .pv (.hdr p), .pv (.str n.text), K] : List SV)[j]? = some c → ∃ u, arr[j]? = some u ∧ RelS D c u := fun j c hj => by
    have h2 : j < arr.size := by have := (List.getElem?_eq_some_iff.1 hj).1; omega
    have h3 : arr[j]? = some arr[j] := by simp [h2]
    exact ⟨_, h3, hrel j c _ hj h3⟩
  obtain ⟨g0, ga, gb⟩ := hget 0 _ rfl
  obtain ⟨g1, gc, gd⟩ := hget 1 _ rfl
  obtain ⟨g2, ge, gf⟩ := hget 2 _ rfl
  obtain ⟨g3, gg, gh⟩ := hget 3 _ rfl
  obtain ⟨k, hk⟩ := forget_K hK gh
  have c6' : RelS (Pm.start D.w) (.cptr [.str n.name, .hdr p, .str n.text, k]) (.pointer (some ⟨g.blk, 0, none⟩)) := cptr_of_cells hg (fun j q hj => by
    rcases j with _ | _ | _ | _ | j
    · simp at hj; subst hj; have := rel_pv gb; cases this; exact ⟨_, ga, .str _⟩
    · simp at hj; subst hj; have := rel_pv gd; cases this; exact ⟨_, gc, .hdr _ _ _⟩
    · simp at hj; subst hj; have := rel_pv gf; cases this; exact ⟨_, ge, .str _⟩
    · simp at hj; subst hj; exact ⟨_, gg, hk _ _⟩
    · simp at hj)
  obtain ⟨tm, t1, t2⟩ := relL_any R.tm
  have hR : RelL (Pm.start D.w) (((tm.set 2 (.cptr (cls n))).set 5 (.cptr (cls n))).set 6 (.cptr [.str n.name, .hdr p, .str n.text, k])) a.tmps.toList :=
    relL_set (relL_set (relL_set (t2 _) q2 y2) q5 y5) q6 c6'
  rw [hl] at t1
  exact partD (k := k) J hb hR R.defers (by simp [t1]) hn hok hp (by simp [List.getElem?_set, t1]) (by simp [List.getElem?_set, t1]) (by simp [List.getElem?_set, t1])
end Go.Proofs.YtkckpmcpmngiiaaGreatDoor
