/- What the interpreter's values say of the model's values in a world, and how worlds may evolve. -/
import Derived.Test.YtkckpmcpmngiiaaGreatDoorPmCore
import Derived.Below
namespace Go.Pm

structure GB where
  blk : Nat
  len : Nat
  cap : Nat
  stride : Nat

structure Cf where
  w : World
  S : Nat → Nat → Prop
  H : List Blk
  G : List GB

inductive RelP (w : World) (S : Nat → Nat → Prop) : PV → Value → Prop
  | bool (b : Bool) : RelP w S (.bool b) (.bool b)
  | int (k : IntKind) (n : Int) : RelP w S (.int k n) (.int k n)
  | str (l : List UInt8) : RelP w S (.str l) (.string ⟨l.toArray⟩)
  | nilSlice : RelP w S .nilSlice (.slice none 0 0)
  | empS (a : Addr) (cap : Nat) : RelP w S .empS (.slice (some a) 0 cap)
  | hdr (a : Addr) (n cap : Nat) : RelP w S (.hdr n) (.slice (some a) n cap)
  | slice (s : Nat) (es : List (List PV)) (b off cap : Nat) (u : Nat → Nat → Value) (hcap : es.length ≤ cap)
      (hs : ∀ (i : Nat) (e : List PV), es[i]? = some e → e.length = s)
      (hS : ∀ (i : Nat) (e : List PV) (j : Nat) (p : PV), es[i]? = some e → e[j]? = some p → S b (off + i * s + j))
      (hc : ∀ (i : Nat) (e : List PV) (j : Nat) (p : PV), es[i]? = some e → e[j]? = some p → w.cell? ⟨b, off + i * s + j, none⟩ = some (u i j))
      (hr : ∀ (i : Nat) (e : List PV) (j : Nat) (p : PV), es[i]? = some e → e[j]? = some p → RelP w S p (u i j)) :
      RelP w S (.slice s es) (.slice (some ⟨b, off, none⟩) es.length cap)
  | nilPtr : RelP w S .nilPtr (.pointer none)
  | nilFunc : RelP w S .nilFunc .nilFunc
  | fn (f : FuncId) : RelP w S (.fn f) (.func (.func f) #[] #[])
  | nilIface : RelP w S .nilIface .nilIface
  | iface (t : TypeId) (p : PV) (v : Value) (h : RelP w S p v) : RelP w S (.iface t p) (.iface t v)
  | opq (t : TypeId) (v : Value) : RelP w S .opq (.iface t v)

theorem RelP.mono {w w' : World} {S S' : Nat → Nat → Prop} (hS : ∀ b o, S b o → S' b o)
    (hc : ∀ b o, S b o → w'.cell? ⟨b, o, none⟩ = w.cell? ⟨b, o, none⟩) {p : PV} {v : Value} (h : RelP w S p v) : RelP w' S' p v := by
  induction h with
  | bool b => exact .bool b
  | int k n => exact .int k n
  | str l => exact .str l
  | nilSlice => exact .nilSlice
  | empS a cap => exact .empS a cap
  | hdr a n cap => exact .hdr a n cap
  | slice s es b off cap u hcap hs hS1 hc1 _ ih =>
    exact .slice s es b off cap u hcap hs (fun i e j p h1 h2 => hS _ _ (hS1 i e j p h1 h2))
      (fun i e j p h1 h2 => (hc _ _ (hS1 i e j p h1 h2)).trans (hc1 i e j p h1 h2)) ih
  | nilPtr => exact .nilPtr
  | nilFunc => exact .nilFunc
  | fn f => exact .fn f
  | nilIface => exact .nilIface
  | iface t p v _ ih => exact .iface t p v ih
  | opq t v => exact .opq t v

theorem RelP.oneV {w : World} {S : Nat → Nat → Prop} {p : PV} {v : Value} (h : RelP w S p v) : v.oneCell' = true := by
  cases h <;> rfl

inductive RelS (C : Cf) : SV → Value → Prop
  | pv (p : PV) (v : Value) (h : RelP C.w C.S p v) : RelS C (.pv p) v
  | own (k v s : Nat) (es : List (List PV)) (vc : Nat) (e : TypeId) (g : GB) (val : Value) (hH : C.H[k]? = some (.tok vc e)) (hG : C.G[k]? = some g) (hv : v ≤ vc)
      (h : RelP C.w C.S (.slice s es) val)
      (hcur : v = vc → val = .slice (some ⟨g.blk, 0, none⟩) es.length g.cap ∧ g.len = es.length ∧ g.stride = s) :
      RelS C (.own k v s es) val
  | tight (s : Nat) (es : List (List PV)) (b off : Nat) (h : RelP C.w C.S (.slice s es) (.slice (some ⟨b, off, none⟩) es.length es.length)) :
      RelS C (.tight s es) (.slice (some ⟨b, off, none⟩) es.length es.length)
  | ptr {t : Option TypeId} (k off : Nat) (cs : List SV) (g : GB) (hH : C.H[k]? = some (.box t cs)) (hG : C.G[k]? = some g) :
      RelS C (.ptr k off) (.pointer (some ⟨g.blk, off, none⟩))
  | cptr (cs : List PV) (b off : Nat) (u : Nat → Value) (hS : ∀ (j : Nat) (p : PV), cs[j]? = some p → C.S b (off + j))
      (hc : ∀ (j : Nat) (p : PV), cs[j]? = some p → C.w.cell? ⟨b, off + j, none⟩ = some (u j)) (hr : ∀ (j : Nat) (p : PV), cs[j]? = some p → RelP C.w C.S p (u j)) :
      RelS C (.cptr cs) (.pointer (some ⟨b, off, none⟩))
  | cadr (cs : List PV) (b off : Nat) (u : Nat → Value) (hS : ∀ (j : Nat) (p : PV), cs[j]? = some p → C.S b (off + j))
      (hc : ∀ (j : Nat) (p : PV), cs[j]? = some p → C.w.cell? ⟨b, off + j, none⟩ = some (u j)) (hr : ∀ (j : Nat) (p : PV), cs[j]? = some p → RelP C.w C.S p (u j)) :
      RelS C (.cadr b off cs) (.pointer (some ⟨b, off, none⟩))
  | bsl {t : Option TypeId} (k off len st cap : Nat) (cs : List SV) (g : GB) (hH : C.H[k]? = some (.box t cs)) (hG : C.G[k]? = some g) (hcap : len ≤ cap) :
      RelS C (.bsl k off len st) (.slice (some ⟨g.blk, off, none⟩) len cap)
  | agg (cs : List SV) (us : List Value) (hl : us.length = cs.length) (h1 : ∀ (j : Nat) (c : SV), cs[j]? = some c → c.one = true)
      (h : ∀ (j : Nat) (c : SV) (u : Value), cs[j]? = some c → us[j]? = some u → RelS C c u) : RelS C (.agg cs) (.agg us.toArray)
  | tuple (cs : List SV) (us : List Value) (hl : us.length = cs.length)
      (h : ∀ (j : Nat) (c : SV) (u : Value), cs[j]? = some c → us[j]? = some u → RelS C c u) : RelS C (.tuple cs) (.tuple us.toArray)
  | clo (f : FuncId) (cs : List SV) (us : List Value) (hl : us.length = cs.length)
      (h : ∀ (j : Nat) (c : SV) (u : Value), cs[j]? = some c → us[j]? = some u → RelS C c u) : RelS C (.clo f cs) (.func (.func f) #[] us.toArray)

theorem RelS.oneV {C : Cf} {s : SV} {v : Value} (h : RelS C s v) (h1 : s.one = true) : v.oneCell' = true := by
  cases h with
  | pv p v h => exact h.oneV
  | own k v s es vc e g val hH hG hv h _ => exact h.oneV
  | agg => simp [SV.one] at h1
  | tuple => simp [SV.one] at h1
  | _ => rfl

/-- How a world may evolve under the interpreter. -/
structure Evo (C C' : Cf) : Prop where
  os : C'.w.os = C.w.os
  tape : C'.w.tape = C.w.tape
  output : C'.w.output = C.w.output
  size : C.w.heap.size ≤ C'.w.heap.size
  S : ∀ b o, C.S b o → C'.S b o
  cell : ∀ b o, C.S b o → C'.w.cell? ⟨b, o, none⟩ = C.w.cell? ⟨b, o, none⟩
  frame : ∀ b, b < C.w.heap.size → (∀ (k : Nat) (g : GB), C.G[k]? = some g → g.blk ≠ b) → C'.w.heap[b]? = C.w.heap[b]?
  blks : ∀ (k : Nat) (g : GB), C'.G[k]? = some g → C.w.heap.size ≤ g.blk ∨ ∃ (k0 : Nat) (g0 : GB), C.G[k0]? = some g0 ∧ g0.blk = g.blk
  newS : ∀ b o, C'.S b o → C.S b o ∨ C.w.heap.size ≤ b ∨ ∃ (k : Nat) (g : GB), C.G[k]? = some g ∧ g.blk = b
  boxk : ∀ {t : Option TypeId} (k : Nat) (cs : List SV) (g : GB), C.H[k]? = some (.box t cs) → C.G[k]? = some g → (∃ cs', C'.H[k]? = some (.box t cs') ∧ cs'.length = cs.length) ∧ C'.G[k]? = some g
  tokk : ∀ (k : Nat) (v : Nat) (e : TypeId) (g : GB), C.H[k]? = some (.tok v e) → C.G[k]? = some g → ∃ v' g', C'.H[k]? = some (.tok v' e) ∧ v ≤ v' ∧ C'.G[k]? = some g' ∧ (v' = v → g' = g)

theorem Evo.refl (C : Cf) : Evo C C :=
  ⟨rfl, rfl, rfl, Nat.le_refl _, fun _ _ h => h, fun _ _ _ => rfl, fun _ _ _ => rfl, fun k g h => .inr ⟨k, g, h, rfl⟩, fun _ _ h => .inl h,
    fun _ cs _ h h' => ⟨⟨cs, h, rfl⟩, h'⟩, fun _ v _ g h h' => ⟨v, g, h, Nat.le_refl _, h', fun _ => rfl⟩⟩

theorem Evo.trans {A B C : Cf} (h : Evo A B) (k : Evo B C) : Evo A C := by
  refine ⟨k.os.trans h.os, k.tape.trans h.tape, k.output.trans h.output, Nat.le_trans h.size k.size, fun b o hs => k.S _ _ (h.S _ _ hs),
    fun b o hs => (k.cell _ _ (h.S _ _ hs)).trans (h.cell _ _ hs), ?_, ?_, ?_, ?_, ?_⟩
  · intro b hb hn
    refine (k.frame b (Nat.lt_of_lt_of_le hb h.size) ?_).trans (h.frame b hb hn)
    intro i g hg e
    rcases h.blks i g hg with h1 | ⟨k0, g0, h0, e0⟩
    · omega
    · exact hn k0 g0 h0 (e0.trans e)
  · intro i g hg
    rcases k.blks i g hg with h1 | ⟨k0, g0, h0, e0⟩
    · exact .inl (Nat.le_trans h.size h1)
    · rcases h.blks k0 g0 h0 with h2 | ⟨k1, g1, h3, e1⟩
      · exact .inl (e0 ▸ h2)
      · exact .inr ⟨k1, g1, h3, e1.trans e0⟩
  · intro b o hs
    rcases k.newS b o hs with h1 | h1 | ⟨i, g, hg, e⟩
    · exact h.newS b o h1
    · exact .inr (.inl (Nat.le_trans h.size h1))
    · rcases h.blks i g hg with h2 | ⟨k1, g1, h3, e1⟩
      · exact .inr (.inl (e ▸ h2))
      · exact .inr (.inr ⟨k1, g1, h3, e1.trans e⟩)
  · intro _ i cs g h1 h2
    obtain ⟨⟨cs', h3, e3⟩, h4⟩ := h.boxk i cs g h1 h2
    obtain ⟨⟨cs'', h5, e5⟩, h6⟩ := k.boxk i cs' g h3 h4
    exact ⟨⟨cs'', h5, e5.trans e3⟩, h6⟩
  · intro i v e g h1 h2
    obtain ⟨v', g', h3, h4, h5, h6⟩ := h.tokk i v e g h1 h2
    obtain ⟨v'', g'', h7, h8, h9, h10⟩ := k.tokk i v' e g' h3 h5
    refine ⟨v'', g'', h7, Nat.le_trans h4 h8, h9, fun e => ?_⟩
    have e1 : v' = v := by omega
    have e2 : v'' = v' := by omega
    rw [h10 e2, h6 e1]

theorem Evo.relP {C C' : Cf} (h : Evo C C') {p : PV} {v : Value} (hr : RelP C.w C.S p v) : RelP C'.w C'.S p v := hr.mono h.S h.cell

theorem Evo.rel {C C' : Cf} (h : Evo C C') {s : SV} {v : Value} (hr : RelS C s v) : RelS C' s v := by
  induction hr with
  | pv p v hp => exact .pv p v (h.relP hp)
  | own k v s es vc e g val hH hG hv hp hcur =>
    obtain ⟨v', g', h1, h2, h3, h4⟩ := h.tokk k vc e g hH hG
    refine .own k v s es v' e g' val h1 h3 (Nat.le_trans hv h2) (h.relP hp) (fun e => ?_)
    have e1 : v = vc := by omega
    have e2 : v' = vc := by omega
    rw [h4 e2]
    exact hcur e1
  | tight s es b off hp => exact .tight s es b off (h.relP hp)
  | ptr k off cs g hH hG =>
    obtain ⟨⟨cs', h1, _⟩, h2⟩ := h.boxk k cs g hH hG
    exact .ptr k off cs' g h1 h2
  | cptr cs b off u hS hc hr =>
    exact .cptr cs b off u (fun j p hj => h.S _ _ (hS j p hj)) (fun j p hj => (h.cell _ _ (hS j p hj)).trans (hc j p hj)) (fun j p hj => h.relP (hr j p hj))
  | cadr cs b off u hS hc hr =>
    exact .cadr cs b off u (fun j p hj => h.S _ _ (hS j p hj)) (fun j p hj => (h.cell _ _ (hS j p hj)).trans (hc j p hj)) (fun j p hj => h.relP (hr j p hj))
  | bsl k off len st cap cs g hH hG hcap =>
    obtain ⟨⟨cs', h1, e1⟩, h2⟩ := h.boxk k cs g hH hG
    exact .bsl k off len st cap cs' g h1 h2 hcap
  | agg cs us hl h1 _ ih => exact .agg cs us hl h1 ih
  | tuple cs us hl _ ih => exact .tuple cs us hl ih
  | clo f cs us hl _ ih => exact .clo f cs us hl ih

structure Inv (C : Cf) : Prop where
  len : C.H.length = C.G.length
  inb : ∀ b o, C.S b o → b < C.w.heap.size
  box : ∀ {t : Option TypeId} (k : Nat) (cs : List SV) (g : GB), C.H[k]? = some (.box t cs) → C.G[k]? = some g → ∃ (arr : Array Value) (T : TypeId), C.w.heap[g.blk]? = some (.cells arr T (0, 0)) ∧ cs.length ≤ arr.size ∧
    (∀ (j : Nat) (c : SV) (u : Value), cs[j]? = some c → arr[j]? = some u → RelS C c u) ∧ (∀ (j : Nat) (c : SV), cs[j]? = some c → c.one = true)
  boxS : ∀ {t : Option TypeId} (k : Nat) (cs : List SV) (g : GB) (o : Nat), C.H[k]? = some (.box t cs) → C.G[k]? = some g → ¬ C.S g.blk o
  tok : ∀ (k v : Nat) (e : TypeId) (g : GB), C.H[k]? = some (.tok v e) → C.G[k]? = some g →
    ∃ (arr : Array Value), (∃ (fz : Nat × Nat), C.w.heap[g.blk]? = some (.cells arr e fz) ∧ fz.2 ≤ g.len * g.stride ∧ (e ≠ 5 → fz = (0, 0))) ∧ arr.size = g.cap * g.stride ∧ g.len ≤ g.cap ∧ g.cap ≤ maxLen
  tokS : ∀ (k v : Nat) (e : TypeId) (g : GB) (o : Nat), C.H[k]? = some (.tok v e) → C.G[k]? = some g → g.len * g.stride ≤ o → ¬ C.S g.blk o
  boxT : ∀ (k : Nat) (t : TypeId) (cs : List SV) (g : GB), C.H[k]? = some (.box (some t) cs) → C.G[k]? = some g → ∃ (arr : Array Value), C.w.heap[g.blk]? = some (.cells arr t (0, 0)) ∧ arr.size = cs.length
  dis : ∀ (k k' : Nat) (g g' : GB), k ≠ k' → C.H[k]? ≠ some .hole → C.H[k']? ≠ some .hole → C.G[k]? = some g → C.G[k']? = some g' → g.blk ≠ g'.blk

/-- What stood in a world still stands, and is frozen. -/
structure J0 (W : World) (C : Cf) : Prop where
  size : W.heap.size ≤ C.w.heap.size
  heap : ∀ b, b < W.heap.size → C.w.heap[b]? = W.heap[b]?
  S : ∀ b o, b < W.heap.size → C.S b o
  G : ∀ (k : Nat) (g : GB), C.G[k]? = some g → W.heap.size ≤ g.blk

theorem J0.evo {W : World} {C C' : Cf} (J : J0 W C) (h : Evo C C') : J0 W C' := by
  refine ⟨Nat.le_trans J.size h.size, fun b hb => ?_, fun b o hb => h.S _ _ (J.S b o hb), fun k g hg => ?_⟩
  · refine (h.frame b (Nat.lt_of_lt_of_le hb J.size) fun k g hg e => ?_).trans (J.heap b hb)
    have := J.G k g hg
    omega
  · rcases h.blks k g hg with h1 | ⟨k0, g0, h1, e⟩
    · exact Nat.le_trans J.size h1
    · rw [← e]; exact J.G k0 g0 h1

/-- The slots. -/
def RelL (C : Cf) (l : List SV) (vs : List Value) : Prop := vs.length = l.length ∧ ∀ (j : Nat) (c : SV) (u : Value), l[j]? = some c → vs[j]? = some u → RelS C c u

theorem RelL.evo {C C' : Cf} (h : Evo C C') {l : List SV} {vs : List Value} (hr : RelL C l vs) : RelL C' l vs :=
  ⟨hr.1, fun j c u h1 h2 => h.rel (hr.2 j c u h1 h2)⟩

theorem RelL.nil (C : Cf) : RelL C [] [] := ⟨rfl, fun j c u h => by simp at h⟩

theorem RelL.cons {C : Cf} {c : SV} {u : Value} {l : List SV} {vs : List Value} (h : RelS C c u) (hr : RelL C l vs) : RelL C (c :: l) (u :: vs) := by
  refine ⟨by simp [hr.1], fun j c' u' h1 h2 => ?_⟩
  cases j with
  | zero => simp at h1 h2; subst h1; subst h2; exact h
  | succ j => simp at h1 h2; exact hr.2 j c' u' h1 h2

theorem RelL.uncons {C : Cf} {c : SV} {l : List SV} {vs : List Value} (h : RelL C (c :: l) vs) : ∃ u us, vs = u :: us ∧ RelS C c u ∧ RelL C l us := by
  obtain ⟨h1, h2⟩ := h
  cases vs with
  | nil => simp at h1
  | cons u us => exact ⟨u, us, rfl, h2 0 c u rfl rfl, by simpa using h1, fun j c' u' h3 h4 => h2 (j + 1) c' u' (by simpa using h3) (by simpa using h4)⟩

theorem RelL.append {C : Cf} {l l' : List SV} {vs vs' : List Value} (h : RelL C l vs) (h' : RelL C l' vs') : RelL C (l ++ l') (vs ++ vs') := by
  induction l generalizing vs with
  | nil =>
    have : vs = [] := by simpa using h.1
    subst this; simpa using h'
  | cons c r ih =>
    obtain ⟨u, us, rfl, h1, h2⟩ := h.uncons
    exact RelL.cons h1 (ih h2)

theorem RelL.get {C : Cf} {l : List SV} {vs : List Value} (h : RelL C l vs) {j : Nat} {c : SV} (hc : l[j]? = some c) : ∃ u, vs[j]? = some u ∧ RelS C c u := by
  have hj : j < vs.length := by
    rw [h.1]; exact (List.getElem?_eq_some_iff.1 hc).1
  exact ⟨vs[j], by simp [hj], h.2 j c vs[j] hc (by simp [hj])⟩

theorem RelL.drop {C : Cf} {l : List SV} {vs : List Value} (h : RelL C l vs) (n : Nat) : RelL C (l.drop n) (vs.drop n) :=
  ⟨by simp [h.1], fun j c u h1 h2 => h.2 (n + j) c u (by simpa using h1) (by simpa using h2)⟩

theorem RelL.take {C : Cf} {l : List SV} {vs : List Value} (h : RelL C l vs) (n : Nat) : RelL C (l.take n) (vs.take n) := by
  refine ⟨by simp [h.1], fun j c u h1 h2 => ?_⟩
  rw [List.getElem?_take] at h1 h2
  split at h1
  · rename_i hj
    rw [if_pos hj] at h2
    exact h.2 j c u h1 h2
  · cases h1

theorem RelL.set {C : Cf} {l : List SV} {vs : List Value} (h : RelL C l vs) (n : Nat) {c : SV} {u : Value} (hc : RelS C c u) : RelL C (l.set n c) (vs.set n u) := by
  refine ⟨by simp [h.1], fun j c' u' h1 h2 => ?_⟩
  rw [List.getElem?_set] at h1 h2
  split at h1
  · rename_i e
    rw [if_pos e] at h2
    subst e
    split at h1
    · rename_i hl
      rw [if_pos (by rw [h.1]; exact hl)] at h2
      cases h1; cases h2; exact hc
    · cases h1
  · rename_i e
    rw [if_neg e] at h2
    exact h.2 j c' u' h1 h2

end Go.Pm
