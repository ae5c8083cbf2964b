/- Stores and append. -/
import Derived.Test.YtkckpmcpmngiiaaGreatDoorPmHeap2
import Derived.Lib.FrozenHead2
import Derived.Deep.Upon
import Derived.Lib.ConvBytes
set_option linter.unusedSimpArgs false
set_option linter.unusedVariables false
set_option linter.unusedSectionVars false
namespace Go.Pm

theorem setV_get : ∀ (ws us : List Value) (off j : Nat), off + ws.length ≤ us.length →
    (setV us off ws)[j]? = if off ≤ j ∧ j < off + ws.length then ws[j - off]? else us[j]?
  | [], us, off, j, h => by
    simp only [setV, List.length_nil, Nat.add_zero]
    rw [if_neg (by omega)]
  | w :: r, us, off, j, h => by
    simp only [setV]
    rw [setV_get r (us.set off w) (off + 1) j (by simp at h ⊢; omega)]
    simp only [List.length_cons] at h ⊢
    by_cases hj : j = off
    · subst hj
      rw [if_neg (by omega), if_pos (by omega), List.getElem?_set_self (by omega), Nat.sub_self]
      rfl
    · by_cases h2 : off + 1 ≤ j ∧ j < off + 1 + r.length
      · rw [if_pos h2, if_pos (by omega)]
        have : j - off = (j - (off + 1)) + 1 := by omega
        rw [this, List.getElem?_cons_succ]
      · rw [if_neg h2, if_neg (by omega), List.getElem?_set_ne (Ne.symm hj)]

theorem setV_length : ∀ (ws us : List Value) (off : Nat), (setV us off ws).length = us.length
  | [], _, _ => rfl
  | w :: r, us, off => by simp [setV, setV_length r]

theorem splice_eq (us ws : List Value) (off : Nat) (h : off + ws.length ≤ us.length) : us.take off ++ ws ++ us.drop (off + ws.length) = setV us off ws := by
  apply List.ext_getElem?
  intro j
  rw [setV_get ws us off j h, List.append_assoc]
  by_cases h1 : j < off
  · rw [List.getElem?_append_left (by simp; omega), List.getElem?_take, if_pos h1, if_neg (by omega)]
  · rw [List.getElem?_append_right (by simp; omega)]
    have e1 : (us.take off).length = off := by simp; omega
    rw [e1]
    by_cases h2 : j < off + ws.length
    · rw [List.getElem?_append_left (by omega), if_pos (by omega)]
    · rw [List.getElem?_append_right (by omega), if_neg (by omega), List.getElem?_drop]
      congr 1
      omega

theorem arr_eq (l : List Value) (A : Array Value) : l.toArray ++ A = (l ++ A.toList).toArray := by
  apply Array.ext'; simp
theorem arr_eq2 (l r : List Value) (A : Array Value) : l.toArray ++ r.toArray ++ A = (l ++ r ++ A.toList).toArray := by
  apply Array.ext'; simp

/-- A token moves to a new block. -/
theorem reTok {C : Cf} (I : Inv C) {w' : World} {news rest : List Value} {k v : Nat} {e : TypeId} {g : GB} {cap s : Nat} {es : List (List PV)} (hw : Pushed C.w w' (.cells (news ++ rest).toArray e (0, 0)))
    (hH : C.H[k]? = some (.tok v e)) (hG : C.G[k]? = some g)
    (hr : Row C.w C.S s es news) (hsz : (news ++ rest).length = cap * s) (hcap : es.length ≤ cap) (hm : cap ≤ maxLen) :
    ∃ C', C'.w = w' ∧ Good C C' (C.H.set k (.tok (v + 1) e)) (.own k (v + 1) s es) (.slice (some ⟨C.w.heap.size, 0, none⟩) es.length cap) := by
  have hkH : k < C.H.length := (List.getElem?_eq_some_iff.1 hH).1
  have hkG : k < C.G.length := (List.getElem?_eq_some_iff.1 hG).1
  have blkLt : ∀ (k : Nat) (g : GB), C.G[k]? = some g → C.H[k]? ≠ some .hole → g.blk < C.w.heap.size := by
    intro k g hk hnh
    have hk' : k < C.H.length := by rw [I.len]; exact (List.getElem?_eq_some_iff.1 hk).1
    cases hH : C.H[k]? with
    | none => simp at hH; omega
    | some b =>
      cases b with
      | box _ cs => obtain ⟨arr, T, h1, _⟩ := I.box k cs g hH hk; exact (Array.getElem?_eq_some_iff.1 h1).1
      | tok v e => obtain ⟨arr, ⟨fz, h1, _⟩, _⟩ := I.tok k v e g hH hk; exact (Array.getElem?_eq_some_iff.1 h1).1
      | hole => exact absurd hH hnh
  let g' : GB := ⟨C.w.heap.size, es.length, cap, s⟩
  let S' : Nat → Nat → Prop := fun b x => C.S b x ∨ (b = C.w.heap.size ∧ x < news.length)
  have notS : ∀ (i : Nat) (gi : GB) (x : Nat), C.G[i]? = some gi → C.H[i]? ≠ some .hole → S' gi.blk x → C.S gi.blk x := by
    intro i gi x hi hnh hx
    rcases hx with h | ⟨h, _⟩
    · exact h
    · have := blkLt i gi hi hnh; omega
  have nh : ∀ {k : Nat} {b : Blk}, C.H[k]? = some b → b ≠ .hole → C.H[k]? ≠ some .hole := by
    intro k b h hb e; rw [h] at e; exact hb (Option.some.inj e)
  have EV : Evo C ⟨w', S', C.H.set k (.tok (v + 1) e), C.G.set k g'⟩ := by
    refine ⟨hw.os, hw.tape, hw.output, by rw [hw.size]; omega, fun b x h => .inl h, fun b x hb => hw.cell (I.inb _ _ hb), fun b hb _ => hw.old hb, ?_, ?_, ?_, ?_⟩
    · intro i gi hi
      simp only [List.getElem?_set] at hi
      split at hi
      · cases hi; exact .inl (Nat.le_refl _)
      · exact .inr ⟨i, gi, hi, rfl⟩
    · intro b x hb
      rcases hb with h | ⟨h, _⟩
      · exact .inl h
      · exact .inr (.inl (by omega))
    · intro _ i cs gi h1 h2
      have e1 : k ≠ i := fun h => by subst h; rw [hH] at h1; cases h1
      exact ⟨⟨cs, by simp only [List.getElem?_set, if_neg e1]; exact h1, rfl⟩, by simp only [List.getElem?_set, if_neg e1]; exact h2⟩
    · intro i v' e' gi h1 h2
      by_cases e1 : i = k
      · subst e1
        rw [hH] at h1; cases h1
        exact ⟨v + 1, g', by simp [hkH], by omega, by simp [hkG], fun h => by omega⟩
      · exact ⟨v', gi, by simp only [List.getElem?_set, if_neg (Ne.symm e1)]; exact h1, Nat.le_refl _, by simp only [List.getElem?_set, if_neg (Ne.symm e1)]; exact h2, fun _ => rfl⟩
  have getH : ∀ (i : Nat) (b : Blk), (C.H.set k (.tok (v + 1) e))[i]? = some b → (i = k ∧ b = .tok (v + 1) e) ∨ (i ≠ k ∧ C.H[i]? = some b) := by
    intro i b hi
    rw [List.getElem?_set] at hi
    split at hi
    · rename_i e
      cases hi; exact .inl ⟨e.symm, rfl⟩
    · rename_i e; exact .inr ⟨fun h => e h.symm, hi⟩
  have getG : ∀ (i : Nat) (b : GB), (C.G.set k g')[i]? = some b → (i = k ∧ b = g') ∨ (i ≠ k ∧ C.G[i]? = some b) := by
    intro i b hi
    rw [List.getElem?_set] at hi
    split at hi
    · rename_i e
      cases hi; exact .inl ⟨e.symm, rfl⟩
    · rename_i e; exact .inr ⟨fun h => e h.symm, hi⟩
  refine ⟨⟨w', S', C.H.set k (.tok (v + 1) e), C.G.set k g'⟩, rfl, rfl, ?_, EV, ?_⟩
  · refine ⟨by simp [I.len], ?_, ?_, ?_, ?_, ?_, ?_, ?_⟩
    · intro b x hb
      simp only [hw.size]
      rcases hb with h | ⟨h, _⟩
      · have := I.inb _ _ h; omega
      · omega
    · intro _ i cs gi h1 h2
      rcases getH _ _ h1 with ⟨_, e1⟩ | ⟨hn, h1'⟩
      · cases e1
      · rcases getG _ _ h2 with ⟨e2, _⟩ | ⟨_, h2'⟩
        · exact absurd e2 hn
        · obtain ⟨arr, T, h3, h4, h5, h6⟩ := I.box i cs gi h1' h2'
          exact ⟨arr, T, by simp only [hw.old (blkLt i gi h2' (nh h1' (by simp)))]; exact h3, h4, fun j c u hj hu => EV.rel (h5 j c u hj hu), h6⟩
    · intro _ i cs gi x h1 h2 hx
      rcases getH _ _ h1 with ⟨_, e1⟩ | ⟨hn, h1'⟩
      · cases e1
      · rcases getG _ _ h2 with ⟨e2, _⟩ | ⟨_, h2'⟩
        · exact absurd e2 hn
        · exact I.boxS i cs gi x h1' h2' (notS i gi x h2' (nh h1' (by simp)) hx)
    · intro i v' e' gi h1 h2
      rcases getH _ _ h1 with ⟨q1, e1⟩ | ⟨hn, h1'⟩
      · rcases getG _ _ h2 with ⟨_, e2⟩ | ⟨hn, _⟩
        · cases e1; subst e2
          exact ⟨_, ⟨(0, 0), hw.new, Nat.zero_le _, fun _ => rfl⟩, by simpa using hsz, hcap, hm⟩
        · exact absurd q1 hn
      · rcases getG _ _ h2 with ⟨e2, _⟩ | ⟨_, h2'⟩
        · exact absurd e2 hn
        · obtain ⟨arr, h3, h4⟩ := I.tok i v' e' gi h1' h2'
          exact ⟨arr, by simp only [hw.old (blkLt i gi h2' (nh h1' (by simp)))]; exact h3, h4⟩
    · intro i v' e' gi x h1 h2 hx hS
      rcases getH _ _ h1 with ⟨q1, e1⟩ | ⟨hn, h1'⟩
      · rcases getG _ _ h2 with ⟨_, e2⟩ | ⟨hn, _⟩
        · cases e1; subst e2
          rcases hS with h | ⟨_, h⟩
          · exact Nat.lt_irrefl _ (I.inb _ _ h)
          · rw [hr.len] at h; simp only [g'] at hx; omega
        · exact absurd q1 hn
      · rcases getG _ _ h2 with ⟨e2, _⟩ | ⟨_, h2'⟩
        · exact absurd e2 hn
        · exact I.tokS i v' e' gi x h1' h2' hx (notS i gi x h2' (nh h1' (by simp)) hS)
    · intro i t' cs gi h1 h2
      rcases getH _ _ h1 with ⟨_, e1⟩ | ⟨hn, h1'⟩
      · cases e1
      · rcases getG _ _ h2 with ⟨e2, _⟩ | ⟨_, h2'⟩
        · exact absurd e2 hn
        · obtain ⟨arr, h3, h4⟩ := I.boxT i t' cs gi h1' h2'
          exact ⟨arr, by simp only [hw.old (blkLt i gi h2' (nh h1' (by simp)))]; exact h3, h4⟩
    · intro i i' gi gi' hne hk1 hk2 h1 h2
      have back : ∀ {j : Nat}, j ≠ k → (C.H.set k (.tok (v + 1) e))[j]? = C.H[j]? := by
        intro j hj; rw [List.getElem?_set_ne (Ne.symm hj)]
      rcases getG _ _ h1 with ⟨q1, e1⟩ | ⟨hn1, h1'⟩ <;> rcases getG _ _ h2 with ⟨q2, e2⟩ | ⟨hn2, h2'⟩
      · exact absurd (q1.trans q2.symm) hne
      · have := blkLt i' gi' h2' (by rw [← back hn2]; exact hk2); rw [e1]; simp only [g']; omega
      · have := blkLt i gi h1' (by rw [← back hn1]; exact hk1); rw [e2]; simp only [g']; omega
      · exact I.dis i i' gi gi' hne (by rw [← back hn1]; exact hk1) (by rw [← back hn2]; exact hk2) h1' h2'
  · have hp : RelP w' S' (.slice s es) (.slice (some ⟨C.w.heap.size, 0, none⟩) es.length cap) := by
      refine (hr.mono EV.S EV.cell).rel_at _ 0 _ hcap (fun q u hq => ⟨?_, .inr ⟨rfl, ?_⟩⟩)
      · simp only [Nat.zero_add]
        rw [cell_of_row w' _ _ _ _ _ hw.new]
        have := (List.getElem?_eq_some_iff.1 hq).1
        simp [List.getElem?_append_left this, hq]
      · simp; exact (List.getElem?_eq_some_iff.1 hq).1
    exact .own k (v + 1) s es (v + 1) e g' _ (by simp [hkH]) (by simp [hkG]) (Nat.le_refl _) hp (fun _ => ⟨rfl, rfl, rfl⟩)

section
variable {P : Program} {Y : TypeId → Option Ty} (E : Env P Y)
include E

theorem store_run {C : Cf} (I : Inv C) {t : TypeId} {a x : SV} {va vx : Value} {H' : List Blk} (h : aStore Y C.H t a x = some H') (ha : RelS C a va) (hx : RelS C x vx) :
    ∃ C', (Instr.storeAt t va vx).run P C.w = .ok () C'.w ∧ Good C C' H' .undef Go.undef := by
  unfold aStore at h
  split at h
  · rename_i y k off vs hy hvs
    split at h
    · rename_i tb cs hH
      split at h
      · rename_i hc
        cases h
        cases ha with | ptr _ _ cs' g hH' hG =>
        have e : cs' = cs := by rw [hH] at hH'; cases hH'; rfl
        subst e
        obtain ⟨h2, h3⟩ := cellsOf_rel hvs hx
        obtain ⟨arr, T, hg, hsz, hrel, hone⟩ := I.box k cs' g hH hG
        have hln : off + vx.cells.toList.length ≤ cs'.length := by rw [h2.1, hc.1]; exact hc.2
        have hl : off + vx.cells.toList.length ≤ arr.size := Nat.le_trans hln hsz
        have h1 : ∀ v ∈ vx.cells.toList, v.oneCell' = true := by
          intro v hv
          obtain ⟨j, hj⟩ := List.getElem?_of_mem hv
          have hjl : j < vs.length := by rw [← h2.1]; exact (List.getElem?_eq_some_iff.1 hj).1
          exact (h2.2 j vs[j] v (by simp [hjl]) hj).oneV (h3 j vs[j] (by simp [hjl]))
        have hrun := run_storeCells_at P g.blk off T vx.cells.toList 0 arr C.w hg (by simpa using hl) h1
        simp only [Nat.add_zero] at hrun
        rw [splice_eq arr.toList vx.cells.toList off (by simpa using hl)] at hrun
        have hRel0 : RelL C (setCells cs' off vs) (setV (arr.toList.take cs'.length) off vx.cells.toList) := setCells_rel off ⟨by simp; omega, fun j c u hj hu => by
          rw [List.getElem?_take] at hu
          split at hu
          · exact hrel j c u hj (by simpa using hu)
          · cases hu⟩ h2
        have hRel : ∀ (j : Nat) (c : SV) (u : Value), (setCells cs' off vs)[j]? = some c → (setV arr.toList off vx.cells.toList)[j]? = some u → RelS C c u := by
          intro j c u hj hu
          have hjl : j < cs'.length := by have := (List.getElem?_eq_some_iff.1 hj).1; rw [setCells_length] at this; exact this
          refine hRel0.2 j c u hj ?_
          rw [setV_get _ _ _ _ (by simpa using hl)] at hu
          rw [setV_get _ _ _ _ (by simp; simp at hln; omega), List.getElem?_take, if_pos hjl]
          exact hu
        have hSno : ∀ x, ¬ C.S g.blk x := fun x => I.boxS k cs' g x hH hG
        have EV : Evo C ⟨C.w.setRow g.blk (setV arr.toList off vx.cells.toList).toArray, C.S, C.H.set k (.box tb (setCells cs' off vs)), C.G.set k g⟩ :=
          evo_set hG hg (fun x hx' => absurd hx' (hSno x)) C.S (fun _ _ h => h) (fun _ _ h => .inl h) hH (.inl ⟨tb, cs', _, rfl, rfl, setCells_length vs cs' off⟩) g rfl (fun _ _ _ => rfl)
        have IV := inv_set I hG hg C.S (fun _ _ h => .inl h) hH (by simp) g rfl EV (fun _ cs1 e1 => by
          cases e1
          refine ⟨rfl, rfl, hSno, by simp [setV_length, setCells_length, hsz], fun j c u hj hu => EV.rel (hRel j c u hj (by simpa using hu)), setCells_one vs cs' off hone h3⟩) (fun t1 cs1 e1 => by
          cases e1
          obtain ⟨a, b1, b2⟩ := I.boxT k _ _ g hH hG
          rw [hg] at b1; cases b1
          exact ⟨rfl, rfl, by simp [setV_length, setCells_length, b2]⟩) (fun v e e1 => by cases e1)
        refine ⟨_, ?_, rfl, IV, EV, undef_rel _⟩
        have hszv : vx.cells.size = y.size := by rw [← hc.1, ← h2.1]; simp
        simp only [Instr.storeAt, Instr.sureAddr, storeVar, Sem.run_bind, Sem.run_pure, Result.andThen_ok, E.size hy, hszv, ne_eq, not_true_eq_false, Sem.run_ite, if_false, hrun]
      · cases h
    · cases h
  · cases h

omit E in
/-- Cells of a box are written. -/
theorem writeBox {C : Cf} (I : Inv C) {tb : Option TypeId} {k off : Nat} {cs : List SV} {g : GB} (hH : C.H[k]? = some (.box tb cs)) (hG : C.G[k]? = some g) {vs : List SV} {ws : List Value} (h2 : RelL C vs ws)
    (h3 : ∀ (j : Nat) (c : SV), vs[j]? = some c → c.one = true) (hl : off + vs.length ≤ cs.length) :
    ∃ C', (storeCells ⟨g.blk, off, none⟩ ws 0).run P C.w = .ok () C'.w ∧ C'.H = C.H.set k (.box tb (setCells cs off vs)) ∧ Inv C' ∧ Evo C C' := by
  obtain ⟨arr, T, hg, hsz, hrel, hone⟩ := I.box k cs g hH hG
  have hln : off + ws.length ≤ cs.length := by rw [h2.1]; exact hl
  have hl : off + ws.length ≤ arr.size := Nat.le_trans hln hsz
  have h1 : ∀ v ∈ ws, v.oneCell' = true := by
    intro v hv
    obtain ⟨j, hj⟩ := List.getElem?_of_mem hv
    have hjl : j < vs.length := by rw [← h2.1]; exact (List.getElem?_eq_some_iff.1 hj).1
    exact (h2.2 j vs[j] v (by simp [hjl]) hj).oneV (h3 j vs[j] (by simp [hjl]))
  have hrun := run_storeCells_at P g.blk off T ws 0 arr C.w hg (by simpa using hl) h1
  simp only [Nat.add_zero] at hrun
  rw [splice_eq arr.toList ws off (by simpa using hl)] at hrun
  have hRel0 : RelL C (setCells cs off vs) (setV (arr.toList.take cs.length) off ws) := setCells_rel off ⟨by simp; omega, fun j c u hj hu => by
    rw [List.getElem?_take] at hu
    split at hu
    · exact hrel j c u hj (by simpa using hu)
    · cases hu⟩ h2
  have hRel : ∀ (j : Nat) (c : SV) (u : Value), (setCells cs off vs)[j]? = some c → (setV arr.toList off ws)[j]? = some u → RelS C c u := by
    intro j c u hj hu
    have hjl : j < cs.length := by have := (List.getElem?_eq_some_iff.1 hj).1; rw [setCells_length] at this; exact this
    refine hRel0.2 j c u hj ?_
    rw [setV_get _ _ _ _ (by simpa using hl)] at hu
    rw [setV_get _ _ _ _ (by simp; omega), List.getElem?_take, if_pos hjl]
    exact hu
  have hSno : ∀ x, ¬ C.S g.blk x := fun x => I.boxS k cs g x hH hG
  have EV : Evo C ⟨C.w.setRow g.blk (setV arr.toList off ws).toArray, C.S, C.H.set k (.box tb (setCells cs off vs)), C.G.set k g⟩ :=
    evo_set hG hg (fun x hx' => absurd hx' (hSno x)) C.S (fun _ _ h => h) (fun _ _ h => .inl h) hH (.inl ⟨tb, cs, _, rfl, rfl, setCells_length vs cs off⟩) g rfl (fun _ _ _ => rfl)
  have IV := inv_set I hG hg C.S (fun _ _ h => .inl h) hH (by simp) g rfl EV (fun _ cs1 e1 => by
    cases e1
    refine ⟨rfl, rfl, hSno, by simp [setV_length, setCells_length, hsz], fun j c u hj hu => EV.rel (hRel j c u hj (by simpa using hu)), setCells_one vs cs off hone h3⟩) (fun t1 cs1 e1 => by
    cases e1
    obtain ⟨a, b1, b2⟩ := I.boxT k _ _ g hH hG
    rw [hg] at b1; cases b1
    exact ⟨rfl, rfl, by simp [setV_length, setCells_length, b2]⟩) (fun v e e1 => by cases e1)
  exact ⟨_, hrun, rfl, IV, EV⟩

omit E in
theorem flat_len {es : List (List PV)} {s : Nat} (hs : ∀ (i : Nat) (e : List PV), es[i]? = some e → e.length = s) : es.flatten.length = es.length * s := by
  induction es with
  | nil => simp
  | cons e r ih =>
    have := ih fun i e h => hs (i + 1) e (by simpa using h)
    have h0 := hs 0 e (by simp)
    simp [List.flatten_cons, -List.length_flatten, this, h0, Nat.add_mul, Nat.add_comm]

omit E in
theorem flat_get {s : Nat} (h0 : 0 < s) : ∀ {es : List (List PV)} (_ : ∀ (i : Nat) (e : List PV), es[i]? = some e → e.length = s) {q : Nat} {p : PV}, es.flatten[q]? = some p →
    ∃ e, es[q / s]? = some e ∧ e[q % s]? = some p
  | [], _, q, p, h => by simp at h
  | e :: r, hs, q, p, h => by
    have hl := hs 0 e (by simp)
    rw [List.flatten_cons] at h
    by_cases hq : q < s
    · rw [List.getElem?_append_left (by omega)] at h
      rw [Nat.div_eq_of_lt hq, Nat.mod_eq_of_lt hq]
      exact ⟨e, by simp, h⟩
    · rw [List.getElem?_append_right (by omega), hl] at h
      obtain ⟨e', h1, h2⟩ := flat_get h0 (fun i e h => hs (i + 1) e (by simpa using h)) h
      have e1 : q = (q - s) + s := by omega
      refine ⟨e', ?_, ?_⟩
      · rw [e1, Nat.add_div_right _ h0]; simpa using h1
      · rw [e1, Nat.add_mod_right]; exact h2

omit E in
/-- A row that is read: its cells, and where they lie. -/
theorem src_cells {C : Cf} (I : Inv C) {st n : Nat} {us : List SV} {x : SV} {v : Value} (hst : 0 < st) (h : srcCells C.H st x = some (n, us)) (hr : RelS C x v) :
    ∃ (base : Option Addr) (cap : Nat) (news : List Value), v = .slice base n cap ∧ us.length = n * st ∧ RelL C us news ∧ (∀ (j : Nat) (c : SV), us[j]? = some c → c.one = true) ∧
      (base = none → n = 0) ∧ (∀ a, base = some a → ∀ (j : Nat) (u : Value), news[j]? = some u → C.w.cell? (a.add j) = some u) := by
  have row : ∀ {s : Nat} {es : List (List PV)} {v : Value}, s = st → RelP C.w C.S (.slice s es) v → ∃ (base : Option Addr) (cap : Nat) (news : List Value), v = .slice base es.length cap ∧ (es.flatten.map SV.pv).length = es.length * st ∧
      RelL C (es.flatten.map SV.pv) news ∧ (∀ (j : Nat) (c : SV), (es.flatten.map SV.pv)[j]? = some c → c.one = true) ∧ (base = none → es.length = 0) ∧ (∀ a, base = some a → ∀ (j : Nat) (u : Value), news[j]? = some u → C.w.cell? (a.add j) = some u) := by
    intro s es v e hp
    subst e
    have hv : ∃ b off cap, v = .slice (some ⟨b, off, none⟩) es.length cap := by cases hp; exact ⟨_, _, _, rfl⟩
    obtain ⟨b, off, cap, rfl⟩ := hv
    obtain ⟨news, hrow, _, _, hcell⟩ := row_of hp hst
    refine ⟨_, cap, news, rfl, by rw [List.length_map, flat_len hrow.each], ⟨by rw [List.length_map, flat_len hrow.each, hrow.len], ?_⟩, ?_, (fun e => by cases e), ?_⟩
    · intro j c u hj hu
      rw [List.getElem?_map] at hj
      cases hf : es.flatten[j]? with
      | none => rw [hf] at hj; cases hj
      | some p =>
        rw [hf] at hj
        simp at hj
        subst hj
        obtain ⟨e, h1, h2⟩ := flat_get hst hrow.each hf
        obtain ⟨v', h3, h4⟩ := hrow.rel _ e _ p h1 h2
        have : j / s * s + j % s = j := by rw [Nat.mul_comm]; exact Nat.div_add_mod j s
        rw [this, hu] at h3
        cases h3
        exact .pv _ _ h4
    · intro j c hj
      obtain ⟨p, _, rfl⟩ := List.mem_map.1 (List.mem_of_getElem? hj)
      rfl
    · intro a ha j u hj
      cases ha
      rw [Addr.add_lit]; exact (hcell j u hj).1
  unfold srcCells at h
  split at h
  · cases h
    cases hr with | pv _ _ hp =>
    cases hp
    exact ⟨none, 0, [], rfl, by simp, RelL.nil C, fun j c hj => by simp at hj, fun _ => rfl, fun a ha => by cases ha⟩
  · split at h
    · rename_i e
      cases h
      cases hr with | pv _ _ hp =>
      exact row e hp
    · cases h
  · split at h
    · rename_i e
      cases h
      cases hr with | own _ _ _ _ _ _ _ _ _ _ _ hp _ =>
      exact row e hp
    · cases h
  · split at h
    · rename_i e
      cases h
      cases hr with | tight _ _ _ _ hp =>
      exact row e hp
    · cases h
  · rename_i k off len s
    split at h
    · rename_i cs hH
      split at h
      · rename_i hc
        cases h
        cases hr with | bsl _ _ _ _ cap cs' g hH' hG hcap =>
        have e : cs' = cs := by rw [hH] at hH'; cases hH'; rfl
        subst e
        obtain ⟨arr, T, hg, hsz, hrel, hone⟩ := I.box k cs' g hH hG
        refine ⟨_, cap, (arr.toList.drop off).take (n * st), rfl, by simp; omega, ⟨by simp; omega, ?_⟩, ?_, (fun e => by cases e), ?_⟩
        · intro j c u hj hu
          rw [List.getElem?_take] at hj hu
          split at hj
          · rename_i hlt
            rw [if_pos hlt] at hu
            rw [List.getElem?_drop] at hj hu
            exact hrel _ c u hj (by simpa using hu)
          · cases hj
        · intro j c hj
          rw [List.getElem?_take] at hj
          split at hj
          · rw [List.getElem?_drop] at hj
            exact hone _ c hj
          · cases hj
        · intro a ha j u hj
          cases ha
          rw [Addr.add_lit, cell_of_row _ _ _ _ _ _ hg]
          rw [List.getElem?_take] at hj
          split at hj
          · rw [List.getElem?_drop] at hj; simpa using hj
          · cases hj
      · cases h
    · cases h
  · cases h

theorem copy_run {C : Cf} (I : Inv C) {t t2 ty : TypeId} {d s r : SV} {vd vs : Value} {H' : List Blk} (h : aCopy Y C.H t d s = some (r, H')) (hd : RelS C d vd) (hs : RelS C s vs) :
    ∃ v C', (Builtin.copy_ #[t, t2] ty #[vd, vs]).run P C.w = .ok v C'.w ∧ Good C C' H' r v := by
  unfold aCopy at h
  split at h
  · rename_i e k off len st hk
    split at h
    · rename_i y tb cs n us hy hH hsrc
      split at h
      · rename_i hc
        obtain ⟨hys, hpos, hfit⟩ := hc
        cases h
        cases hd with | bsl _ _ _ _ cap cs' g hH' hG hcap =>
        have e1 : cs' = cs := by rw [hH] at hH'; cases hH'; rfl
        subst e1
        obtain ⟨base, cap2, news, rfl, hlen, hrel, hone, hb0, hcell⟩ := src_cells I hpos hsrc hs
        have hmin : min n len * st ≤ n * st := Nat.mul_le_mul_right _ (Nat.min_le_left _ _)
        have hmin2 : min n len * st ≤ len * st := Nat.mul_le_mul_right _ (Nat.min_le_right _ _)
        have hnl : news.length = n * st := by rw [hrel.1, hlen]
        obtain ⟨C', hrun, hH2, hI2, hE2⟩ := writeBox (P := P) I hH hG (off := off) (hrel.take (min n len * st)) (fun j c hj => by
          rw [List.getElem?_take] at hj
          split at hj
          · exact hone j c hj
          · cases hj) (by simp; omega)
        refine ⟨goInt (min n len : Nat), C', ?_, hH2, hI2, hE2, .pv _ _ (.int _ _)⟩
        have hsz := E.size hy C.w
        have hu := E.slice hk
        have hload : (Builtin.firstCells y.size (min n len) (.slice base n cap2)).run P C.w = .ok (news.take (min n len * st)).toArray C.w := by
          cases base with
          | none =>
            have : n = 0 := hb0 rfl
            subst this
            simp [Builtin.firstCells]
          | some a =>
            have := run_loadCells_list (P := P) C.w a (news.take (min n len * st)) (fun j u hj => by
              rw [List.getElem?_take] at hj
              split at hj
              · exact hcell a rfl j u hj
              · cases hj)
            have hl2 : (news.take (min n len * st)).length = min n len * st := by simp; omega
            rw [hl2] at this
            simp only [Builtin.firstCells, hys]
            exact this
        have hsz' : (sizeOf e).run P C.w = .ok y.size C.w := hsz
        simp [Builtin.copy_, run_underlying hu, Builtin.lenOf, hsz', hload, hrun, Nat.min_def] at *
      · cases h
    · cases h
  · cases h

theorem clear_run {C : Cf} (I : Inv C) {t ty : TypeId} {d r : SV} {vd : Value} {H' : List Blk} (h : aClear Y C.H t d = some (r, H')) (hd : RelS C d vd) :
    ∃ v C', (Builtin.clear_ #[t] ty #[vd]).run P C.w = .ok v C'.w ∧ Good C C' H' r v := by
  unfold aClear at h
  split at h
  · rename_i e k off len st hk
    split at h
    · rename_i y tb cs hy hH
      split at h
      · rename_i hc
        obtain ⟨hys, hpos, hlpos, hfit⟩ := hc
        cases h
        cases hd with | bsl _ _ _ _ cap cs' g hH' hG hcap =>
        have e1 : cs' = cs := by rw [hH] at hH'; cases hH'; rfl
        subst e1
        obtain ⟨z, hz, hzp⟩ := E.zero hy C.w
        obtain ⟨z1, z2⟩ := zero_rel (C := C) hzp
        have hzl : y.zero.length = y.size := E.zlen hy
        have hzs : z.cells.size = y.size := by have := z1.1; simp at this; omega
        have hlen : ((List.replicate len (y.zero.map SV.pv)).flatten).length = len * y.size := by simp [hzl]
        have hR : RelL C ((List.replicate len (y.zero.map SV.pv)).flatten) (Builtin.zeroCells z.cells len).toList := by
          refine ⟨by rw [hlen]; simp [size_zeroCells, hzs], fun j c u hj hu => ?_⟩
          have hjl : j < len * y.size := by rw [← hlen]; exact (List.getElem?_eq_some_iff.1 hj).1
          have hml : j % y.size < y.size := Nat.mod_lt _ (by omega)
          rw [flatten_replicate_get _ _ j (by simpa [hzl] using hjl)] at hj
          simp only [List.length_map, hzl] at hj
          have hu' : u = z.cells[j % y.size]! := by
            simp [Builtin.zeroCells, hjl, hzs] at hu
            exact hu.symm
          refine z1.2 (j % y.size) c u hj ?_
          rw [hu']
          simp [hzs, hml]
        have hone : ∀ (j : Nat) (c : SV), ((List.replicate len (y.zero.map SV.pv)).flatten)[j]? = some c → c.one = true := by
          intro j c hj
          obtain ⟨l, hl, hc⟩ := List.mem_flatten.1 (List.mem_of_getElem? hj)
          have := (List.mem_replicate.1 hl).2
          subst this
          obtain ⟨p, _, rfl⟩ := List.mem_map.1 hc
          rfl
        obtain ⟨C', hrun, hH2, hI2, hE2⟩ := writeBox (P := P) I hH hG (off := off) hR hone (by rw [hlen, hys]; exact hfit)
        refine ⟨.tuple #[], C', ?_, hH2, hI2, hE2, undef_rel _⟩
        obtain ⟨m, rfl⟩ : ∃ m, len = m + 1 := ⟨len - 1, by omega⟩
        simp [Builtin.clear_, run_underlying (E.slice hk), hz, hrun]
      · cases h
    · cases h
  · cases h

omit E in
theorem run_append_roomS (w : World) (t tx ty e : TypeId) (i : TypeInfo) (ht : P.underlying t = some (.slice e)) (hi : P.info? e = some i)
    (g sLen sCap : Nat) (cur : Array Value) (fz : Nat × Nat) (hg : w.heap[g]? = some (.cells cur e fz)) (hfz : fz.2 ≤ sLen * i.size)
    (x : Value) (m : Nat) (news : List Value) (hs : Src P i.size tx x m news w) (h1 : ∀ u ∈ news, u.oneCell' = true)
    (hroom : sLen + m ≤ sCap) (hfit : sLen * i.size + news.length ≤ cur.size) :
    (Builtin.append_ #[t, tx] ty #[.slice (some ⟨g, 0, none⟩) sLen sCap, x]).run P w =
      .ok (.slice (some ⟨g, 0, none⟩) (sLen + m) sCap) (w.setRow g (cur.toList.take (sLen * i.size) ++ news ++ cur.toList.drop (sLen * i.size + news.length)).toArray) := by
  have hst := run_storeCells_atF P g (sLen * i.size) e fz news 0 cur w hg (by simpa using hfz) (by simpa using hfit) h1
  simp only [Nat.add_zero] at hst
  rcases hs.kind with ⟨e', hk⟩ | hk <;> simp [Builtin.append_, run_underlying ht, run_underlying hk, sizeOf, typeInfo, hi, hs.len, hroom, hs.cells, Addr.add_lit, hst]

theorem append_src {C : Cf} (I : Inv C) {t t2 ty : TypeId} {x s r : SV} {vx vs : Value} {H' : List Blk} (h : aAppend Y C.H t t x s = some (r, H')) (hx : RelS C x vx)
    (hsrc : ∀ (e : TypeId) (y : Ty) (ss : List (List PV)), kindOf Y t = some (.slice e) → Y e = some y → sliceElems s = some ss → (ss = [] ∨ (strideOk y.size s = true ∧ 0 < y.size)) → ∃ news, (ss ≠ [] → Row C.w C.S y.size ss news) ∧ Src P y.size t2 vs ss.length news C.w) :
    ∃ v C', (Builtin.append_ #[t, t2] ty #[vx, vs]).run P C.w = .ok v C'.w ∧ Good C C' H' r v := by
  unfold aAppend at h
  split at h
  · cases h
  · rename_i ht
    split at h
    · rename_i e xs ss hk hxs hss
      have hu := E.slice hk
      split at h
      · cases h
      · rename_i y hy
        obtain ⟨d, i, z, _, hi, _, hisz, hiby, hz, hzp, _⟩ := E.spec hy
        have hzl := E.zlen hy
        have hzs : z.cells.size = i.size := by rw [hisz, ← hzl, ← (pvsAre_rel (w := C.w) (S := C.S) hzp).1]; simp
        have hzr : ∀ n, ((Builtin.zeroCells z.cells n).toList).length = n * y.size := fun n => by simp [size_zeroCells, hzs, hisz]
        split at h
        · rename_i hemp
          cases h
          have hss0 : ss = [] := by simpa using hemp
          subst hss0
          refine ⟨vx, C, ?_, Good.same I hx⟩
          have hv : ∃ b n c, vx = .slice b n c ∧ n ≤ c := by
            rcases slice_elems hx hxs with ⟨rfl, _⟩ | ⟨s1, hp, _⟩
            · exact ⟨_, _, _, rfl, Nat.le_refl _⟩
            · cases hp with | slice _ _ b off cap u hcap _ _ _ _ => exact ⟨_, _, _, rfl, hcap⟩
          obtain ⟨b, n, c, rfl, hnc⟩ := hv
          obtain ⟨news, _, hs⟩ := hsrc e y [] hk hy hss (.inl rfl)
          have hn0 : news = [] := List.length_eq_zero_iff.1 (by rw [hs.newsLen]; simp)
          subst hn0
          exact run_append_nothing (P := P) C.w t t2 ty e i hu hi b n c hnc vs (by rw [hisz]; exact hs)
        · rename_i hne
          split at h
          · rename_i hc
            obtain ⟨st1, st2, hpos, hbound, hby, hbnz, hlen⟩ := hc
            have hm0 : 0 < ss.length := by
              cases ss with
              | nil => simp at hne
              | cons => simp
            have hne' : ss ≠ [] := by intro e; rw [e] at hm0; simp at hm0
            obtain ⟨news, hrow2, hs⟩ := hsrc e y ss hk hy hss (.inr ⟨st2, hpos⟩)
            have hrow2 := hrow2 hne'
            have hs : Src P i.size t2 vs ss.length news C.w := by rw [hisz]; exact hs
            have hnl : news.length = ss.length * i.size := by rw [hrow2.len, hisz]
            have hb1 : (xs.length + ss.length) * i.bytes ≤ 140737488355328 := by rw [hiby]; unfold maxRow at hbound; omega
            have hml : xs.length + ss.length ≤ maxLen := by unfold maxLen; unfold maxRow at hlen; omega
            split at h
            · -- nil
              cases h
              cases hx with | pv _ _ hx =>
              cases hx
              have hxs' : xs = [] := by simp [sliceElems] at hxs; exact hxs
              subst hxs'
              simp only [List.length_nil, Nat.zero_add] at hb1 hml
              have hr := run_append_grow_src (P := P) C.w t t2 ty e i z hu hi hz none 0 0 [] (run_firstCells_none C.w.drew i.size 0 0 0) vs ss.length news hs (by omega) (by unfold maxLen at hml; omega) (growslice_fits (by omega) (by simpa using hb1))
              simp only [Nat.zero_add, List.nil_append] at hr
              have hge := grownCap_ge C.w ss.length 0 e
              have hcm := grownCap_le_maxLen C.w ss.length 0 e hml
              obtain ⟨C', hw, hg⟩ := newTok I (es := ss) (cap := grownCap C.w ss.length 0 e) (s := y.size) (rest := (Builtin.zeroCells z.cells (grownCap C.w ss.length 0 e - ss.length)).toList) (e := e)
                (Pushed.drew C.w (.cells (news ++ (Builtin.zeroCells z.cells (grownCap C.w ss.length 0 e - ss.length)).toList).toArray e (0, 0))) hrow2
                (by rw [List.length_append, hrow2.len, hzr, ← Nat.add_mul]; congr 1; omega) hge hcm
              refine ⟨_, C', ?_, hg⟩
              rw [hr, hw, arr_eq]
            · -- tight
              rename_i s1 es1
              cases h
              have es1' : es1 = xs := by simpa [sliceElems] using hxs
              subst es1'
              have es1' : s1 = y.size := by simpa [strideOk] using st1
              subst es1'
              cases hx with | tight _ _ b1 off1 hp1 =>
              obtain ⟨olds, hrow1, _, _, hcell1⟩ := row_of hp1 hpos
              have holds : ∀ j u, olds[j]? = some u → C.w.cell? ((⟨b1, off1, none⟩ : Addr).add j) = some u := fun j u hj => by rw [Addr.add_lit]; exact (hcell1 j u hj).1
              have hr := run_append_grow_src (P := P) C.w t t2 ty e i z hu hi hz (some ⟨b1, off1, none⟩) es1.length es1.length olds (run_firstCells_some C.w.drew i.size es1.length ⟨b1, off1, none⟩ es1.length es1.length olds (by rw [hrow1.len, hisz]) (by simpa using holds)) vs ss.length news hs (by omega)
                (by unfold maxLen at hml; omega) (growslice_fits (by omega) hb1)
              have hge := grownCap_ge C.w (es1.length + ss.length) es1.length e
              have hcm := grownCap_le_maxLen C.w (es1.length + ss.length) es1.length e hml
              obtain ⟨C', hw, hg⟩ := newTok I (es := es1 ++ ss) (cap := grownCap C.w (es1.length + ss.length) es1.length e) (s := y.size)
                (rest := (Builtin.zeroCells z.cells (grownCap C.w (es1.length + ss.length) es1.length e - (es1.length + ss.length))).toList) (e := e)
                (Pushed.drew C.w (.cells ((olds ++ news) ++ (Builtin.zeroCells z.cells (grownCap C.w (es1.length + ss.length) es1.length e - (es1.length + ss.length))).toList).toArray e (0, 0))) (hrow1.append hrow2)
                (by rw [List.length_append, (hrow1.append hrow2).len, hzr, ← Nat.add_mul]; congr 1; simp; omega) (by simpa using hge) hcm
              refine ⟨_, C', ?_, hg⟩
              rw [hr, hw, arr_eq]
              simp
            · -- a token's
              rename_i k v s1 es1
              split at h
              · rename_i v' e' hH
                split at h
                · rename_i hve
                  obtain ⟨rfl, rfl⟩ := hve
                  cases h
                  have es1' : es1 = xs := by simpa [sliceElems] using hxs
                  subst es1'
                  have es1' : s1 = y.size := by simpa [strideOk] using st1
                  subst es1'
                  cases hx with | own _ _ _ _ vc e0 g _ hH' hG hv hp1 hcur =>
                  rw [hH] at hH'
                  cases hH'
                  obtain ⟨rfl, hgl, hgs⟩ := hcur rfl
                  obtain ⟨olds, hrow1, _, _, hcell1⟩ := row_of hp1 hpos
                  obtain ⟨arr, ⟨fz, hgb, hfz, hz5⟩, hasz, hglc, hgm⟩ := I.tok k v e g hH hG
                  have hfz : fz.2 ≤ es1.length * i.size := by rw [← hgl, hisz, ← hgs]; exact hfz
                  have holds : ∀ j u, olds[j]? = some u → C.w.cell? ((⟨g.blk, 0, none⟩ : Addr).add j) = some u := fun j u hj => by rw [Addr.add_lit]; exact (hcell1 j u hj).1
                  by_cases hroom : es1.length + ss.length ≤ g.cap
                  · have hfit : es1.length * i.size + news.length ≤ arr.size := by
                      rw [hnl, hasz, ← Nat.add_mul, hgs, hisz]; exact Nat.mul_le_mul_right _ hroom
                    have hr := run_append_roomS (P := P) C.w t t2 ty e i hu hi g.blk es1.length g.cap arr fz hgb hfz vs ss.length news hs (fun u hu => by
                      obtain ⟨j, hj⟩ := List.getElem?_of_mem hu; exact hrow2.one j u hj) hroom hfit
                    rw [splice_eq arr.toList news (es1.length * i.size) (by simpa using hfit)] at hr
                    have hkeep : ∀ x, C.S g.blk x → ((setV arr.toList (es1.length * i.size) news).toArray)[x]? = arr[x]? := by
                      intro x hx'
                      have hlt : x < es1.length * i.size := by
                        rcases Nat.lt_or_ge x (es1.length * i.size) with h | h
                        · exact h
                        · exact absurd hx' (I.tokS k v e g x hH hG (by rw [hgl, hgs, ← hisz]; exact h))
                      simp only [List.getElem?_toArray]
                      rw [setV_get _ _ _ _ (by simpa using hfit), if_neg (by omega)]
                      simp
                    let g' : GB := ⟨g.blk, es1.length + ss.length, g.cap, y.size⟩
                    let S' : Nat → Nat → Prop := fun b x => C.S b x ∨ (b = g.blk ∧ x < (es1.length + ss.length) * y.size)
                    have EV : Evo C ⟨C.w.setRow g.blk (setV arr.toList (es1.length * i.size) news).toArray, S', C.H.set k (.tok (v + 1) e), C.G.set k g'⟩ :=
                      evo_set hG hgb hkeep S' (fun _ _ h => .inl h) (fun _ _ h => h.imp id (·.1)) hH (.inr ⟨v, e, rfl, rfl⟩) g' rfl (fun _ cs e1 => by cases e1)
                    have hkH : k < C.H.length := (List.getElem?_eq_some_iff.1 hH).1
                    have hkG : k < C.G.length := (List.getElem?_eq_some_iff.1 hG).1
                    have IV := inv_set I hG hgb S' (fun _ _ h => h.imp id (·.1)) hH (by simp) g' rfl EV (fun _ cs1 e1 => by cases e1) (fun _ cs1 e1 => by cases e1) (fun v1 e1 e2 => by
                      cases e2
                      refine ⟨rfl, ⟨by simp only [g']; rw [hisz] at hfz; exact Nat.le_trans hfz (Nat.mul_le_mul_right _ (by omega)), hz5⟩, by simp [setV_length, hasz, g', hgs], hroom, hgm, fun x hx' hS => ?_⟩
                      simp only [g'] at hx'
                      rcases hS with h | ⟨_, h⟩
                      · refine I.tokS k v e g x hH hG ?_ h
                        rw [hgl, hgs]
                        have : es1.length * y.size ≤ (es1.length + ss.length) * y.size := Nat.mul_le_mul_right _ (by omega)
                        omega
                      · omega)
                    have hrowN := ((hrow1.append hrow2).mono EV.S EV.cell)
                    have hcells : ∀ (q : Nat) (u : Value), (olds ++ news)[q]? = some u → (setV arr.toList (es1.length * i.size) news)[q]? = some u := by
                      intro q u hq
                      rw [setV_get _ _ _ _ (by simpa using hfit)]
                      rw [List.getElem?_append] at hq
                      have ol : olds.length = es1.length * i.size := by rw [hrow1.len, hisz]
                      split at hq
                      · rename_i hlt
                        rw [if_neg (by omega)]
                        have := (hcell1 q u hq).1
                        rw [Nat.zero_add, cell_of_row _ _ _ _ _ _ hgb] at this
                        simpa using this
                      · rename_i hge
                        have := (List.getElem?_eq_some_iff.1 hq).1
                        rw [if_pos (by omega), ← ol]; exact hq
                    have hp : RelP (C.w.setRow g.blk (setV arr.toList (es1.length * i.size) news).toArray) S' (.slice y.size (es1 ++ ss)) (.slice (some ⟨g.blk, 0, none⟩) (es1 ++ ss).length g.cap) := by
                      refine hrowN.rel_at g.blk 0 g.cap (by simpa using hroom) (fun q u hq => ⟨?_, .inr ⟨rfl, ?_⟩⟩)
                      · rw [Nat.zero_add, cell_setRow_same _ _ _ _ _ _ _ hgb]
                        simpa using hcells q u hq
                      · have := (List.getElem?_eq_some_iff.1 hq).1
                        rw [(hrow1.append hrow2).len] at this
                        simpa using this
                    refine ⟨_, ⟨_, S', _, _⟩, ?_, rfl, IV, EV, .own k (v + 1) y.size (es1 ++ ss) (v + 1) e g' _ (by simp [hkH]) (by simp [hkG]) (Nat.le_refl _) hp (fun _ => ⟨rfl, by simp [g'], rfl⟩)⟩
                    rw [hr]
                    simp
                  · have hr := run_append_grow_src (P := P) C.w t t2 ty e i z hu hi hz (some ⟨g.blk, 0, none⟩) es1.length g.cap olds (run_firstCells_some C.w.drew i.size es1.length ⟨g.blk, 0, none⟩ es1.length g.cap olds (by rw [hrow1.len, hisz]) (by simpa using holds)) vs ss.length news hs (by omega)
                      (by unfold maxLen at hml; omega) (growslice_fits (by omega) hb1)
                    have hge := grownCap_ge C.w (es1.length + ss.length) g.cap e
                    have hcm := grownCap_le_maxLen C.w (es1.length + ss.length) g.cap e hml
                    obtain ⟨C', hw, hg⟩ := reTok I (es := es1 ++ ss) (cap := grownCap C.w (es1.length + ss.length) g.cap e) (s := y.size)
                      (rest := (Builtin.zeroCells z.cells (grownCap C.w (es1.length + ss.length) g.cap e - (es1.length + ss.length))).toList) (e := e)
                      (Pushed.drew C.w (.cells ((olds ++ news) ++ (Builtin.zeroCells z.cells (grownCap C.w (es1.length + ss.length) g.cap e - (es1.length + ss.length))).toList).toArray e (0, 0))) hH hG (hrow1.append hrow2)
                      (by rw [List.length_append, (hrow1.append hrow2).len, hzr, ← Nat.add_mul]; congr 1; simp; omega) (by simpa using hge) hcm
                    refine ⟨_, C', ?_, hg⟩
                    rw [hr, hw, arr_eq]
                    simp
                · cases h
              · cases h
            · cases h
          · cases h
    · cases h
theorem append_run {C : Cf} (I : Inv C) {t t2 ty : TypeId} {x s r : SV} {vx vs : Value} {H' : List Blk} (h : aAppend Y C.H t t2 x s = some (r, H')) (hx : RelS C x vx) (hs : RelS C s vs) :
    ∃ v C', (Builtin.append_ #[t, t2] ty #[vx, vs]).run P C.w = .ok v C'.w ∧ Good C C' H' r v := by
  have ht : t2 = t := by
    unfold aAppend at h
    split at h
    · cases h
    · rename_i ht; simpa using Eq.symm (Classical.not_not.1 ht)
  subst ht
  refine append_src E I h hx fun e y ss hk hy hss hor => ?_
  have hu := E.slice hk
  rcases slice_elems hs hss with ⟨rfl, rfl, _⟩ | ⟨s2, hp2, _, hst2⟩
  · exact ⟨[], fun e => absurd rfl e, Src.ofNil (P := P) C.w hu 0⟩
  · have hvs : ∃ b2 off2 cap2, vs = .slice (some ⟨b2, off2, none⟩) ss.length cap2 := by cases hp2; exact ⟨_, _, _, rfl⟩
    obtain ⟨b2, off2, cap2, rfl⟩ := hvs
    rcases hor with rfl | ⟨st2, hpos⟩
    · exact ⟨[], fun e => absurd rfl e, Src.ofSlice (P := P) C.w hu _ 0 cap2 [] (by simp) (fun j u hj => by simp at hj) (fun u hu => by simp at hu)⟩
    · have es2 : s2 = y.size := by have := hst2 y.size; rw [st2] at this; simpa using this.symm
      subst es2
      obtain ⟨news, hrow2, _, hcap2, hcell2⟩ := row_of hp2 hpos
      exact ⟨news, fun _ => hrow2, Src.ofSlice (P := P) C.w hu _ ss.length cap2 news hrow2.len (fun j u hj => by rw [Addr.add_lit]; exact (hcell2 j u hj).1) (fun u hu => by
        obtain ⟨j, hj⟩ := List.getElem?_of_mem hu; exact hrow2.one j u hj)⟩

omit E in
/-- A text's bytes, as cells. -/
theorem byte_row (w : World) (S : Nat → Nat → Prop) (l : List UInt8) : Row w S 1 (byteRow l) (byteCells ⟨l.toArray⟩) := by
  have hb : ∀ (j : Nat) (b : UInt8), l[j]? = some b → (byteCells ⟨l.toArray⟩)[j]? = some (.int .u8 b.toNat) := fun j b hj => by simp [byteCells, hj]
  refine ⟨by simp [byteCells, byteRow], fun i e he => ?_, fun q v hq => ?_, fun i e j p he hp => ?_⟩
  · simp only [byteRow, List.getElem?_map, Option.map_eq_some_iff] at he
    obtain ⟨b, _, rfl⟩ := he; rfl
  · simp only [byteCells, List.getElem?_map, Option.map_eq_some_iff] at hq
    obtain ⟨b, _, rfl⟩ := hq; rfl
  · simp only [byteRow, List.getElem?_map, Option.map_eq_some_iff] at he
    obtain ⟨b, h1, rfl⟩ := he
    cases j with
    | zero => simp at hp; subst hp; exact ⟨_, by simpa using hb i b h1, .int _ _⟩
    | succ j => simp at hp

theorem isU8_of {e : TypeId} (h : isU8 Y e = true) : P.underlying e = some (.int .u8) := by
  unfold isU8 at h
  split at h
  · rename_i hk; exact E.int hk
  · cases h

theorem appendX_run {C : Cf} (I : Inv C) {t t2 ty : TypeId} {x s r : SV} {vx vs : Value} {H' : List Blk} (h : aAppendX Y C.H t t2 x s = some (r, H')) (hx : RelS C x vx) (hs : RelS C s vs) :
    ∃ v C', (Builtin.append_ #[t, t2] ty #[vx, vs]).run P C.w = .ok v C'.w ∧ Good C C' H' r v := by
  unfold aAppendX at h
  cases hst : strTo Y t t2 s with
  | none => rw [hst] at h; exact append_run E I h hx hs
  | some l =>
    rw [hst] at h
    simp only [] at h
    unfold strTo at hst
    split at hst
    · rename_i hk2
      split at hst
      · rename_i e0 hk0
        split at hst
        · rename_i hu8
          split at hst
          · rename_i l'
            cases hst
            cases hs with | pv _ _ hp =>
            cases hp
            refine append_src E I h hx fun e y ss hk hy hss hor => ?_
            have hss' : ss = byteRow l := by simp [sliceElems] at hss; exact hss.symm
            subst hss'
            have hus := E.str hk2
            by_cases hl : l = []
            · subst hl
              refine ⟨[], fun e => absurd rfl e, ⟨.inr hus, fun _ => rfl, ?_, ?_, by simp [byteRow], fun u hu => by simp at hu⟩⟩
              · simp [Builtin.firstCells, byteRow]
              · simp [Builtin.firstCells, byteRow]
            · have hne : byteRow l ≠ [] := by simpa [byteRow] using hl
              rcases hor with e1 | ⟨st2, hpos⟩
              · exact absurd e1 hne
              · have hsz : y.size = 1 := by simp [strideOk] at st2; omega
                refine ⟨byteCells ⟨l.toArray⟩, fun _ => by rw [hsz]; exact byte_row _ _ l, ?_⟩
                rw [hsz]
                have := Src.ofString (P := P) C.w hus ⟨l.toArray⟩
                have e2 : (⟨l.toArray⟩ : ByteArray).size = (byteRow l).length := by simp [byteRow, ByteArray.size]
                rw [e2] at this
                exact this
          · cases hst
        · cases hst
      · cases hst
    · cases hst

omit E in
/-- A new row whose cells stand, what lies behind them whatever. -/
theorem newPv {C : Cf} (I : Inv C) {w' : World} {news rest : List Value} {e : TypeId} {fz : Nat × Nat} {cap s : Nat} {es : List (List PV)} (hw : Pushed C.w w' (.cells (news ++ rest).toArray e fz))
    (hr : Row C.w C.S s es news) (hcap : es.length ≤ cap) :
    ∃ C', C'.w = w' ∧ Good C C' C.H (.pv (.slice s es)) (.slice (some ⟨C.w.heap.size, 0, none⟩) es.length cap) := by
  have hS : ∀ b x, C.S b x → (fun b x => C.S b x ∨ b = C.w.heap.size) b x := fun b x h => .inl h
  have EV := evo_push I hw (fun b x => C.S b x ∨ b = C.w.heap.size) hS (fun _ _ h => h) [] [] (by simp)
  have IV := inv_push I hw (fun b x => C.S b x ∨ b = C.w.heap.size) hS (fun _ _ h => h) [] [] rfl (by simp) (by simp) (by simp) (by simp) (by simp)
  simp only [List.append_nil] at EV IV
  refine ⟨⟨w', fun b x => C.S b x ∨ b = C.w.heap.size, C.H, C.G⟩, rfl, rfl, IV, EV, ?_⟩
  refine .pv _ _ ((hr.mono EV.S EV.cell).rel_at _ 0 _ hcap (fun q v hq => ⟨?_, .inr rfl⟩))
  simp only [Nat.zero_add]
  rw [cell_of_row w' _ _ _ _ _ hw.new]
  have := (List.getElem?_eq_some_iff.1 hq).1
  simp only [List.getElem?_toArray]
  rw [List.getElem?_append_left this]; exact hq

omit E in
theorem bytes_pushed (w : World) (e : TypeId) (l : List UInt8) : ∃ fz, Pushed w (Lib.bytesWorld w e ⟨l.toArray⟩) (.cells (byteCells ⟨l.toArray⟩ ++ List.replicate (grownCap w l.length 0 e - l.length) (Value.int .u8 0)).toArray e fz) := by
  have hc : Lib.bytesCells w e ⟨l.toArray⟩ = (byteCells ⟨l.toArray⟩ ++ List.replicate (grownCap w l.length 0 e - l.length) (Value.int .u8 0)).toArray := by
    apply Array.ext'
    simp [Lib.bytesCells, byteCells, ByteArray.size]
  refine ⟨((Lib.bytesCells w e ⟨l.toArray⟩).size, (Lib.bytesCells w e ⟨l.toArray⟩).size + 1), ⟨rfl, rfl, rfl, ?_⟩⟩
  · apply Array.ext_getElem?
    intro j
    rw [Array.getElem?_push]
    split
    · rename_i hj; subst hj; rw [Lib.bytesWorld_at_new, hc]
    · rename_i hj
      rcases Nat.lt_or_ge j w.heap.size with h | h
      · exact Lib.bytesWorld_at_old w e _ j h
      · rw [Array.getElem?_eq_none h, Array.getElem?_eq_none (by rw [Lib.bytesWorld_size]; omega)]

theorem convX_run {T : FuncId → Option Spec} {C : Cf} (I : Inv C) {src dst : TypeId} {x s : SV} {v : Value} (h : aConvX Y T C.H src dst x = some s) (hr : RelS C x v) :
    ∃ u C', (convert src dst v).run P C.w = .ok u C'.w ∧ Good C C' C.H s u := by
  unfold aConvX at h
  cases hc : aConv Y src dst x with
  | some r =>
    rw [hc] at h
    cases h
    obtain ⟨u, h1, h2⟩ := aConv_run E hc hr
    exact ⟨u, C, h1, Good.same I h2⟩
  | none =>
    rw [hc] at h
    simp only [] at h
    unfold aConvY at h
    split at h
    · rename_i e h1 h2
      split at h
      · rename_i hu8
        split at h
        · rename_i l
          cases h
          cases hr with | pv _ _ hp =>
          cases hp
          have hrun := Lib.run_convert_string_bytes (P := P) C.w src dst e ⟨l.toArray⟩ (E.str h1) (E.slice h2) (isU8_of E hu8)
          obtain ⟨fz, hw⟩ := bytes_pushed C.w e l
          have hge := grownCap_ge C.w l.length 0 e
          obtain ⟨C', hw', hg⟩ := newPv (cap := grownCap C.w l.length 0 e) (s := 1) (es := byteRow l) I hw (byte_row _ _ l) (by simp [byteRow]; omega)
          refine ⟨_, C', ?_, hg⟩
          rw [hrun, hw']
          simp [byteRow, ByteArray.size]
        · cases h
      · cases h
    · rename_i e h1 h2
      split at h
      · rename_i hu8
        simp only [Bool.and_eq_true] at hu8
        split at h
        · rename_i k off len st
          split at h
          · rename_i t cs hk
            split at h
            · rename_i hst
              obtain ⟨rfl, hfit⟩ := hst
              split at h
              · rename_i ps hp
                cases hb : bytesOf (chunks 1 len ps) with
                | none => simp [hb] at h
                | some l =>
                  simp [hb] at h
                  subst h
                  have hsrc : srcCells C.H 1 (.bsl k off len 1) = some (len, (cs.drop off).take (len * 1)) := by
                    simp only [srcCells, hk]
                    rw [if_pos ⟨trivial, by omega⟩]
                  obtain ⟨base, cap, news, rfl, hl, hrl, _, hb0, hcell⟩ := src_cells I (by omega) hsrc hr
                  rw [Nat.mul_one] at hl hrl
                  obtain ⟨h11, h12⟩ := pcells_rel hp hrl
                  have hlen : ps.length = len := by rw [← h11, hrl.1, hl]
                  have hrow := chunks_row (w := C.w) (S := C.S) 1 len ps news (by rw [hlen, Nat.mul_one]) h11 h12
                  obtain ⟨ns, hns, rfl⟩ := bytesOf_ints hb
                  have hnews : news = ns.map (Value.int .u8) := by
                    apply List.ext_getElem?
                    intro j
                    have hll : ns.length = len := by
                      have := congrArg List.length hns
                      rw [chunks_length, List.length_map] at this
                      exact this.symm
                    rcases Nat.lt_or_ge j len with hj | hj
                    · have hnj : ns[j]? = some ns[j] := by simp [hll, hj]
                      have g1 : (chunks 1 len ps)[j]? = some [PV.int .u8 ns[j]] := by rw [hns, List.getElem?_map, hnj]; rfl
                      obtain ⟨u, hu1, hu2⟩ := hrow.rel j _ 0 _ g1 rfl
                      rw [Nat.mul_one, Nat.add_zero] at hu1
                      rw [hu1, List.getElem?_map, hnj]
                      cases hu2; rfl
                    · rw [List.getElem?_eq_none (by rw [h11]; omega), List.getElem?_eq_none (by rw [List.length_map]; omega)]
                  refine ⟨.string ⟨(ns.map fun n => UInt8.ofNat n.toNat).toArray⟩, C, ?_, Good.same I (.pv _ _ (.str _))⟩
                  cases base with
                  | none =>
                    have hz : len = 0 := hb0 rfl
                    have hn : ns = [] := List.length_eq_zero_iff.1 (by
                      have := congrArg List.length hns
                      rw [chunks_length, List.length_map] at this
                      omega)
                    subst hn
                    subst hz
                    simp [convert, run_underlying (E.slice h1), run_underlying (E.str h2), run_underlying (isU8_of E hu8.1), Conv.bytesToString]
                    rfl
                  | some a =>
                    have hload := run_loadCells_list (P := P) C.w a (ns.map (Value.int .u8)) (fun j u hj => hcell a rfl j u (by rw [hnews]; exact hj))
                    rw [List.length_map] at hload
                    have hll : ns.length = len := by
                      have := congrArg List.length hns
                      rw [chunks_length, List.length_map] at this
                      exact this.symm
                    rw [hll] at hload
                    simp only [convert, Sem.run_bind, run_underlying (E.slice h1), run_underlying (E.str h2), run_underlying (isU8_of E hu8.1), Result.andThen_ok, Conv.bytesToString, hload]
                    rw [← Array.forIn_toList]
                    rw [bytes_loop _ (fun n s => rfl)]
                    simp [ByteArray.empty, ByteArray.emptyWithCapacity]
                    rfl
              · cases h
            · cases h
          · cases h
        · cases h
      · cases h
    · cases h
end
end Go.Pm
