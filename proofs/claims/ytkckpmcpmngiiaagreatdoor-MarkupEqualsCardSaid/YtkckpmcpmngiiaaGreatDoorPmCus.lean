/- An element that is appended in place: first a zero element, then its cells. -/
import Derived.Test.YtkckpmcpmngiiaaGreatDoorPmOp
import Derived.Test.YtkckpmcpmngiiaaGreatDoorPmDraw2
set_option linter.unusedSimpArgs false
set_option linter.unusedVariables false
set_option linter.unusedSectionVars false
namespace Go.Pm
open Go.Lib

theorem modify_push {α : Type} (a : Array α) (x : α) (f : α → α) : (a.push x).modify a.size f = a.push (f x) := by
  apply Array.ext'
  simp only [Array.toList_modify, Array.toList_push]
  apply List.ext_getElem?
  intro i
  rw [List.getElem?_modify]
  rcases Nat.lt_trichotomy i a.size with h | h | h
  · rw [List.getElem?_append_left (by simpa using h), List.getElem?_append_left (by simpa using h)]
    have hne : ¬ a.size = i := by omega
    simp [hne]
  · subst h; simp
  · rw [List.getElem?_eq_none (by simp; omega), List.getElem?_eq_none (by simp; omega)]; rfl

theorem setRow_alloc (w : World) (A B : Array Value) (e : TypeId) (fz : Nat × Nat) : (w.alloc (.cells A e fz)).setRow w.heap.size B = w.alloc (.cells B e fz) := by
  unfold World.setRow World.alloc
  simp only [modify_push]
theorem setRow_twice (w : World) (g : Nat) (A B : Array Value) : (w.setRow g A).setRow g B = w.setRow g B := by
  unfold World.setRow
  simp only
  congr 1
  apply Array.ext'
  simp only [Array.toList_modify, List.modify_modify_eq]
  congr 1
  funext o
  cases o <;> rfl
theorem setRow_comm (w : World) (g k : Nat) (A B : Array Value) (h : g ≠ k) : (w.setRow g A).setRow k B = (w.setRow k B).setRow g A := by
  unfold World.setRow
  simp only
  congr 1
  apply Array.ext'
  simp only [Array.toList_modify]
  rw [List.modify_modify_ne _ _ _ h]

section
variable {P : Program} {Y : TypeId → Option Ty} (E : Env P Y)
include E

/-- One element is appended, and then written: as if it had been appended itself. -/
theorem append_two {C : Cf} (I : Inv C) {t ty : TypeId} {x r : SV} {ps : List PV} {vx vs : Value} {H' : List Blk} {news0 news : List Value} (h : aAppend Y C.H t t x (.tight ps.length [ps]) = some (r, H')) (hx : RelS C x vx)
    (hrow2 : Row C.w C.S ps.length [ps] news) (hs0 : ∀ (e : TypeId) (y : Ty), kindOf Y t = some (.slice e) → Y e = some y → Src P y.size t vs 1 news0 C.w) (h0 : news0.length = ps.length) (h1 : ∀ u ∈ news0, u.oneCell' = true) :
    ∃ v w1 C' b cap e fz cur xs, (Builtin.append_ #[t, t] ty #[vx, vs]).run P C.w = .ok v w1 ∧ Good C C' H' r v ∧ sliceElems x = some xs ∧ v = .slice (some ⟨b, 0, none⟩) (xs.length + 1) cap ∧ w1.heap[b]? = some (.cells cur e fz) ∧
      fz.2 ≤ xs.length * ps.length ∧ xs.length * ps.length + ps.length ≤ cur.size ∧ C'.w = w1.setRow b (setV cur.toList (xs.length * ps.length) news).toArray ∧ (∀ (k : Nat) (g : GB) (t0 : Option TypeId) (cs : List SV), C.H[k]? = some (.box t0 cs) → C.G[k]? = some g → g.blk ≠ b) := by
  have boxlt : ∀ (k : Nat) (g : GB) (t0 : Option TypeId) (cs : List SV), C.H[k]? = some (.box t0 cs) → C.G[k]? = some g → g.blk < C.w.heap.size := fun k g t0 cs hH hG => by
    obtain ⟨arr, T, g1, _⟩ := I.box k cs g hH hG
    exact (Array.getElem?_eq_some_iff.1 g1).1
  have hnlen : news.length = ps.length := by have := hrow2.len; simpa using this
  unfold aAppend at h
  split at h
  · cases h
  · split at h
    · rename_i e xs ss hk hxs hss
      have hss' : ss = [ps] := by simpa [sliceElems] using hss.symm
      subst hss'
      have hu := E.slice hk
      split at h
      · cases h
      · rename_i y hy
        obtain ⟨d, i, z, _, hi, _, hisz, hiby, hz, hzp, _⟩ := E.spec hy
        have hzl := E.zlen hy
        have hzs : z.cells.size = i.size := by rw [hisz, ← hzl, ← (pvsAre_rel (w := C.w) (S := C.S) hzp).1]; simp
        have hzr : ∀ n, ((Builtin.zeroCells z.cells n).toList).length = n * y.size := fun n => by simp [size_zeroCells, hzs, hisz]
        rw [if_neg (by simp)] at h
        split at h
        · rename_i hc
          obtain ⟨st1, st2, hpos, hbound, hby, hbnz, hlen⟩ := hc
          have hps : ps.length = y.size := by simpa [strideOk] using st2
          have hs : Src P i.size t vs 1 news0 C.w := by rw [hisz]; exact hs0 e y hk hy
          rw [hps] at hrow2 h0 hnlen ⊢
          simp only [List.length_singleton] at hbound hlen
          have hb1 : (xs.length + 1) * i.bytes ≤ 140737488355328 := by rw [hiby]; unfold maxRow at hbound; omega
          have hml : xs.length + 1 ≤ maxLen := by unfold maxLen; unfold maxRow at hlen; omega
          split at h
          · -- nil
            cases h
            cases hx with | pv _ _ hx =>
            cases hx
            have hxs' : xs = [] := by simp [sliceElems] at hxs; exact hxs
            subst hxs'
            simp only [List.length_nil, Nat.zero_add] at hb1 hml
            have hr := run_append_grow_src (P := P) C.w t t ty e i z hu hi hz none 0 0 [] (run_firstCells_none C.w.drew i.size 0 0 0) vs 1 news0 hs (by omega) (by omega) (growslice_fits (by omega) (by simpa using hb1))
            simp only [Nat.zero_add, List.nil_append] at hr
            have hge := grownCap_ge C.w 1 0 e
            have hcm := grownCap_le_maxLen C.w 1 0 e hml
            obtain ⟨C', hw, hg⟩ := newTok I (es := [ps]) (cap := grownCap C.w 1 0 e) (s := y.size) (rest := (Builtin.zeroCells z.cells (grownCap C.w 1 0 e - 1)).toList) (e := e)
              (Pushed.drew C.w (.cells (news ++ (Builtin.zeroCells z.cells (grownCap C.w 1 0 e - 1)).toList).toArray e (0, 0))) hrow2
              (by rw [List.length_append, hrow2.len, hzr, List.length_singleton, ← Nat.add_mul]; congr 1; omega) hge hcm
            rw [arr_eq] at hr
            refine ⟨_, _, C', C.w.heap.size, grownCap C.w 1 0 e, e, (0, 0), _, [], hr, hg, rfl, rfl, (Pushed.drew C.w _).new, by simp, ?_, ?_, fun k g t0 cs a b => by have := boxlt k g t0 cs a b; omega⟩
            · simp [h0]
            · rw [hw, show C.w.heap.size = C.w.drew.heap.size from rfl, setRow_alloc]
              congr 2
              rw [List.length_nil, Nat.zero_mul, ← splice_eq _ _ _ (by simp [h0, hnlen])]
              simp [hnlen, ← h0]
          · -- tight
            rename_i s1 es1
            cases h
            have es1' : es1 = xs := by simpa [sliceElems] using hxs
            subst es1'
            have es1' : s1 = y.size := by simpa [strideOk] using st1
            subst es1'
            cases hx with | tight _ _ b1 off1 hp1 =>
            obtain ⟨olds, hrow1, _, _, hcell1⟩ := row_of hp1 hpos
            have holds : ∀ j u, olds[j]? = some u → C.w.cell? ((⟨b1, off1, none⟩ : Addr).add j) = some u := fun j u hj => by rw [Addr.add_lit]; exact (hcell1 j u hj).1
            have hr := run_append_grow_src (P := P) C.w t t ty e i z hu hi hz (some ⟨b1, off1, none⟩) es1.length es1.length olds (run_firstCells_some C.w.drew i.size es1.length ⟨b1, off1, none⟩ es1.length es1.length olds (by rw [hrow1.len, hisz]) (by simpa using holds)) vs 1 news0 hs (by omega)
              (by unfold maxLen at hml; omega) (growslice_fits (by omega) hb1)
            have hge := grownCap_ge C.w (es1.length + 1) es1.length e
            have hcm := grownCap_le_maxLen C.w (es1.length + 1) es1.length e hml
            obtain ⟨C', hw, hg⟩ := newTok I (es := es1 ++ [ps]) (cap := grownCap C.w (es1.length + 1) es1.length e) (s := y.size)
              (rest := (Builtin.zeroCells z.cells (grownCap C.w (es1.length + 1) es1.length e - (es1.length + 1))).toList) (e := e)
              (Pushed.drew C.w (.cells ((olds ++ news) ++ (Builtin.zeroCells z.cells (grownCap C.w (es1.length + 1) es1.length e - (es1.length + 1))).toList).toArray e (0, 0))) (hrow1.append hrow2)
              (by rw [List.length_append, (hrow1.append hrow2).len, hzr, ← Nat.add_mul]; congr 1; simp; omega) (by simpa using hge) hcm
            rw [arr_eq] at hr
            have hol : olds.length = es1.length * y.size := hrow1.len
            refine ⟨_, _, C', C.w.heap.size, grownCap C.w (es1.length + 1) es1.length e, e, (0, 0), _, es1, hr, by simpa using hg, rfl, rfl, (Pushed.drew C.w _).new, by simp, ?_, ?_, fun k g t0 cs a b => by have := boxlt k g t0 cs a b; omega⟩
            · simp [h0, hol]
            · rw [hw, show C.w.heap.size = C.w.drew.heap.size from rfl, setRow_alloc]
              congr 2
              rw [← hol, ← splice_eq _ _ _ (by simp [h0, hnlen])]
              simp [hnlen, ← h0]
          · -- a token's
            rename_i k v s1 es1
            split at h
            · rename_i v' e' hH
              split at h
              · rename_i hve
                obtain ⟨rfl, rfl⟩ := hve
                cases h
                have es1' : es1 = xs := by simpa [sliceElems] using hxs
                subst es1'
                have es1' : s1 = y.size := by simpa [strideOk] using st1
                subst es1'
                cases hx with | own _ _ _ _ vc e0 g _ hH' hG hv hp1 hcur =>
                rw [hH] at hH'
                cases hH'
                obtain ⟨rfl, hgl, hgs⟩ := hcur rfl
                obtain ⟨olds, hrow1, _, _, hcell1⟩ := row_of hp1 hpos
                obtain ⟨arr, ⟨fz, hgb, hfz, hz5⟩, hasz, hglc, hgm⟩ := I.tok k v e g hH hG
                have hfz : fz.2 ≤ es1.length * y.size := by rw [← hgl, ← hgs]; exact hfz
                have hol : olds.length = es1.length * y.size := hrow1.len
                have holds : ∀ j u, olds[j]? = some u → C.w.cell? ((⟨g.blk, 0, none⟩ : Addr).add j) = some u := fun j u hj => by rw [Addr.add_lit]; exact (hcell1 j u hj).1
                have hnb : ∀ (k1 : Nat) (g1 : GB) (t0 : Option TypeId) (cs : List SV), C.H[k1]? = some (.box t0 cs) → C.G[k1]? = some g1 → g1.blk ≠ g.blk := fun k1 g1 t0 cs a b e1 =>
                  I.dis k1 k g1 g (fun e2 => by subst e2; rw [hH] at a; cases a) (by rw [a]; simp) (by rw [hH]; simp) b hG e1
                by_cases hroom : es1.length + 1 ≤ g.cap
                · have hfit0 : es1.length * i.size + news0.length ≤ arr.size := by
                    rw [h0, hasz, hgs, hisz]
                    have := Nat.mul_le_mul_right y.size hroom
                    rw [Nat.add_mul, Nat.one_mul] at this
                    exact this
                  have hfit : es1.length * y.size + news.length ≤ arr.size := by rw [hnlen, ← hisz]; rw [h0, ← hisz] at hfit0; exact hfit0
                  have hr := run_append_roomS (P := P) C.w t t ty e i hu hi g.blk es1.length g.cap arr fz hgb (by rw [hisz]; exact hfz) vs 1 news0 hs h1 hroom hfit0
                  rw [splice_eq arr.toList news0 (es1.length * i.size) (by simpa using hfit0), hisz] at hr
                  have hrow2' := hrow2
                  obtain ⟨v1, C', hw1, hw, hg⟩ : ∃ v1 C', v1 = Value.slice (some ⟨g.blk, 0, none⟩) (es1.length + 1) g.cap ∧ C'.w = C.w.setRow g.blk (setV arr.toList (es1.length * y.size) news).toArray ∧ Good C C' (C.H.set k (.tok (v + 1) e)) (.own k (v + 1) y.size (es1 ++ [ps])) v1 := by
                    have hkeep : ∀ x, C.S g.blk x → ((setV arr.toList (es1.length * y.size) news).toArray)[x]? = arr[x]? := by
                      intro x hx'
                      have hlt : x < es1.length * y.size := by
                        rcases Nat.lt_or_ge x (es1.length * y.size) with h | h
                        · exact h
                        · exact absurd hx' (I.tokS k v e g x hH hG (by rw [hgl, hgs]; exact h))
                      simp only [List.getElem?_toArray]
                      rw [setV_get _ _ _ _ (by simpa using hfit), if_neg (by omega)]
                      simp
                    let g' : GB := ⟨g.blk, es1.length + 1, g.cap, y.size⟩
                    let S' : Nat → Nat → Prop := fun b x => C.S b x ∨ (b = g.blk ∧ x < (es1.length + 1) * y.size)
                    have EV : Evo C ⟨C.w.setRow g.blk (setV arr.toList (es1.length * y.size) news).toArray, S', C.H.set k (.tok (v + 1) e), C.G.set k g'⟩ :=
                      evo_set hG hgb hkeep S' (fun _ _ h => .inl h) (fun _ _ h => h.imp id (·.1)) hH (.inr ⟨v, e, rfl, rfl⟩) g' rfl (fun _ cs e1 => by cases e1)
                    have hkH : k < C.H.length := (List.getElem?_eq_some_iff.1 hH).1
                    have hkG : k < C.G.length := (List.getElem?_eq_some_iff.1 hG).1
                    have IV := inv_set I hG hgb S' (fun _ _ h => h.imp id (·.1)) hH (by simp) g' rfl EV (fun _ cs1 e1 => by cases e1) (fun _ cs1 e1 => by cases e1) (fun v1 e1 e2 => by
                      cases e2
                      refine ⟨rfl, ⟨Nat.le_trans hfz (Nat.mul_le_mul_right _ (by show es1.length ≤ es1.length + 1; omega)), hz5⟩, by simp [setV_length, hasz, g', hgs], hroom, hgm, fun x hx' hS => ?_⟩
                      simp only [g'] at hx'
                      rcases hS with h | ⟨_, h⟩
                      · refine I.tokS k v e g x hH hG ?_ h
                        rw [hgl, hgs]
                        have : es1.length * y.size ≤ (es1.length + 1) * y.size := Nat.mul_le_mul_right _ (by omega)
                        omega
                      · omega)
                    have hrowN := ((hrow1.append hrow2).mono EV.S EV.cell)
                    have hcells : ∀ (q : Nat) (u : Value), (olds ++ news)[q]? = some u → (setV arr.toList (es1.length * y.size) news)[q]? = some u := by
                      intro q u hq
                      rw [setV_get _ _ _ _ (by simpa using hfit)]
                      rw [List.getElem?_append] at hq
                      split at hq
                      · rename_i hlt
                        rw [if_neg (by omega)]
                        have := (hcell1 q u hq).1
                        rw [Nat.zero_add, cell_of_row _ _ _ _ _ _ hgb] at this
                        simpa using this
                      · rename_i hge
                        have := (List.getElem?_eq_some_iff.1 hq).1
                        rw [if_pos (by omega), ← hol]; exact hq
                    have hp : RelP (C.w.setRow g.blk (setV arr.toList (es1.length * y.size) news).toArray) S' (.slice y.size (es1 ++ [ps])) (.slice (some ⟨g.blk, 0, none⟩) (es1 ++ [ps]).length g.cap) := by
                      refine hrowN.rel_at g.blk 0 g.cap (by simpa using hroom) (fun q u hq => ⟨?_, .inr ⟨rfl, ?_⟩⟩)
                      · rw [Nat.zero_add, cell_setRow_same _ _ _ _ _ _ _ hgb]
                        simpa using hcells q u hq
                      · have := (List.getElem?_eq_some_iff.1 hq).1
                        rw [(hrow1.append hrow2).len] at this
                        simpa using this
                    exact ⟨_, ⟨_, S', _, _⟩, rfl, rfl, rfl, IV, EV, by
                      have := RelS.own (C := ⟨C.w.setRow g.blk (setV arr.toList (es1.length * y.size) news).toArray, S', C.H.set k (.tok (v + 1) e), C.G.set k g'⟩) k (v + 1) y.size (es1 ++ [ps]) (v + 1) e g' _ (by simp [hkH]) (by simp [hkG]) (Nat.le_refl _) hp (fun _ => ⟨rfl, by simp [g'], rfl⟩)
                      rw [show (es1 ++ [ps]).length = es1.length + 1 by simp] at this
                      exact this⟩
                  subst hw1
                  refine ⟨_, _, C', g.blk, g.cap, e, fz, (setV arr.toList (es1.length * y.size) news0).toArray, es1, hr, by simpa using hg, rfl, rfl, setRow_heap _ _ _ _ _ _ hgb, hfz, ?_, ?_, hnb⟩
                  · simp only [List.size_toArray, setV_length, Array.length_toList]; rw [hnlen] at hfit; exact hfit
                  · rw [hw, setRow_twice]
                    congr 1
                    apply Array.ext'
                    apply List.ext_getElem?
                    intro j
                    simp only []
                    have hl0 : es1.length * y.size + news0.length ≤ arr.toList.length := by rw [← hisz]; simpa using hfit0
                    rw [setV_get _ _ _ _ (by simpa using hfit), setV_get _ _ _ _ (by rw [setV_length]; simpa using hfit), setV_get _ _ _ _ hl0, h0, hnlen]
                    split <;> rfl
                · have hr := run_append_grow_src (P := P) C.w t t ty e i z hu hi hz (some ⟨g.blk, 0, none⟩) es1.length g.cap olds (run_firstCells_some C.w.drew i.size es1.length ⟨g.blk, 0, none⟩ es1.length g.cap olds (by rw [hrow1.len, hisz]) (by simpa using holds)) vs 1 news0 hs (by omega)
                    (by unfold maxLen at hml; omega) (growslice_fits (by omega) hb1)
                  have hge := grownCap_ge C.w (es1.length + 1) g.cap e
                  have hcm := grownCap_le_maxLen C.w (es1.length + 1) g.cap e hml
                  obtain ⟨C', hw, hg⟩ := reTok I (es := es1 ++ [ps]) (cap := grownCap C.w (es1.length + 1) g.cap e) (s := y.size)
                    (rest := (Builtin.zeroCells z.cells (grownCap C.w (es1.length + 1) g.cap e - (es1.length + 1))).toList) (e := e)
                    (Pushed.drew C.w (.cells ((olds ++ news) ++ (Builtin.zeroCells z.cells (grownCap C.w (es1.length + 1) g.cap e - (es1.length + 1))).toList).toArray e (0, 0))) hH hG (hrow1.append hrow2)
                    (by rw [List.length_append, (hrow1.append hrow2).len, hzr, ← Nat.add_mul]; congr 1; simp; omega) (by simpa using hge) hcm
                  rw [arr_eq] at hr
                  refine ⟨_, _, C', C.w.heap.size, grownCap C.w (es1.length + 1) g.cap e, e, (0, 0), _, es1, hr, by simpa using hg, rfl, rfl, (Pushed.drew C.w _).new, by simp, ?_, ?_, fun k g t0 cs a b => by have := boxlt k g t0 cs a b; omega⟩
                  · simp [h0, hol]
                  · rw [hw, show C.w.heap.size = C.w.drew.heap.size from rfl, setRow_alloc]
                    congr 2
                    rw [← hol, ← splice_eq _ _ _ (by simp [h0, hnlen])]
                    simp [hnlen, ← h0]
              · cases h
            · cases h
          · cases h
        · cases h
    · cases h

theorem idx_any {t e : TypeId} {y : Ty} (hk : kindOf Y t = some (.slice e)) (hy : Y e = some y) (b n cap : Nat) (w : World) :
    (Instr.indexAt t (.slice (some ⟨b, 0, none⟩) (n + 1) cap) (.int .i64 n)).run P w = .ok (.pointer (some ⟨b, n * y.size, none⟩)) w := by
  simp [Instr.indexAt, asIntOf, run_underlying (E.slice hk), E.size hy, Addr.add_lit]

theorem fld_any {t : TypeId} {k o f : Nat} {s : SV} (h : aFieldAddr Y t (.ptr k o) f = some s) : ∃ off, s = .ptr k (o + off) ∧ ∀ (b : Nat) (w : World), (Instr.fieldAt t (.pointer (some ⟨b, o, none⟩)) f).run P w = .ok (.pointer (some ⟨b, o + off, none⟩)) w := by
  unfold aFieldAddr at h
  split at h
  · rename_i off y hf
    obtain ⟨fields, fd, h1, h2, h3, h4⟩ := E.field hf
    split at h
    · cases h
    · rename_i hsz
      cases h
      refine ⟨off, rfl, fun b w => ?_⟩
      simp [Instr.fieldAt, run_underlying h1, h2, Instr.sureAddr, fieldPlace, E.size h4, hsz, h3, Addr.add_lit]
  · cases h

theorem sto_any {t : TypeId} {y : Ty} (hy : Y t = some y) {b off : Nat} {e : TypeId} {fz : Nat × Nat} {cur : Array Value} {vx : Value} {w : World} (hg : w.heap[b]? = some (.cells cur e fz)) (hfz : fz.2 ≤ off) (hsz : vx.cells.size = y.size) (hfit : off + y.size ≤ cur.size) (h1 : ∀ v ∈ vx.cells.toList, v.oneCell' = true) :
    (Instr.storeAt t (.pointer (some ⟨b, off, none⟩)) vx).run P w = .ok () (w.setRow b (setV cur.toList off vx.cells.toList).toArray) := by
  have hl : off + vx.cells.toList.length ≤ cur.size := by simpa [hsz] using hfit
  have hrun := run_storeCells_atF P b off e fz vx.cells.toList 0 cur w hg (by simpa using hfz) (by simpa using hl) h1
  simp only [Nat.add_zero] at hrun
  rw [splice_eq cur.toList vx.cells.toList off (by simpa using hl)] at hrun
  simp only [Instr.storeAt, Instr.sureAddr, storeVar, Sem.run_bind, Sem.run_pure, Result.andThen_ok, E.size hy, hsz, ne_eq, not_true_eq_false, Sem.run_ite, if_false, hrun]
end

/-- Ready, and all listed. -/
theorem ready_mem {ops : Array Oper} {listed : Array Bool} {m : Nat} (h : m ∈ Region.ready .any ops listed) : m < ops.size ∧ listed.getD m true = false ∧ ∀ (o : Oper) (e : Edge), ops[m]? = some o → e ∈ o.after → Region.binds .any e = true → listed.getD e.on false = true := by
  simp only [Region.ready, List.mem_filter, List.mem_range, Bool.and_eq_true, Bool.not_eq_true'] at h
  refine ⟨h.1, h.2.1, fun o e ho he hb => ?_⟩
  have h2 := h.2.2
  rw [ho] at h2
  simp only [Option.map_some, Option.getD_some, Array.all_eq_true'] at h2
  have := h2 e he
  simpa [hb] using this

theorem ready_nil {ops : Array Oper} {listed : Array Bool} (hback : ∀ (i : Nat) (o : Oper) (e : Edge), ops[i]? = some o → e ∈ o.after → Region.binds .any e = true → e.on < i) (hl : listed.size = ops.size) (h : Region.ready .any ops listed = []) : ∀ m, m < ops.size → listed.getD m false = true := by
  intro m
  induction m using Nat.strongRecOn with
  | _ m ih =>
    intro hm
    cases hx : listed.getD m false with
    | true => rfl
    | false =>
      exfalso
      have hmem : m ∈ Region.ready .any ops listed := by
        simp only [Region.ready, List.mem_filter, List.mem_range, Bool.and_eq_true, Bool.not_eq_true']
        refine ⟨hm, ?_, ?_⟩
        · have hml : m < listed.size := by omega
          simp [Array.getD_eq_getD_getElem?, hml] at hx ⊢; exact hx
        · have ho : ops[m]? = some ops[m] := Array.getElem?_eq_getElem hm
          rw [ho]
          simp only [Option.map_some, Option.getD_some, Array.all_eq_true']
          intro e he
          cases hb : Region.binds .any e with
          | false => rfl
          | true =>
            have hlt := hback m _ e ho he hb
            simp [ih e.on hlt (by omega)]
      rw [h] at hmem; cases hmem

theorem eval_keep {a a0 : Act} {t : Tmp} (h : a.tmps[t]? = a0.tmps[t]?) : a.eval (.tmp t) = a0.eval (.tmp t) := by
  simp [Act.eval, Array.getD_eq_getD_getElem?, h]
theorem eval_is {a : Act} {t : Tmp} {v : Value} (h : a.tmps[t]? = some v) : a.eval (.tmp t) = v := by
  simp [Act.eval, Array.getD_eq_getD_getElem?, h]
theorem put_get {a : Act} {d t : Tmp} {v : Value} (h : d < a.tmps.size) : (a.put (some d) v).tmps[t]? = if d = t then some v else a.tmps[t]? := by
  simp only [Act.put, Array.getElem?_setIfInBounds]
  split
  · rename_i e; subst e; simp [h]
  · rfl

def EdgeAt (ops : Array Oper) (i j : Nat) : Prop := ∃ o e, ops[i]? = some o ∧ e ∈ o.after ∧ Region.binds .any e = true ∧ e.on = j
structure CusFacts (ops : Array Oper) (c : Cus) : Prop where
  size : ops.size = 16
  back : ∀ (i : Nat) (o : Oper) (e : Edge), ops[i]? = some o → e ∈ o.after → Region.binds .any e = true → e.on < i
  a : ∃ o cl, ops[10]? = some o ∧ o.guard = none ∧ o.dst = some c.r ∧ o.op = .call cl ∧ cl.callee = .builtin .append ∧ cl.args.toList = [.tmp c.xs, .tmp c.z] ∧ cl.argTypes.toList = [c.t, c.t]
  i : ∃ o, ops[11]? = some o ∧ o.guard = none ∧ o.dst = some c.p ∧ o.op = .indexAddr c.t (.tmp c.r) (.tmp c.ix)
  s : ∃ o, ops[12]? = some o ∧ o.guard = none ∧ o.dst = none ∧ o.op = .store c.e (.tmp c.p) (.tmp c.v)
  n : ∃ o, ops[13]? = some o ∧ o.guard = none ∧ o.dst = some c.q ∧ o.op = .nilCheck (.tmp c.bx)
  g : ∃ o, ops[14]? = some o ∧ o.guard = none ∧ o.dst = some c.h ∧ o.op = .fieldAddr c.sT (.tmp c.q) c.f
  h : ∃ o, ops[15]? = some o ∧ o.guard = none ∧ o.dst = none ∧ o.op = .store c.t (.tmp c.h) (.tmp c.r)
  e10 : ∀ j, j < 10 → EdgeAt ops 10 j
  eA : ∀ i, 10 < i → i < 16 → EdgeAt ops i 10
  e12 : EdgeAt ops 12 11
  e14 : EdgeAt ops 14 13
  e15 : EdgeAt ops 15 14
  ok : cusOk c = true
  gn : ∀ (m : Nat) (o : Oper), m < 10 → ops[m]? = some o → o.guard = none

/-- How far the tail has come: i of index and store, j of nil check, field and store. -/
structure LS (listed : Array Bool) (i j : Nat) : Prop where
  sz : listed.size = 16
  pre : ∀ m, m ≤ 10 → listed.getD m false = true
  l11 : listed.getD 11 false = decide (1 ≤ i)
  l12 : listed.getD 12 false = decide (2 ≤ i)
  l13 : listed.getD 13 false = decide (1 ≤ j)
  l14 : listed.getD 14 false = decide (2 ≤ j)
  l15 : listed.getD 15 false = decide (3 ≤ j)

structure TS (c : Cus) (a0 a : Act) (vr vp vq vh : Value) (i j : Nat) : Prop where
  sz : a.tmps.size = a0.tmps.size
  df : a.defers = a0.defers
  keep : ∀ t, t ≠ c.r → t ≠ c.p → t ≠ c.q → t ≠ c.h → a.tmps[t]? = a0.tmps[t]?
  r : a.tmps[c.r]? = some vr
  p : 1 ≤ i → a.tmps[c.p]? = some vp
  q : 1 ≤ j → a.tmps[c.q]? = some vq
  h : 2 ≤ j → a.tmps[c.h]? = some vh

theorem getD_two {listed : Array Bool} {m : Nat} (h : m < listed.size) : listed.getD m true = listed.getD m false := by
  simp [Array.getD_eq_getD_getElem?, h]
theorem set_at {listed : Array Bool} {m k : Nat} (h : m < listed.size) : (listed.setIfInBounds m true).getD k false = if m = k then true else listed.getD k false := by
  rw [getD_set]; simp [h]

theorem LS.set {listed : Array Bool} {i j i' j' m : Nat} (h : LS listed i j) (hm : 10 < m) (hm2 : m < 16) (h11 : decide (1 ≤ i') = (decide (m = 11) || decide (1 ≤ i))) (h12 : decide (2 ≤ i') = (decide (m = 12) || decide (2 ≤ i)))
    (h13 : decide (1 ≤ j') = (decide (m = 13) || decide (1 ≤ j))) (h14 : decide (2 ≤ j') = (decide (m = 14) || decide (2 ≤ j))) (h15 : decide (3 ≤ j') = (decide (m = 15) || decide (3 ≤ j))) : LS (listed.setIfInBounds m true) i' j' := by
  have hs : m < listed.size := by rw [h.sz]; exact hm2
  refine ⟨by simp [h.sz], fun k hk => ?_, ?_, ?_, ?_, ?_, ?_⟩
  · rw [set_at hs]; split <;> first | rfl | exact h.pre k hk
  · rw [set_at hs, h11, h.l11]; by_cases e : m = 11 <;> simp [e]
  · rw [set_at hs, h12, h.l12]; by_cases e : m = 12 <;> simp [e]
  · rw [set_at hs, h13, h.l13]; by_cases e : m = 13 <;> simp [e]
  · rw [set_at hs, h14, h.l14]; by_cases e : m = 14 <;> simp [e]
  · rw [set_at hs, h15, h.l15]; by_cases e : m = 15 <;> simp [e]

section
variable {P : Program} {Y : TypeId → Option Ty} (E : Env P Y) {ops : Array Oper} {c : Cus} (CF : CusFacts ops c) {Q : Exit → Act → World → Prop}
include E CF

theorem tail_any {a0 : Act} {b n cap gn o off : Nat} {vx : Value} {y yt : Ty} {w1 : World} {cur arr : Array Value} {eb en : TypeId} {fz fzn : Nat × Nat}
    (hk : kindOf Y c.t = some (.slice c.e)) (hy : Y c.e = some y) (hyt : Y c.t = some yt) (hyt1 : yt.size = 1)
    (hix : a0.eval (.tmp c.ix) = .int .i64 n) (hv : a0.eval (.tmp c.v) = vx) (hbx : a0.eval (.tmp c.bx) = .pointer (some ⟨gn, o, none⟩))
    (hf : ∀ (b : Nat) (w : World), (Instr.fieldAt c.sT (.pointer (some ⟨b, o, none⟩)) c.f).run P w = .ok (.pointer (some ⟨b, o + off, none⟩)) w)
    (hb : w1.heap[b]? = some (.cells cur eb fz)) (hfz : fz.2 ≤ n * y.size) (hfit : n * y.size + y.size ≤ cur.size) (hvs : vx.cells.size = y.size) (hv1 : ∀ v ∈ vx.cells.toList, v.oneCell' = true)
    (hn : w1.heap[gn]? = some (.cells arr en fzn)) (hfzn : fzn.2 ≤ o + off) (hfitn : o + off + 1 ≤ arr.size) (hne : gn ≠ b)
    (hp : c.p < a0.tmps.size) (hq0 : c.q < a0.tmps.size) (hh : c.h < a0.tmps.size)
    (hq : ∀ a', TS c a0 a' (.slice (some ⟨b, 0, none⟩) (n + 1) cap) (.pointer (some ⟨b, n * y.size, none⟩)) (.pointer (some ⟨gn, o, none⟩)) (.pointer (some ⟨gn, o + off, none⟩)) 2 3 →
      Q .normal a' ((w1.setRow b (setV cur.toList (n * y.size) vx.cells.toList).toArray).setRow gn (setV arr.toList (o + off) [.slice (some ⟨b, 0, none⟩) (n + 1) cap]).toArray)) :
    ∀ (fuel i j : Nat) (listed : Array Bool) (a : Act) (w : World), i ≤ 2 → j ≤ 3 → (2 - i) + (3 - j) ≤ fuel → LS listed i j →
      TS c a0 a (.slice (some ⟨b, 0, none⟩) (n + 1) cap) (.pointer (some ⟨b, n * y.size, none⟩)) (.pointer (some ⟨gn, o, none⟩)) (.pointer (some ⟨gn, o + off, none⟩)) i j →
      w = (if j = 3 then (if i = 2 then w1.setRow b (setV cur.toList (n * y.size) vx.cells.toList).toArray else w1).setRow gn (setV arr.toList (o + off) [.slice (some ⟨b, 0, none⟩) (n + 1) cap]).toArray else (if i = 2 then w1.setRow b (setV cur.toList (n * y.size) vx.cells.toList).toArray else w1)) →
      wpAny P .any ops Q fuel listed a w := by
  have hok := CF.ok
  unfold cusOk at hok
  simp only [List.all_cons, List.all_nil, Bool.and_eq_true, bne_iff_ne, ne_eq, Bool.and_true] at hok
  generalize hvr : Value.slice (some ⟨b, 0, none⟩) (n + 1) cap = vr at *
  generalize hE1 : (setV cur.toList (n * y.size) vx.cells.toList).toArray = E1 at *
  generalize hHd : (setV arr.toList (o + off) [vr]).toArray = Hd at *
  have allL : ∀ {listed : Array Bool} {i j : Nat}, LS listed i j → Region.ready .any ops listed = [] → 2 ≤ i ∧ 3 ≤ j := by
    intro listed i j L hr
    have h := ready_nil CF.back (by rw [L.sz, CF.size]) hr
    have h1 := h 12 (by rw [CF.size]; omega)
    have h2 := h 15 (by rw [CF.size]; omega)
    rw [L.l12] at h1; rw [L.l15] at h2
    exact ⟨by simpa using h1, by simpa using h2⟩
  have fin : ∀ {i j : Nat} {a : Act} {w : World}, i ≤ 2 → j ≤ 3 → 2 ≤ i ∧ 3 ≤ j → TS c a0 a vr (.pointer (some ⟨b, n * y.size, none⟩)) (.pointer (some ⟨gn, o, none⟩)) (.pointer (some ⟨gn, o + off, none⟩)) i j →
      w = (if j = 3 then (if i = 2 then w1.setRow b E1 else w1).setRow gn Hd else (if i = 2 then w1.setRow b E1 else w1)) → Q .normal a w := by
    intro i j a w hi hj h T hw
    have e1 : i = 2 := by omega
    have e2 : j = 3 := by omega
    subst e1; subst e2
    rw [hw]
    simpa using hq a T
  intro fuel
  induction fuel with
  | zero =>
    intro i j listed a w hi hj hf0 L T hw
    have hr : Region.ready .any ops listed = [] := by
      rw [List.eq_nil_iff_forall_not_mem]
      intro m hm
      obtain ⟨h1, h2, _⟩ := ready_mem hm
      rw [CF.size] at h1
      rw [getD_two (by rw [L.sz]; exact h1)] at h2
      have h12 := L.l12; have h11 := L.l11; have h13 := L.l13; have h14 := L.l14; have h15 := L.l15
      have e1 : i = 2 := by omega
      have e2 : j = 3 := by omega
      subst e1; subst e2
      rcases Nat.lt_or_ge 10 m with h | h
      · have : m = 11 ∨ m = 12 ∨ m = 13 ∨ m = 14 ∨ m = 15 := by omega
        rcases this with rfl | rfl | rfl | rfl | rfl <;> simp_all
      · rw [L.pre m h] at h2; cases h2
    exact ⟨hr, fin hi hj (allL L hr) T hw⟩
  | succ fuel ih =>
    intro i j listed a w hi hj hf0 L T hw
    refine ⟨fun hr => fin hi hj (allL L hr) T hw, fun m hm => ?_⟩
    obtain ⟨h1, h2, h3⟩ := ready_mem hm
    rw [CF.size] at h1
    rw [getD_two (by rw [L.sz]; exact h1)] at h2
    have hed : ∀ k, EdgeAt ops m k → listed.getD k false = true := by
      rintro k ⟨o, e, e1, e2, e3, e4⟩
      rw [← e4]; exact h3 o e e1 e2 e3
    have hm10 : 10 < m := by
      rcases Nat.lt_or_ge 10 m with h | h
      · exact h
      · rw [L.pre m h] at h2; cases h2
    have hcs : m = 11 ∨ m = 12 ∨ m = 13 ∨ m = 14 ∨ m = 15 := by omega
    rcases hcs with rfl | rfl | rfl | rfl | rfl
    · -- the element's place
      have hi0 : i = 0 := by have := L.l11; rw [h2] at this; simp at this; omega
      subst hi0
      obtain ⟨oo, ho, hgu, hd, hop⟩ := CF.i
      unfold wpOp
      simp only [ho]
      rw [if_pos (by simp [Region.wanted, hgu])]
      refine .inl (wp_value (v := .pointer (some ⟨b, n * y.size, none⟩)) (w' := w) ?_ ?_)
      · have x1 := eval_is T.r
        have x2 : a.eval (.tmp c.ix) = .int .i64 n := by rw [eval_keep (T.keep c.ix (by grind) (by grind) (by grind) (by grind))]; exact hix
        simp [execOp, hop, x1, x2, ← hvr, idx_any E hk hy]
      · rw [hd]
        refine ih 1 j _ _ _ (by omega) hj (by omega) (L.set (by omega) (by omega) (by simp) (by simp) (by simp) (by simp) (by simp)) ?_ (by simpa using hw)
        have hps : c.p < a.tmps.size := by rw [T.sz]; exact hp
        refine ⟨by simp [Act.put, T.sz], T.df, fun t q1 q2 q3 q4 => ?_, ?_, fun _ => ?_, fun h => ?_, fun h => ?_⟩
        · rw [put_get hps, if_neg (fun e => q2 e.symm)]; exact T.keep t q1 q2 q3 q4
        · rw [put_get hps, if_neg (by grind)]; exact T.r
        · rw [put_get hps, if_pos rfl]
        · rw [put_get hps, if_neg (by grind)]; exact T.q h
        · rw [put_get hps, if_neg (by grind)]; exact T.h h
    · -- the element's store
      have hi1 : i = 1 := by
        have g1 := hed 11 CF.e12
        rw [L.l11] at g1
        have := L.l12; rw [h2] at this; simp at this g1; omega
      subst hi1
      obtain ⟨oo, ho, hgu, hd, hop⟩ := CF.s
      unfold wpOp
      simp only [ho]
      rw [if_pos (by simp [Region.wanted, hgu])]
      have hwb : w.heap[b]? = some (.cells cur eb fz) := by
        rw [hw]
        by_cases hj3 : j = 3
        · simp [hj3]; rw [setRow_other _ _ _ _ (fun e => hne e.symm)]; exact hb
        · simp [hj3]; exact hb
      refine .inl (wp_skipped (w' := w.setRow b E1) ?_ ?_)
      · have x1 := eval_is (T.p (by omega))
        have x2 : a.eval (.tmp c.v) = vx := by rw [eval_keep (T.keep c.v (by grind) (by grind) (by grind) (by grind))]; exact hv
        simp [execOp, hop, x1, x2, sto_any E hy hwb hfz hvs hfit hv1, hE1]
      · rw [hd]
        refine ih 2 j _ _ _ (by omega) hj (by omega) (L.set (by omega) (by omega) (by simp) (by simp) (by simp) (by simp) (by simp)) ⟨T.sz, T.df, T.keep, T.r, fun _ => T.p (by omega), T.q, T.h⟩ ?_
        rw [hw]
        by_cases hj3 : j = 3
        · simp [hj3]; exact setRow_comm _ _ _ _ _ hne
        · simp [hj3]
    · -- the header's box
      have hj0 : j = 0 := by have := L.l13; rw [h2] at this; simp at this; omega
      subst hj0
      obtain ⟨oo, ho, hgu, hd, hop⟩ := CF.n
      unfold wpOp
      simp only [ho]
      rw [if_pos (by simp [Region.wanted, hgu])]
      refine .inl (wp_value (v := .pointer (some ⟨gn, o, none⟩)) (w' := w) ?_ ?_)
      · have x2 : a.eval (.tmp c.bx) = .pointer (some ⟨gn, o, none⟩) := by rw [eval_keep (T.keep c.bx (by grind) (by grind) (by grind) (by grind))]; exact hbx
        simp [execOp, hop, x2]
      · rw [hd]
        refine ih i 1 _ _ _ hi (by omega) (by omega) (L.set (by omega) (by omega) (by simp) (by simp) (by simp) (by simp) (by simp)) ?_ (by simpa using hw)
        have hps : c.q < a.tmps.size := by rw [T.sz]; exact hq0
        refine ⟨by simp [Act.put, T.sz], T.df, fun t q1 q2 q3 q4 => ?_, ?_, fun h => ?_, fun _ => ?_, fun h => by omega⟩
        · rw [put_get hps, if_neg (fun e => q3 e.symm)]; exact T.keep t q1 q2 q3 q4
        · rw [put_get hps, if_neg (by grind)]; exact T.r
        · rw [put_get hps, if_neg (by grind)]; exact T.p h
        · rw [put_get hps, if_pos rfl]
    · -- the header's place
      have hj1 : j = 1 := by
        have g1 := hed 13 CF.e14
        rw [L.l13] at g1
        have := L.l14; rw [h2] at this; simp at this g1; omega
      subst hj1
      obtain ⟨oo, ho, hgu, hd, hop⟩ := CF.g
      unfold wpOp
      simp only [ho]
      rw [if_pos (by simp [Region.wanted, hgu])]
      refine .inl (wp_value (v := .pointer (some ⟨gn, o + off, none⟩)) (w' := w) ?_ ?_)
      · have x1 := eval_is (T.q (by omega))
        simp [execOp, hop, x1, hf]
      · rw [hd]
        refine ih i 2 _ _ _ hi (by omega) (by omega) (L.set (by omega) (by omega) (by simp) (by simp) (by simp) (by simp) (by simp)) ?_ (by simpa using hw)
        have hps : c.h < a.tmps.size := by rw [T.sz]; exact hh
        refine ⟨by simp [Act.put, T.sz], T.df, fun t q1 q2 q3 q4 => ?_, ?_, fun h => ?_, fun h => ?_, fun _ => ?_⟩
        · rw [put_get hps, if_neg (fun e => q4 e.symm)]; exact T.keep t q1 q2 q3 q4
        · rw [put_get hps, if_neg (by grind)]; exact T.r
        · rw [put_get hps, if_neg (by grind)]; exact T.p h
        · rw [put_get hps, if_neg (by grind)]; exact T.q (by omega)
        · rw [put_get hps, if_pos rfl]
    · -- the header's store
      have hj2 : j = 2 := by
        have g1 := hed 14 CF.e15
        rw [L.l14] at g1
        have := L.l15; rw [h2] at this; simp at this g1; omega
      subst hj2
      obtain ⟨oo, ho, hgu, hd, hop⟩ := CF.h
      unfold wpOp
      simp only [ho]
      rw [if_pos (by simp [Region.wanted, hgu])]
      have hwn : w.heap[gn]? = some (.cells arr en fzn) := by
        rw [hw]
        by_cases hi2 : i = 2
        · simp [hi2]; rw [setRow_other _ _ _ _ hne]; exact hn
        · simp [hi2]; exact hn
      have hvc : vr.cells = #[vr] := by rw [← hvr]; rfl
      refine .inl (wp_skipped (w' := w.setRow gn Hd) ?_ ?_)
      · have x1 := eval_is (T.h (by omega))
        have x2 := eval_is T.r
        have hs := sto_any E hyt (vx := vr) hwn hfzn (by rw [hvc, hyt1]; rfl) (by rw [hyt1]; exact hfitn) (by rw [hvc]; simp; rw [← hvr]; rfl)
        rw [hvc] at hs
        simp only [hHd] at hs
        simp [execOp, hop, x1, x2, hs]
      · rw [hd]
        refine ih i 3 _ _ _ hi (by omega) (by omega) (L.set (by omega) (by omega) (by simp) (by simp) (by simp) (by simp) (by simp)) ⟨T.sz, T.df, T.keep, T.r, T.p, fun _ => T.q (by omega), fun _ => T.h (by omega)⟩ ?_
        rw [hw]
        simp
end

theorem appT_inv {o : Oper} {d x y : Tmp} {t : TypeId} (h : appT o = some (d, x, y, t)) : o.guard = none ∧ o.dst = some d ∧ ∃ cl, o.op = .call cl ∧ cl.callee = .builtin .append ∧ cl.args.toList = [.tmp x, .tmp y] ∧ cl.argTypes.toList = [t, t] := by
  unfold appT at h
  split at h
  · rename_i cl hg ho
    split at h
    · rename_i hc hd ha ht
      split at h
      · rename_i ht2
        cases h
        exact ⟨hg, hd, cl, ho, hc, ha, by rw [ht, ← ht2]⟩
      · cases h
    · cases h
  · cases h
theorem idxT_inv {o : Oper} {d x i : Tmp} {t : TypeId} (h : idxT o = some (d, x, i, t)) : o.guard = none ∧ o.dst = some d ∧ o.op = .indexAddr t (.tmp x) (.tmp i) := by
  unfold idxT at h
  split at h
  · rename_i hg hd ho; cases h; exact ⟨hg, hd, ho⟩
  · cases h
theorem stoT_inv {o : Oper} {x y : Tmp} {t : TypeId} (h : stoT o = some (x, y, t)) : o.guard = none ∧ o.dst = none ∧ o.op = .store t (.tmp x) (.tmp y) := by
  unfold stoT at h
  split at h
  · rename_i hg hd ho; cases h; exact ⟨hg, hd, ho⟩
  · cases h
theorem nilT_inv {o : Oper} {d x : Tmp} (h : nilT o = some (d, x)) : o.guard = none ∧ o.dst = some d ∧ o.op = .nilCheck (.tmp x) := by
  unfold nilT at h
  split at h
  · rename_i hg hd ho; cases h; exact ⟨hg, hd, ho⟩
  · cases h
theorem fldT_inv {o : Oper} {d x : Tmp} {t : TypeId} {f : Nat} (h : fldT o = some (d, x, t, f)) : o.guard = none ∧ o.dst = some d ∧ o.op = .fieldAddr t (.tmp x) f := by
  unfold fldT at h
  split at h
  · rename_i hg hd ho; cases h; exact ⟨hg, hd, ho⟩
  · cases h

theorem cus_facts {ops : Array Oper} {c : Cus} (hc : cusD ops.toList true = some c) (he : cusEdges ops.toList = true) (hs : ops.size = 16) : CusFacts ops c := by
  simp only [cusD] at hc
  unfold cusOf at hc
  split at hc
  · rename_i oa oi os on og oh hl
    have at10 : ∀ (j : Nat) (o : Oper), [oa, oi, os, on, og, oh][j]? = some o → ops[10 + j]? = some o := fun j o h => by
      rw [← hl, List.getElem?_drop] at h; simpa using h
    split at hc
    · rename_i r xs z t p r1 ix t1 p1 v e q bx hd q1 sT f h1 r2 t2 e1 e2 e3 e4 e5 e6
      split at hc
      · rename_i hcond
        simp only [Bool.and_eq_true, beq_iff_eq] at hcond
        obtain ⟨⟨⟨⟨⟨⟨⟨rfl, rfl⟩, rfl⟩, rfl⟩, rfl⟩, rfl⟩, rfl⟩, hok⟩ := hcond
        cases hc
        unfold cusEdges at he
        simp only [Bool.and_eq_true, List.all_eq_true, List.mem_range] at he
        obtain ⟨⟨⟨⟨⟨⟨⟨⟨⟨⟨hback, h10⟩, h11⟩, h12⟩, h13⟩, h14⟩, h15⟩, x12⟩, x14⟩, x15⟩, hgn⟩ := he
        have ed : ∀ {i j : Nat}, (match ops.toList[i]? with
            | some o => o.after.toList.any fun e => Region.binds .any e && e.on == j
            | none => false) = true → EdgeAt ops i j := by
          intro i j h
          split at h
          · rename_i o ho
            rw [List.any_eq_true] at h
            obtain ⟨e, m1, m2⟩ := h
            simp only [Bool.and_eq_true, beq_iff_eq] at m2
            exact ⟨o, e, by simpa using ho, by simpa using m1, m2.1, m2.2⟩
          · cases h
        obtain ⟨ga, da, cl, oa1, oa2, oa3, oa4⟩ := appT_inv e1
        obtain ⟨gi, di, oi1⟩ := idxT_inv e2
        obtain ⟨gs, ds, os1⟩ := stoT_inv e3
        obtain ⟨gn, dn, on1⟩ := nilT_inv e4
        obtain ⟨gg, dg, og1⟩ := fldT_inv e5
        obtain ⟨gh, dh, oh1⟩ := stoT_inv e6
        refine ⟨hs, fun i o e ho hm hb => ?_, ⟨oa, cl, at10 0 oa rfl, ga, da, oa1, oa2, oa3, oa4⟩, ⟨oi, at10 1 oi rfl, gi, di, oi1⟩, ⟨os, at10 2 os rfl, gs, ds, os1⟩, ⟨on, at10 3 on rfl, gn, dn, on1⟩, ⟨og, at10 4 og rfl, gg, dg, og1⟩, ⟨oh, at10 5 oh rfl, gh, dh, oh1⟩, fun j hj => ed (h10 j hj), fun i hi hi2 => ?_, ed x12, ed x14, ed x15, hok, fun m o hm ho => ?_⟩
        · have hi : i < ops.toList.length := by simpa using (Array.getElem?_eq_some_iff.1 ho).1
          have h1 := hback i hi
          have ho' : ops.toList[i]? = some o := by simpa using ho
          simp only [ho', List.all_eq_true] at h1
          have := h1 e (by simpa using hm)
          simpa [hb] using this
        · have : i = 11 ∨ i = 12 ∨ i = 13 ∨ i = 14 ∨ i = 15 := by omega
          rcases this with rfl | rfl | rfl | rfl | rfl
          · exact ed h11
          · exact ed h12
          · exact ed h13
          · exact ed h14
          · exact ed h15
        · have hmem : o ∈ ops.toList.take 10 := by
            apply List.mem_of_getElem? (i := m)
            rw [List.getElem?_take, if_pos hm]; simpa using ho
          have := hgn o hmem
          simpa using this
      · cases hc
    · cases hc
  · cases hc
end Go.Pm
