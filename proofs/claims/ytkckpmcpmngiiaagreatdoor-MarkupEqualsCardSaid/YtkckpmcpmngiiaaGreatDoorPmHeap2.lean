/- Allocation, stores, slice literals and append. -/
import Derived.Test.YtkckpmcpmngiiaaGreatDoorPmHeap
set_option linter.unusedSimpArgs false
set_option linter.unusedVariables false
set_option linter.unusedSectionVars false
namespace Go.Pm

theorem pcell_rel {C : Cf} {c : SV} {p : PV} {v : Value} (h : pcell c = some p) (hr : RelS C c v) : RelP C.w C.S p v := by
  unfold pcell at h
  split at h <;> cases h
  · cases hr with | pv _ _ hp => exact hp
  · cases hr with | own _ _ _ _ _ _ _ _ _ _ _ hp _ => exact hp
  · cases hr with | tight _ _ _ _ hp => exact hp

theorem pcells_rel {C : Cf} : ∀ {cs : List SV} {ps : List PV} {us : List Value}, pcells cs = some ps → RelL C cs us →
    us.length = ps.length ∧ ∀ (j : Nat) (p : PV) (u : Value), ps[j]? = some p → us[j]? = some u → RelP C.w C.S p u
  | [], ps, us, h, hr => by
    simp [pcells] at h; subst h
    exact ⟨by simpa using hr.1, fun j p u hj => by simp at hj⟩
  | c :: r, ps, us, h, hr => by
    simp only [pcells] at h
    split at h
    · rename_i p hp
      split at h
      · rename_i ps' hps
        cases h
        obtain ⟨u, us', rfl, h1, h2⟩ := hr.uncons
        obtain ⟨h3, h4⟩ := pcells_rel hps h2
        refine ⟨by simp [h3], fun j q v hj hv => ?_⟩
        cases j with
        | zero => simp at hj hv; subst hj; subst hv; exact pcell_rel hp h1
        | succ j => exact h4 j q v (by simpa using hj) (by simpa using hv)
      · cases h
    · cases h

theorem chunks_length (s : Nat) : ∀ (n : Nat) (l : List PV), (chunks s n l).length = n
  | 0, _ => rfl
  | n + 1, l => by simp [chunks, chunks_length s n]

theorem chunks_get (s : Nat) : ∀ (n : Nat) (l : List PV) (i : Nat) (e : List PV), (chunks s n l)[i]? = some e → e = (l.drop (i * s)).take s ∧ i < n
  | 0, l, i, e, h => by simp [chunks] at h
  | n + 1, l, i, e, h => by
    cases i with
    | zero => simp [chunks] at h; exact ⟨by simp [h], by omega⟩
    | succ i =>
      simp only [chunks, List.getElem?_cons_succ] at h
      obtain ⟨h1, h2⟩ := chunks_get s n (l.drop s) i e h
      refine ⟨by rw [h1, List.drop_drop, Nat.add_mul, Nat.one_mul, Nat.add_comm], by omega⟩

theorem chunks_row {w : World} {S : Nat → Nat → Prop} (s n : Nat) (ps : List PV) (us : List Value) (hl : ps.length = n * s) (hu : us.length = ps.length)
    (hr : ∀ (j : Nat) (p : PV) (u : Value), ps[j]? = some p → us[j]? = some u → RelP w S p u) : Row w S s (chunks s n ps) us := by
  refine ⟨by rw [chunks_length, hu, hl], fun i e he => ?_, fun q v hq => ?_, fun i e j p he hp => ?_⟩
  · obtain ⟨h1, h2⟩ := chunks_get s n ps i e he
    subst h1
    have : (i + 1) * s ≤ n * s := Nat.mul_le_mul_right _ h2
    rw [Nat.add_mul] at this
    simp; omega
  · have hq' : q < ps.length := by rw [← hu]; exact (List.getElem?_eq_some_iff.1 hq).1
    exact (hr q ps[q] v (by simp [hq']) hq).oneV
  · obtain ⟨h1, h2⟩ := chunks_get s n ps i e he
    subst h1
    rw [List.getElem?_take] at hp
    split at hp
    · rename_i hj
      rw [List.getElem?_drop] at hp
      have hlt : i * s + j < us.length := by rw [hu, hl]; exact idx_lt h2 hj
      exact ⟨us[i * s + j], by simp [hlt], hr _ p _ hp (by simp [hlt])⟩
    · cases hp

theorem flatten_replicate_get {α : Type} (z : List α) : ∀ (n j : Nat), j < n * z.length → (List.replicate n z).flatten[j]? = z[j % z.length]?
  | 0, j, h => by simp at h
  | n + 1, j, h => by
    simp only [List.replicate_succ, List.flatten_cons]
    by_cases hj : j < z.length
    · rw [List.getElem?_append_left hj, Nat.mod_eq_of_lt hj]
    · rw [List.getElem?_append_right (by omega)]
      rw [flatten_replicate_get z n (j - z.length) (by rw [Nat.add_mul] at h; omega)]
      congr 1
      conv => rhs; rw [show j = (j - z.length) + z.length by omega, Nat.add_mod_right]

section
variable {P : Program} {Y : TypeId → Option Ty} (E : Env P Y)
include E

theorem alloc_run {C : Cf} (I : Inv C) {t : TypeId} {y : Ty} (hy : Y t = some y) :
    ∃ v C', (Instr.alloc t true (.tuple #[])).run P C.w = .ok v C'.w ∧ Good C C' (C.H ++ [.box (some t) (y.zero.map .pv)]) (.ptr C.H.length 0) v := by
  obtain ⟨z, hz, hzp⟩ := E.zero hy C.w
  obtain ⟨h1, h2⟩ := zero_rel (C := C) hzp
  obtain ⟨C', hw, hg⟩ := newBox I (Pushed.alloc C.w (.cells z.cells t (0, 0))) (some t) (fun _ e => Option.some.inj e) h1 h2
  refine ⟨_, C', ?_, hg⟩
  rw [hw]
  simp [Instr.alloc, hz, newVar, newRow]

omit E in
theorem box_run {C : Cf} (I : Inv C) {t : TypeId} {x : SV} {v : Value} {cs : List SV} (hc : cellsOf x = some cs) (hr : RelS C x v) :
    ∃ u C', (Instr.box t v).run P C.w = .ok u C'.w ∧ Good C C' (C.H ++ [.box (some t) cs]) (.ptr C.H.length 0) u := by
  obtain ⟨h1, h2⟩ := cellsOf_rel hc hr
  obtain ⟨C', hw, hg⟩ := newBox I (Pushed.alloc C.w (.cells v.cells t (0, 0))) (some t) (fun _ e => Option.some.inj e) h1 h2
  refine ⟨_, C', ?_, hg⟩
  rw [hw]
  simp [Instr.box, newVar, newRow]

theorem alloc_fill {C : Cf} (I : Inv C) {t : TypeId} {y : Ty} (hy : Y t = some y) {k : Nat} (hk : C.H[k]? = some .hole) :
    ∃ v C', (Instr.alloc t true (.tuple #[])).run P C.w = .ok v C'.w ∧ Good C C' (C.H.set k (.box (some t) (y.zero.map .pv))) (.ptr k 0) v := by
  obtain ⟨z, hz, hzp⟩ := E.zero hy C.w
  obtain ⟨h1, h2⟩ := zero_rel (C := C) hzp
  obtain ⟨C', hw, hg⟩ := fillBox I (Pushed.alloc C.w (.cells z.cells t (0, 0))) (some t) (fun _ e => Option.some.inj e) hk h1 h2
  refine ⟨_, C', ?_, hg⟩
  rw [hw]
  simp [Instr.alloc, hz, newVar, newRow]

omit E in
theorem box_fill {C : Cf} (I : Inv C) {t : TypeId} {x : SV} {v : Value} {cs : List SV} (hc : cellsOf x = some cs) (hr : RelS C x v) {k : Nat} (hk : C.H[k]? = some .hole) :
    ∃ u C', (Instr.box t v).run P C.w = .ok u C'.w ∧ Good C C' (C.H.set k (.box (some t) cs)) (.ptr k 0) u := by
  obtain ⟨h1, h2⟩ := cellsOf_rel hc hr
  obtain ⟨C', hw, hg⟩ := fillBox I (Pushed.alloc C.w (.cells v.cells t (0, 0))) (some t) (fun _ e => Option.some.inj e) hk h1 h2
  refine ⟨_, C', ?_, hg⟩
  rw [hw]
  simp [Instr.box, newVar, newRow]

theorem makeSlice_run {C : Cf} (I : Inv C) {t : TypeId} {k1 k2 : IntKind} {a b : Int} {s : SV} {H' : List Blk} (h : aMakeSlice Y C.H t a b = some (s, H')) :
    ∃ u C', (Instr.makeSlice t (.int k1 a) (.int k2 b)).run P C.w = .ok u C'.w ∧ Good C C' H' s u := by
  unfold aMakeSlice at h
  split at h
  · rename_i e hk
    split at h
    · rename_i y hy
      split at h
      · rename_i hc
        obtain ⟨rfl, h0, hb, hm, hpos⟩ := hc
        cases h
        obtain ⟨d, i, z, _, hi, _, hisz, hiby, hz, hzp, _⟩ := E.spec hy
        obtain ⟨z1, z2⟩ := zero_rel (C := C) hzp
        have zl : z.cells.size = y.zero.length := by have := z1.1; simpa using this
        have hzl : y.zero.length = y.size := E.zlen hy
        have hr := run_make (P := P) C.w t e i z (E.slice hk) hi hz k1 k2 a a h0 (Int.le_refl _) (by rw [hiby]; exact hb) (by omega)
        have hlen : ((List.replicate a.toNat (y.zero.map SV.pv)).flatten).length = a.toNat * y.size := by simp [hzl]
        have hR : RelL C ((List.replicate a.toNat (y.zero.map SV.pv)).flatten) (madeCells z.cells (a.toNat * i.size)).toList := by
          rw [hisz]
          refine ⟨by rw [hlen]; simp [size_madeCells], fun j c u hj hu => ?_⟩
          have hjl : j < a.toNat * y.size := by rw [← hlen]; exact (List.getElem?_eq_some_iff.1 hj).1
          have hml : j % y.size < y.size := Nat.mod_lt _ hpos
          rw [flatten_replicate_get _ _ j (by simpa [hzl] using hjl)] at hj
          simp only [List.length_map, hzl] at hj
          have hzs : z.cells.size = y.size := by rw [zl, hzl]
          have hu' : u = z.cells[j % y.size]! := by
            simp [madeCells, hjl, hzs] at hu
            exact hu.symm
          refine z1.2 (j % y.size) c u hj ?_
          rw [hu']
          simp [hzs, hml]
        have hone : ∀ (j : Nat) (c : SV), ((List.replicate a.toNat (y.zero.map SV.pv)).flatten)[j]? = some c → c.one = true := by
          intro j c hj
          obtain ⟨l, hl, hc⟩ := List.mem_flatten.1 (List.mem_of_getElem? hj)
          have := (List.mem_replicate.1 hl).2
          subst this
          obtain ⟨p, _, rfl⟩ := List.mem_map.1 hc
          rfl
        obtain ⟨C', hw, hg⟩ := newBox I (Pushed.alloc C.w (.cells (madeCells z.cells (a.toNat * i.size)) e (0, 0))) none (fun _ e => by cases e) hR hone
        have hrel := hg.rel
        generalize hv : Value.pointer (some ⟨C.w.heap.size, 0, none⟩) = v at hrel
        cases hrel with | ptr _ _ cs g hH hG =>
        injection hv with hv
        injection hv with hv
        injection hv with hv
        refine ⟨.slice (some ⟨g.blk, 0, none⟩) a.toNat a.toNat, C', ?_, hg.H, hg.inv, hg.evo, .bsl _ 0 a.toNat y.size a.toNat cs g hH hG (Nat.le_refl _)⟩
        rw [hr, hw, hv]
      · split at h
        · rename_i _ hc
          obtain ⟨rfl, h0, hb, hm, hpos⟩ := hc
          cases h
          obtain ⟨d, i, z, _, hi, _, hisz, hiby, hz, hzp, _⟩ := E.spec hy
          have hr := run_make (P := P) C.w t e i z (E.slice hk) hi hz k1 k2 0 b (Int.le_refl _) (by omega) (by rw [hiby]; exact hb) (by omega)
          have hR : Row C.w C.S y.size [] [] := ⟨by simp, fun i e h => by simp at h, fun q v h => by simp at h, fun i e j p h => by simp at h⟩
          have hpu : Pushed C.w (C.w.alloc (.cells (madeCells z.cells (b.toNat * i.size)) e)) (.cells ([] ++ (madeCells z.cells (b.toNat * i.size)).toList).toArray e (0, 0)) := by
            have := Pushed.alloc C.w (.cells (madeCells z.cells (b.toNat * i.size)) e (0, 0))
            simpa using this
          obtain ⟨C', hw, hg⟩ := newTok I hpu (cap := b.toNat) hR (by simp [size_madeCells, hisz]) (by simp) (by show b.toNat ≤ maxLen; unfold maxLen; omega)
          exact ⟨_, C', by rw [hr, hw]; rfl, hg⟩
        · cases h
    · cases h
  · cases h

theorem buildSlice_run {C : Cf} (I : Inv C) {ρ : Operand → Option SV} {ev : Operand → Value} (hρ : Eval C ρ ev) {t n : Nat} {parts : Array (Nat × Operand)} {s : SV}
    (h : aBuildSlice Y t n ρ parts.toList = some s) :
    ∃ u C', (Instr.buildSlice t n (parts.map fun (i, x) => (i, ev x))).run P C.w = .ok u C'.w ∧ Good C C' C.H s u := by
  unfold aBuildSlice at h
  split at h
  · rename_i e hk
    split at h
    · rename_i y hy
      split at h
      · rename_i hc
        split at h
        · rename_i cs hl
          split at h
          · rename_i ps hp
            cases h
            obtain ⟨z, hz, hzp⟩ := E.zero hy C.w
            obtain ⟨d, ii, zz, _, _, _, _, _, hzz, hzp', _⟩ := E.spec hy
            obtain ⟨z1, z2⟩ := zero_rel (C := C) hzp
            have zl : z.cells.size = y.zero.length := by have := z1.1; simpa using this
            obtain ⟨hsz, hne⟩ := hc
            have hbig : ¬ (2 ^ 24 < n * y.size) := by omega
            -- the zero cells, in a row
            have key : y.zero.length = y.size → ∃ u C', (Instr.buildSlice t n (parts.map fun (i, x) => (i, ev x))).run P C.w = .ok u C'.w ∧ Good C C' C.H (.tight y.size (chunks y.size n ps)) u := by
              intro hzl
              have hR : RelL C ((List.replicate n (y.zero.map SV.pv)).flatten) (((Array.range (n * y.size)).map (fun q => (if n * y.size = 0 then #[] else z.cells)[q % (if n * y.size = 0 then #[] else z.cells).size]!)).toList) := by
                have hlen : ((List.replicate n (y.zero.map SV.pv)).flatten).length = n * y.size := by simp [hzl]
                refine ⟨by rw [hlen]; simp, fun j c u hj hu => ?_⟩
                have hjl : j < n * y.size := by rw [← hlen]; exact (List.getElem?_eq_some_iff.1 hj).1
                have hn0 : n * y.size ≠ 0 := by omega
                rw [if_neg hn0] at hu
                have hml : j % y.size < y.size := Nat.mod_lt _ (by omega)
                rw [flatten_replicate_get _ n j (by simpa [hzl] using hjl)] at hj
                simp only [List.length_map, hzl] at hj
                have hzs : z.cells.size = y.size := by rw [zl, hzl]
                have hu' : u = z.cells[j % y.size]! := by
                  simp [hjl, hzs] at hu
                  exact hu.symm
                refine z1.2 (j % y.size) c u hj ?_
                rw [hu']
                simp [hzs, hml]
              have hone : ∀ (j : Nat) (c : SV), ((List.replicate n (y.zero.map SV.pv)).flatten)[j]? = some c → c.one = true := by
                intro j c hj
                obtain ⟨l, hl, hc⟩ := List.mem_flatten.1 (List.mem_of_getElem? hj)
                have := (List.mem_replicate.1 hl).2
                subst this
                obtain ⟨p, _, rfl⟩ := List.mem_map.1 hc
                rfl
              obtain ⟨us, h8, h9, h10⟩ := layAll_run hρ (place := fun i => some (i * y.size, y.size)) (fun i p hp => hp) parts.toList _ cs _ hl hR hone
              obtain ⟨h11, h12⟩ := pcells_rel hp h9
              have hcl : us.length = n * y.size := by
                rw [h9.1, layAll_length _ _ _ hl]
                simp [hzl]
              have hrow := chunks_row (w := C.w) (S := C.S) y.size n ps us (by rw [← h11, hcl]) h11 h12
              obtain ⟨C', hw, hg⟩ := newTight I (Pushed.alloc C.w (.cells us.toArray e (0, 0))) hrow
              refine ⟨_, C', ?_, hg⟩
              rw [hw, chunks_length]
              have h8' : Instr.fill (fun i => some (i * y.size, y.size)) ((Array.range (n * y.size)).map (fun q => (if n * y.size = 0 then #[] else z.cells)[q % (if n * y.size = 0 then #[] else z.cells).size]!)) ((parts.map fun (i, x) => (i, ev x)).toList) = some us.toArray := by
                rw [Array.toArray_toList] at h8
                rw [Array.toList_map]
                exact h8
              unfold Instr.buildSlice
              simp only [Sem.run_bind, run_underlying (E.slice hk), Result.andThen_ok, E.size hy, Sem.run_ite, if_neg hbig, Sem.run_pure]
              by_cases hn0 : n * y.size = 0
              · simp only [hn0, if_true, Sem.run_pure, Result.andThen_ok] at h8' ⊢
                simp only [h8']
                simp [newRow]
              · simp only [hn0, if_false, Sem.run_bind, hz, Sem.run_pure, Result.andThen_ok] at h8' ⊢
                simp only [h8']
                simp [newRow]
            exact key (E.zlen hy)
          · cases h
        · cases h
      · cases h
    · cases h
  · cases h
end
end Go.Pm
