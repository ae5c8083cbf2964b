/- More of the interpreter's operations held against the model's: addresses, parts, slices, lengths. -/
import Derived.Test.YtkckpmcpmngiiaaGreatDoorPmOps
namespace Go.Pm

theorem cptr_drop {C : Cf} {cs : List PV} {b off : Nat} (h : RelS C (.cptr cs) (.pointer (some ⟨b, off, none⟩))) (n : Nat) : RelS C (.cptr (cs.drop n)) (.pointer (some ⟨b, off + n, none⟩)) := by
  cases h with | cptr _ _ _ u hS hc hr =>
  exact .cptr _ b (off + n) (fun j => u (n + j)) (fun j p hj => by rw [Nat.add_assoc]; exact hS _ p (by simpa using hj))
    (fun j p hj => by rw [Nat.add_assoc]; exact hc _ p (by simpa using hj)) (fun j p hj => hr _ p (by simpa using hj))

/-- What a slice of cells reads as. -/
theorem slice_elems {C : Cf} {x : SV} {v : Value} {es : List (List PV)} (hr : RelS C x v) (hx : sliceElems x = some es) :
    (v = .slice none 0 0 ∧ es = [] ∧ x = .pv .nilSlice) ∨ (∃ s, RelP C.w C.S (.slice s es) v ∧ x ≠ .pv .nilSlice ∧ ∀ n, strideOk n x = (s == n)) := by
  unfold sliceElems at hx
  split at hx <;> cases hx
  · cases hr with | pv _ _ hp => cases hp; exact .inl ⟨rfl, rfl, rfl⟩
  · cases hr with | pv _ _ hp => exact .inr ⟨_, hp, by simp, fun n => rfl⟩
  · cases hr with | own _ _ _ _ _ _ _ _ hH hG hv hp _ => exact .inr ⟨_, hp, by simp, fun n => rfl⟩
  · cases hr with | tight _ _ _ _ hp => exact .inr ⟨_, hp, by simp, fun n => rfl⟩

theorem bytesOf_ints : ∀ {es : List (List PV)} {l : List UInt8}, bytesOf es = some l → ∃ ns : List Int, es = ns.map (fun n => [PV.int .u8 n]) ∧ l = ns.map fun n => UInt8.ofNat n.toNat
  | [], l, h => by simp [bytesOf] at h; subst h; exact ⟨[], rfl, rfl⟩
  | e :: r, l, h => by
    unfold bytesOf at h
    split at h
    · rename_i e1; cases e1
    · rename_i n r' e1
      cases e1
      cases hr : bytesOf r with
      | none => rw [hr] at h; cases h
      | some l' =>
        rw [hr] at h
        simp at h
        obtain ⟨ns, h1, h2⟩ := bytesOf_ints hr
        exact ⟨n :: ns, by rw [h1]; rfl, by rw [← h, h2]; rfl⟩
    · cases h

theorem bytes_loop {P : Program} {w : World} (f : Value → ByteArray → Sem (ForInStep ByteArray)) (hf : ∀ (n : Int) (s : ByteArray), f (.int .u8 n) s = pure (.yield (s.push (UInt8.ofNat n.toNat)))) : ∀ (ns : List Int) (s : ByteArray),
    (forIn (ns.map (Value.int .u8)) s f).run P w = .ok ⟨(s.data.toList ++ ns.map fun n => UInt8.ofNat n.toNat).toArray⟩ w
  | [], s => by simp
  | n :: ns, s => by
    rw [List.map_cons, List.forIn_cons, hf]
    simp only [Sem.run_bind, Sem.run_pure, Result.andThen_ok]
    rw [bytes_loop f hf ns]
    simp [ByteArray.push]

section
variable {P : Program} {Y : TypeId → Option Ty} (E : Env P Y)
include E
theorem aConv_run {C : Cf} {src dst : TypeId} {x s : SV} {v : Value} (h : aConv Y src dst x = some s) (hr : RelS C x v) :
    ∃ u, (convert src dst v).run P C.w = .ok u C.w ∧ RelS C s u := by
  unfold aConv at h
  split at h
  · rename_i k1 k h1 h2
    split at h
    · rename_i k' n
      cases h
      cases hr with | pv _ _ hp =>
      cases hp
      refine ⟨_, ?_, .pv _ _ (.int _ _)⟩
      simp [convert, run_underlying (E.int h1), run_underlying (E.int h2), Conv.intToInt]
    · cases h
  · rename_i h1 h2
    split at h
    · rename_i l
      cases h
      cases hr with | pv _ _ hp =>
      cases hp
      refine ⟨_, ?_, .pv _ _ (.str _)⟩
      simp [convert, run_underlying (E.str h1), run_underlying (E.str h2)]
    · cases h
  · rename_i e h1 h2
    split at h
    · rename_i es h3 hx
      split at h
      · rename_i hst
        cases hb : bytesOf es with
        | none => rw [hb] at h; cases h
        | some l =>
          rw [hb] at h
          cases h
          obtain ⟨ns, rfl, rfl⟩ := bytesOf_ints hb
          rcases slice_elems hr hx with ⟨rfl, he, _⟩ | ⟨s1, hp, _, hst2⟩
          · have hn : ns = [] := by simpa using he
            subst hn
            exact ⟨.string .empty, by simp [convert, run_underlying (E.slice h1), run_underlying (E.str h2), run_underlying (E.int h3), Conv.bytesToString], .pv _ _ (.str [])⟩
          · have hs1 : s1 = 1 := by rw [hst2] at hst; simpa using hst
            subst hs1
            cases hp with | slice _ _ b off cap u hcap hs hS hc hrr =>
            have hcell : ∀ (j : Nat) (w' : Value), (ns.map (Value.int .u8))[j]? = some w' → C.w.cell? ((⟨b, off, none⟩ : Addr).add j) = some w' := by
              intro j w' hj
              rw [Addr.add_lit]
              rw [List.getElem?_map] at hj
              cases hnj : ns[j]? with
              | none => rw [hnj] at hj; cases hj
              | some n =>
                rw [hnj] at hj
                cases hj
                have g1 : (ns.map fun n => [PV.int .u8 n])[j]? = some [PV.int .u8 n] := by rw [List.getElem?_map, hnj]; rfl
                have g2 := hc j _ 0 (.int .u8 n) g1 rfl
                have g3 := hrr j _ 0 (.int .u8 n) g1 rfl
                rw [show off + j * 1 + 0 = off + j by omega] at g2
                rw [g2]
                generalize u j 0 = q at g3
                cases g3; rfl
            have hl := run_loadCells_list (P := P) C.w ⟨b, off, none⟩ (ns.map (Value.int .u8)) hcell
            rw [List.length_map] at hl
            refine ⟨.string ⟨(ns.map fun n => UInt8.ofNat n.toNat).toArray⟩, ?_, .pv _ _ (.str _)⟩
            simp only [convert, Sem.run_bind, run_underlying (E.slice h1), run_underlying (E.str h2), run_underlying (E.int h3), Result.andThen_ok, Conv.bytesToString, List.length_map, hl]
            rw [← Array.forIn_toList]
            rw [bytes_loop _ (fun n s => rfl)]
            simp [ByteArray.empty, ByteArray.emptyWithCapacity]
            rfl
      · cases h
    · cases h
  · cases h

end

theorem RelP.drop_take {w : World} {S : Nat → Nat → Prop} {es : List (List PV)} {b off cap s : Nat} {u : Nat → Nat → Value}
    (hs : ∀ (i : Nat) (e : List PV), es[i]? = some e → e.length = s)
    (hS : ∀ (i : Nat) (e : List PV) (j : Nat) (p : PV), es[i]? = some e → e[j]? = some p → S b (off + i * s + j))
    (hc : ∀ (i : Nat) (e : List PV) (j : Nat) (p : PV), es[i]? = some e → e[j]? = some p → w.cell? ⟨b, off + i * s + j, none⟩ = some (u i j))
    (hr : ∀ (i : Nat) (e : List PV) (j : Nat) (p : PV), es[i]? = some e → e[j]? = some p → RelP w S p (u i j))
    (lo hi : Nat) (h1 : lo ≤ hi) (h2 : hi ≤ es.length) (h3 : es.length ≤ cap) (o' : Nat) (ho : lo < cap → o' = off + lo * s) :
    RelP w S (.slice s ((es.take hi).drop lo)) (.slice (some ⟨b, o', none⟩) (hi - lo) (cap - lo)) := by
  have hl : ((es.take hi).drop lo).length = hi - lo := by simp; omega
  rw [← hl]
  have hget : ∀ (i : Nat) (e : List PV), ((es.take hi).drop lo)[i]? = some e → es[lo + i]? = some e ∧ lo < cap := by
    intro i e he
    rw [List.getElem?_drop, List.getElem?_take] at he
    split at he
    · rename_i hlt
      exact ⟨he, by omega⟩
    · cases he
  refine .slice s _ b o' (cap - lo) (fun i j => u (lo + i) j) (by rw [hl]; omega) (fun i e he => hs _ e (hget i e he).1) ?_ ?_ ?_
  · intro i e j p he hp
    obtain ⟨h4, h5⟩ := hget i e he
    have := hS _ e j p h4 hp
    rw [ho h5, show off + lo * s + i * s + j = off + (lo + i) * s + j by rw [Nat.add_mul]; omega]
    exact this
  · intro i e j p he hp
    obtain ⟨h4, h5⟩ := hget i e he
    have := hc _ e j p h4 hp
    rw [ho h5, show off + lo * s + i * s + j = off + (lo + i) * s + j by rw [Nat.add_mul]; omega]
    exact this
  · intro i e j p he hp
    exact hr _ e j p (hget i e he).1 hp

section
variable {P : Program} {Y : TypeId → Option Ty} (E : Env P Y)
include E

theorem aFieldAddr_run {C : Cf} {t : TypeId} {x s : SV} {v : Value} {f : Nat} (h : aFieldAddr Y t x f = some s) (hr : RelS C x v) :
    ∃ u, (Instr.fieldAt t v f).run P C.w = .ok u C.w ∧ RelS C s u := by
  unfold aFieldAddr at h
  split at h
  · rename_i off y hf
    obtain ⟨fields, fd, h1, h2, h3, h4⟩ := E.field hf
    split at h
    · cases h
    · rename_i hsz
      split at h
      · rename_i k o
        cases h
        cases hr with | ptr _ _ cs g hH hG =>
        refine ⟨_, ?_, .ptr k (o + off) cs g hH hG⟩
        simp [Instr.fieldAt, run_underlying h1, h2, Instr.sureAddr, fieldPlace, E.size h4, hsz, h3, Addr.add_lit]
      · rename_i cs
        cases h
        cases hr with | cptr _ b o u hS hc hrp =>
        refine ⟨_, ?_, cptr_drop (.cptr cs b o u hS hc hrp) off⟩
        simp [Instr.fieldAt, run_underlying h1, h2, Instr.sureAddr, fieldPlace, E.size h4, hsz, h3, Addr.add_lit]
      · cases h
  · cases h

theorem aPart_run {C : Cf} {t : TypeId} {y : Ty} {cs : List SV} {us : List Value} {off : Nat} {s : SV} (hy : Y t = some y) (h : aPart y cs off = some s)
    (hl : us.length = cs.length) (h1 : ∀ (j : Nat) (c : SV), cs[j]? = some c → c.one = true) (hr : ∀ (j : Nat) (c : SV) (u : Value), cs[j]? = some c → us[j]? = some u → RelS C c u) :
    ∃ u, (part t us.toArray off).run P C.w = .ok u C.w ∧ RelS C s u := by
  have RL : RelL C cs us := ⟨hl, hr⟩
  unfold aPart at h
  split at h
  · rename_i hk
    split at h
    · rename_i hlen
      cases h
      have R2 := (RL.drop off).take y.size
      refine ⟨.agg (((us.drop off).take y.size).toArray), ?_, .agg _ _ R2.1 (fun j c hj => ?_) R2.2⟩
      · have hex : us.toArray.extract off (off + y.size) = ((us.drop off).take y.size).toArray := by
          simp [List.extract_toArray, List.extract_eq_take_drop]
        simp only [part, Sem.run_bind, E.isAgg hy, hk, Result.andThen_ok, Sem.run_ite, if_true, E.size hy, Sem.run_pure, hex]
      · rw [List.getElem?_take] at hj
        split at hj
        · rw [List.getElem?_drop] at hj; exact h1 _ c hj
        · cases hj
    · cases h
  · rename_i hk
    obtain ⟨u, hu, hru⟩ := RL.get h
    refine ⟨u, ?_, hru⟩
    have : us.toArray[off]? = some u := by simpa using hu
    have hk' : isAggK y.kind = false := by simpa using hk
    simp only [part, Sem.run_bind, E.isAgg hy, hk', Result.andThen_ok, Sem.run_ite, this]
    rfl

theorem aField_run {C : Cf} {t : TypeId} {x s : SV} {v : Value} {f : Nat} (h : aField Y t x f = some s) (hr : RelS C x v) :
    ∃ u, (Instr.field t v f).run P C.w = .ok u C.w ∧ RelS C s u := by
  unfold aField at h
  split at h
  · rename_i off y cs hf
    obtain ⟨fields, fd, h1, h2, h3, h4⟩ := E.field hf
    cases hr with | agg _ us hl h5 hrr =>
    obtain ⟨u, hu, hru⟩ := aPart_run E h4 h hl h5 hrr
    refine ⟨u, ?_, hru⟩
    simp [Instr.field, run_underlying h1, h2, asAgg, h3, hu]
  · cases h

theorem aElem_run {C : Cf} {t e : TypeId} {st : Nat} {es : List (List PV)} {s : SV} {v : Value} {k : IntKind} {i : Int} (hk : kindOf Y t = some (.slice e))
    (hp : RelP C.w C.S (.slice st es) v) (h : aElem Y e st es i = some s) : ∃ u, (Instr.indexAt t v (.int k i)).run P C.w = .ok u C.w ∧ RelS C s u := by
  unfold aElem at h
  split at h
  · rename_i y hy
    split at h
    · rename_i h0
      obtain ⟨rfl, h0⟩ := h0
      cases hp with | slice _ _ b off cap u hcap hs hS hc hrp =>
      cases he : es[i.toNat]? with
      | none => simp [he] at h
      | some el =>
        simp [he] at h
        subst h
        have hlt : i.toNat < es.length := (List.getElem?_eq_some_iff.1 he).1
        have hlt' : i < (es.length : Int) := by omega
        refine ⟨.pointer (some ⟨b, off + i.toNat * y.size, none⟩), ?_,
          .cptr el b _ (u i.toNat) (fun j p hj => hS _ el j p he hj) (fun j p hj => hc _ el j p he hj) (fun j p hj => hrp _ el j p he hj)⟩
        simp [Instr.indexAt, asIntOf, run_underlying (E.slice hk), h0, hlt', E.size hy, Addr.add_lit]
    · cases h
  · cases h

theorem aIndexAddr_run {C : Cf} {t : TypeId} {x s : SV} {v : Value} {k : IntKind} {i : Int} (h : aIndexAddr Y t x i = some s) (hr : RelS C x v) :
    ∃ u, (Instr.indexAt t v (.int k i)).run P C.w = .ok u C.w ∧ RelS C s u := by
  unfold aIndexAddr at h
  split at h
  · rename_i n e k' o hk
    split at h
    · rename_i y hy
      split at h
      · rename_i h0
        cases h
        cases hr with | ptr _ _ cs g hH hG =>
        refine ⟨_, ?_, .ptr k' _ cs g hH hG⟩
        simp [Instr.indexAt, asIntOf, run_underlying (E.array hk), Instr.sureAddr, h0.1, h0.2, E.size hy, Addr.add_lit]
      · cases h
    · cases h
  · rename_i n e cs hk
    split at h
    · rename_i y hy
      split at h
      · rename_i h0
        cases h
        cases hr with | cptr _ b o u hS hc hrp =>
        refine ⟨_, ?_, cptr_drop (.cptr cs b o u hS hc hrp) (i.toNat * y.size)⟩
        simp [Instr.indexAt, asIntOf, run_underlying (E.array hk), Instr.sureAddr, h0.1, h0.2, E.size hy, Addr.add_lit]
      · cases h
    · cases h
  · rename_i e st es hk
    cases hr with | pv _ _ hp => exact aElem_run E hk hp h
  · rename_i e _ _ st es hk
    cases hr with | own _ _ _ _ _ _ _ _ hH hG hv hp _ => exact aElem_run E hk hp h
  · rename_i e st es hk
    cases hr with | tight _ _ _ _ hp => exact aElem_run E hk hp h
  · rename_i e k' off len st hk
    split at h
    · rename_i y hy
      split at h
      · rename_i h0
        obtain ⟨h1, h2, rfl⟩ := h0
        cases h
        cases hr with | bsl _ _ _ _ cap cs g hH hG hcap =>
        refine ⟨_, ?_, .ptr k' _ cs g hH hG⟩
        simp [Instr.indexAt, asIntOf, run_underlying (E.slice hk), h1, h2, E.size hy, Addr.add_lit]
      · cases h
    · cases h
  · cases h

theorem aIndex_run {C : Cf} {t : TypeId} {x s : SV} {v : Value} {k : IntKind} {i : Int} (h : aIndex Y t x i = some s) (hr : RelS C x v) :
    ∃ u, (Instr.index t v (.int k i)).run P C.w = .ok u C.w ∧ RelS C s u := by
  unfold aIndex at h
  split at h
  · rename_i n e cs hk
    split at h
    · rename_i y hy
      split at h
      · rename_i h0
        cases hr with | agg _ us hl h5 hrr =>
        obtain ⟨u, hu, hru⟩ := aPart_run E hy h hl h5 hrr
        refine ⟨u, ?_, hru⟩
        simp [Instr.index, asIntOf, run_underlying (E.array hk), h0.1, h0.2, E.size hy, hu]
      · cases h
    · cases h
  · rename_i l hk
    split at h
    · rename_i h0
      cases hr with | pv _ _ hp =>
      cases hp
      cases hb : l[i.toNat]? with
      | none => simp [hb] at h
      | some b =>
        simp [hb] at h
        subst h
        refine ⟨_, ?_, .pv _ _ (.int _ _)⟩
        have hg : (⟨l.toArray⟩ : ByteArray)[i.toNat]? = some b := by
          have hlt := (List.getElem?_eq_some_iff.1 hb).1
          have hv := (List.getElem?_eq_some_iff.1 hb).2
          rw [getElem?_pos _ _ (by simpa [ByteArray.size] using hlt)]
          simp [ByteArray.getElem_eq_getElem_data, hv]
        simp [Instr.index, asIntOf, run_underlying (E.str hk), h0, hg]
    · cases h
  · cases h

theorem aLen_run {C : Cf} {t : TypeId} {x : SV} {v : Value} {n : Nat} (ty : TypeId) (h : aLen Y t x = some n) (hr : RelS C x v) :
    (Builtin.len_ #[t] ty #[v]).run P C.w = .ok (.int .i64 n) C.w := by
  unfold aLen at h
  cases hk : kindOf Y t with
  | none => simp [hk] at h
  | some k =>
    rw [hk] at h
    cases k with
    | str =>
      cases x <;> try (simp at h; done)
      rename_i p
      cases p <;> simp at h
      rename_i l
      subst h
      cases hr with | pv _ _ hp =>
      cases hp
      have e1 : (⟨l.toArray⟩ : ByteArray).size = l.length := by simp [ByteArray.size]
      simp [Builtin.len_, run_underlying (E.str hk), goInt, e1]
    | array m e =>
      simp at h
      subst h
      simp [Builtin.len_, run_underlying (E.array hk), goInt]
    | slice e =>
      by_cases hb : ∃ k off n st, x = .bsl k off n st
      · obtain ⟨k, off, n', st, rfl⟩ := hb
        simp at h
        subst h
        cases hr with | bsl _ _ _ _ cap cs g hH hG hcap =>
        simp [Builtin.len_, run_underlying (E.slice hk), goInt]
      · by_cases hm : x = .pv .empS
        · subst hm
          simp at h
          subst h
          cases hr with | pv _ _ hp =>
          cases hp
          simp [Builtin.len_, run_underlying (E.slice hk), goInt]
        by_cases hd : ∃ q, x = .pv (.hdr q)
        · obtain ⟨q, rfl⟩ := hd
          simp at h
          subst h
          cases hr with | pv _ _ hp =>
          cases hp
          simp [Builtin.len_, run_underlying (E.slice hk), goInt]
        have h' : (sliceElems x).map (·.length) = some n := by
          cases x <;> first | exact h | exact absurd ⟨_, _, _, _, rfl⟩ hb | (rename_i p; cases p <;> first | exact h | exact absurd rfl hm | exact absurd ⟨_, rfl⟩ hd)
        cases hx : sliceElems x with
        | none => simp [hx] at h'
        | some es =>
          simp [hx] at h'
          subst h'
          rcases slice_elems hr hx with ⟨rfl, rfl, _⟩ | ⟨s, hp, _⟩
          · simp [Builtin.len_, run_underlying (E.slice hk), goInt]
          · cases hp
            simp [Builtin.len_, run_underlying (E.slice hk), goInt]
    | _ => simp at h

end
end Go.Pm
