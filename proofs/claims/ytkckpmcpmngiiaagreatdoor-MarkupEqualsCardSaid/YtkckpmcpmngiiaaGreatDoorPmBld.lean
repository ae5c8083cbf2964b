/- strings.Builder: its check, and its string. -/
import Derived.Test.YtkckpmcpmngiiaaGreatDoorPmX
import Derived.Lib.UnsafeStr
set_option linter.unusedSimpArgs false
set_option linter.unusedVariables false
namespace Go.Pm

/-- The check of a builder in its place: at a fresh one it lays the builder's own address. -/
def copyF (T : TypeId) : List SV → List Blk → Option (SV × List Blk)
  | [.ptr k 0], H => match H[k]? with
    | some (.box (some t) [.pv .nilPtr, x]) => if t = T then some (.undef, H.set k (.box (some t) [.ptr k 0, x])) else none
    | some (.box _ [.ptr k' 0, x]) => if k' = k then some (.undef, H) else none
    | _ => none
  | _, _ => none

theorem rel_args1 {C : Cf} {k : Nat} {vs : List Value} (hr : RelL C [.ptr k 0] vs) : ∃ (t : Option TypeId) (cs : List SV) (g : GB), C.H[k]? = some (.box t cs) ∧ C.G[k]? = some g ∧ vs = [.pointer (some ⟨g.blk, 0, none⟩)] := by
  obtain ⟨u, us, rfl, h1, h2⟩ := hr.uncons
  have : us = [] := by have := h2.1; simpa using this
  subst this
  cases h1 with | ptr _ _ cs g hH hG => exact ⟨_, cs, g, hH, hG, rfl⟩

theorem meets_copy {P : Program} {W0 : World} {f : FuncId} {T : TypeId}
    (hused : ∀ (b : Nat) (w : World), w.cell? ⟨b, 0, none⟩ = some (.pointer (some ⟨b, 0, none⟩)) → Calls P f #[.pointer (some ⟨b, 0, none⟩)] w fun e w' => e = .returned (.tuple #[]) ∧ w' = w)
    (hfresh : ∀ (b : Nat) (w : World), w.cell? ⟨b, 0, none⟩ = some (.pointer none) → w.shape? b = some (T, 2) → w.frozen? ⟨b, 0, none⟩ = false → Calls P f #[.pointer (some ⟨b, 0, none⟩)] w fun e w' => e = .returned (.tuple #[]) ∧ w' = w.setCell ⟨b, 0, none⟩ (.pointer (some ⟨b, 0, none⟩))) :
    Meets P W0 f (specFn (.heap (copyF T))) := by
  intro C args vs r H' h I J hr
  simp only [specFn] at h
  unfold copyF at h
  split at h
  · rename_i k
    obtain ⟨t0, cs0, g, hH, hG, rfl⟩ := rel_args1 hr
    split at h
    · rename_i t x hk
      split at h
      · rename_i ht
        subst ht
        cases h
        rw [hH] at hk; cases hk
        obtain ⟨arr, hg, hsz⟩ := I.boxT k t _ g hH hG
        obtain ⟨arr', T', hg', _, hrel, _⟩ := I.box k _ g hH hG
        rw [hg] at hg'; cases hg'
        have hsz' : arr.size = 2 := hsz
        have a0 : arr[0]? = some arr[0] := by simp [hsz']
        have r0 := hrel 0 (.pv .nilPtr) arr[0] rfl a0
        have e0 : arr[0] = .pointer none := by
          generalize arr[0] = v at r0
          cases r0 with | pv _ _ h => cases h; rfl
        have hc : C.w.cell? ⟨g.blk, 0, none⟩ = some (.pointer none) := by rw [cell_of_row _ _ _ _ _ _ hg, a0, e0]
        have hfz : C.w.frozen? ⟨g.blk, 0, none⟩ = false := by simp [World.frozen?, hg]
        have hsh : C.w.shape? g.blk = some (t, 2) := by simp [World.shape?, hg, hsz']
        have hp : RelS C (.ptr k 0) (.pointer (some ⟨g.blk, 0, none⟩)) := .ptr k 0 _ g hH hG
        obtain ⟨C', hrun, hH2, I2, E2⟩ := writeBox (P := P) (off := 0) I hH hG (vs := [.ptr k 0]) (ws := [.pointer (some ⟨g.blk, 0, none⟩)]) (RelL.cons hp (RelL.nil C)) (by
          intro j c hj
          cases j with
          | zero => simp at hj; subst hj; rfl
          | succ j => simp at hj) (by simp)
        have hw : C'.w = C.w.setCell ⟨g.blk, 0, none⟩ (.pointer (some ⟨g.blk, 0, none⟩)) := by
          have hst : (store ((⟨g.blk, 0, none⟩ : Addr).add 0) (.pointer (some ⟨g.blk, 0, none⟩))).run P C.w = .ok () (C.w.setCell ⟨g.blk, 0, none⟩ (.pointer (some ⟨g.blk, 0, none⟩))) := by
            rw [show (⟨g.blk, 0, none⟩ : Addr).add 0 = ⟨g.blk, 0, none⟩ from by rw [Addr.add_lit], run_store P C.w _ _ _ rfl, hc]
            simp [hfz]
          simp only [storeCells, Sem.run_bind, hst, Result.andThen_ok, Sem.run_pure] at hrun
          injection hrun with _ e
          exact e.symm
        refine (hfresh g.blk C.w hc hsh hfz).mono ?_
        rintro e w' ⟨rfl, rfl⟩
        exact ⟨_, C', rfl, hw, hH2, I2, E2, undef_rel _⟩
      · cases h
    · rename_i t k' x hk
      split at h
      · rename_i hkk
        subst hkk
        cases h
        rw [hH] at hk; cases hk
        obtain ⟨arr, T', hg, hsz, hrel, _⟩ := I.box k' _ g hH hG
        have hsz' : 2 ≤ arr.size := hsz
        have a0 : arr[0]? = some arr[0] := by simp [show 0 < arr.size by omega]
        have r0 := hrel 0 (.ptr k' 0) arr[0] rfl a0
        have e0 : arr[0] = .pointer (some ⟨g.blk, 0, none⟩) := by
          generalize arr[0] = v at r0
          cases r0 with | ptr _ _ cs g' hH' hG' => rw [hG] at hG'; cases hG'; rfl
        have hc : C.w.cell? ⟨g.blk, 0, none⟩ = some (.pointer (some ⟨g.blk, 0, none⟩)) := by rw [cell_of_row _ _ _ _ _ _ hg, a0, e0]
        refine (hused g.blk C.w hc).mono ?_
        rintro e w' ⟨rfl, rfl⟩
        exact ⟨_, C, rfl, rfl, rfl, I, Evo.refl C, undef_rel _⟩
      · cases h
    · cases h
  · cases h

theorem froze_heap (w : World) (b n k : Nat) {arr : Array Value} {e : TypeId} {fz : Nat × Nat} (hb : w.heap[b]? = some (.cells arr e fz)) :
    ∃ fz', (w.freeze ⟨b, 0, none⟩ n).heap[b]? = some (.cells arr e fz') ∧ (fz'.2 ≤ max fz.2 n) := by
  unfold World.freeze
  split
  · exact ⟨fz, hb, by omega⟩
  · obtain ⟨lo, hi⟩ := fz
    simp only [Array.getElem?_modify, hb]
    simp only [if_pos, Option.map_some]
    refine ⟨_, rfl, ?_⟩
    split
    · simp; omega
    · simp
theorem froze_other (w : World) (b n k : Nat) (h : k ≠ b) : (w.freeze ⟨b, 0, none⟩ n).heap[k]? = w.heap[k]? := by
  unfold World.freeze
  split
  · rfl
  · simp only [Array.getElem?_modify]
    rw [if_neg (fun e => h e.symm)]

/-- A token's head is frozen. -/
theorem freeze_good {C : Cf} (I : Inv C) {k v : Nat} {e : TypeId} {g : GB} (h5 : e = 5) (hH : C.H[k]? = some (.tok v e)) (hG : C.G[k]? = some g) {n : Nat} (hn : n ≤ g.len * g.stride) :
    Inv (C.on (C.w.drew.freeze ⟨g.blk, 0, none⟩ n)) ∧ Evo C (C.on (C.w.drew.freeze ⟨g.blk, 0, none⟩ n)) := by
  obtain ⟨arr, ⟨fz, hg, hfz, -⟩, h3, h4⟩ := I.tok k v e g hH hG
  have hgd : C.w.drew.heap[g.blk]? = some (.cells arr e fz) := hg
  obtain ⟨fz', hg', hfz'⟩ := froze_heap C.w.drew g.blk n k hgd
  have oth : ∀ b, b ≠ g.blk → (C.w.drew.freeze ⟨g.blk, 0, none⟩ n).heap[b]? = C.w.heap[b]? := fun b hb => froze_other C.w.drew g.blk n b hb
  have hsz : (C.w.drew.freeze ⟨g.blk, 0, none⟩ n).heap.size = C.w.heap.size := by
    unfold World.freeze; split
    · rfl
    · simp only [Array.size_modify]; rfl
  have cell : ∀ b o, (C.w.drew.freeze ⟨g.blk, 0, none⟩ n).cell? ⟨b, o, none⟩ = C.w.cell? ⟨b, o, none⟩ := by
    intro b o
    by_cases hb : b = g.blk
    · subst hb; rw [cell_of_row _ _ _ _ _ _ hg', cell_of_row _ _ _ _ _ _ hg]
    · simp only [World.cell?, oth b hb]
  have EV : Evo C (C.on (C.w.drew.freeze ⟨g.blk, 0, none⟩ n)) := by
    have hos : (C.w.drew.freeze ⟨g.blk, 0, none⟩ n).os = C.w.os ∧ (C.w.drew.freeze ⟨g.blk, 0, none⟩ n).tape = C.w.tape ∧ (C.w.drew.freeze ⟨g.blk, 0, none⟩ n).output = C.w.output := by
      unfold World.freeze; split <;> exact ⟨rfl, rfl, rfl⟩
    refine ⟨hos.1, hos.2.1, hos.2.2, Nat.le_of_eq hsz.symm, fun _ _ h => h, fun b o _ => cell b o, fun b hb hnb => oth b (fun e => hnb k g hG e.symm), fun i gi h => .inr ⟨i, gi, h, rfl⟩, fun _ _ h => .inl h,
      fun i cs gi h1 h2 => ⟨⟨cs, h1, rfl⟩, h2⟩, fun i v' e' gi h1 h2 => ⟨v', gi, h1, Nat.le_refl _, h2, fun _ => rfl⟩⟩
  have ne : ∀ {i : Nat} {gi : GB} {b : Blk}, C.H[i]? = some b → b ≠ .hole → i ≠ k → C.G[i]? = some gi → gi.blk ≠ g.blk := fun {i gi b} h1 h2 h3 h4 =>
    I.dis i k gi g h3 (by rw [h1]; intro e; exact h2 (Option.some.inj e)) (by rw [hH]; simp) h4 hG
  refine ⟨⟨I.len, fun b o hs => by show b < (C.w.drew.freeze ⟨g.blk, 0, none⟩ n).heap.size; rw [hsz]; exact I.inb b o hs, ?_, I.boxS, ?_, I.tokS, ?_, I.dis⟩, EV⟩
  · intro t i cs gi h1 h2
    obtain ⟨a, T', b1, b2, b3, b4⟩ := I.box i cs gi h1 h2
    have hne : i ≠ k := by intro e; subst e; rw [hH] at h1; cases h1
    exact ⟨a, T', (oth _ (ne h1 (by simp) hne h2)).trans b1, b2, fun j c u x1 x2 => EV.rel (b3 j c u x1 x2), b4⟩
  · intro i v' e' gi h1 h2
    by_cases hik : i = k
    · subst hik
      rw [hH] at h1; cases h1
      rw [hG] at h2; cases h2
      exact ⟨arr, ⟨fz', hg', by omega, fun hn => absurd h5 hn⟩, h3, h4⟩
    · obtain ⟨a, ⟨f1, b1, b0⟩, b2⟩ := I.tok i v' e' gi h1 h2
      exact ⟨a, ⟨f1, (oth _ (ne h1 (by simp) hik h2)).trans b1, b0⟩, b2⟩
  · intro i t cs gi h1 h2
    obtain ⟨a, b1, b2⟩ := I.boxT i t cs gi h1 h2
    have hne : i ≠ k := by intro e; subst e; rw [hH] at h1; cases h1
    exact ⟨a, (oth _ (ne h1 (by simp) hne h2)).trans b1, b2⟩

def byteOf : List PV → Option UInt8
  | [.int .u8 n] => if 0 ≤ n ∧ n ≤ 255 then some (UInt8.ofNat n.toNat) else none
  | _ => none
def bytesB : List (List PV) → Option (List UInt8)
  | [] => some []
  | c :: r => match byteOf c with
    | some b => match bytesB r with
      | some bs => some (b :: bs)
      | none => none
    | none => none
theorem bytesB_row : ∀ (bs : List UInt8), bytesB (bs.map fun c => [PV.int .u8 c.toNat]) = some bs
  | [] => rfl
  | c :: r => by
    have h : (c.toNat : Int) ≤ 255 := by have := c.toNat_lt; omega
    have h2 : (0 : Int) ≤ (c.toNat : Int) := by omega
    simp [bytesB, byteOf, h, bytesB_row r]
theorem bytesB_len : ∀ {es : List (List PV)} {bs : List UInt8}, bytesB es = some bs → bs.length = es.length
  | [], bs, h => by cases h; rfl
  | c :: r, bs, h => by
    simp only [bytesB] at h
    split at h
    · split at h
      · rename_i hb; cases h; simp [bytesB_len hb]
      · cases h
    · cases h
theorem bytesB_get : ∀ {es : List (List PV)} {bs : List UInt8}, bytesB es = some bs → ∀ (j : Nat) (x : UInt8), bs[j]? = some x → es[j]? = some [PV.int .u8 x.toNat]
  | [], bs, h, j, x, hj => by cases h; simp at hj
  | c :: r, bs, h, j, x, hj => by
    simp only [bytesB] at h
    split at h
    · rename_i b hb
      split at h
      · rename_i bs' hbs
        cases h
        cases j with
        | succ j => simp at hj ⊢; exact bytesB_get hbs j x hj
        | zero =>
          simp at hj ⊢; subst hj
          unfold byteOf at hb
          split at hb
          · split at hb
            · rename_i n hn
              cases hb
              have : (UInt8.ofNat n.toNat).toNat = n.toNat := by simp; omega
              rw [this]; congr; omega
            · cases hb
          · cases hb
      · cases h
    · cases h

/-- A builder's string. -/
def stringF (TB : TypeId) : List SV → List Blk → Option (SV × List Blk)
  | [.ptr k 0], H => match H[k]? with
    | some (.box _ [_, .pv .nilSlice]) => some (.str [], H)
    | some (.box _ [_, .own kt v 1 es]) => match H[kt]? with
      | some (.tok v' e) => if v = v' ∧ e = TB ∧ es ≠ [] then (match bytesB es with
        | some bs => some (.str bs, H)
        | none => none) else none
      | _ => none
    | _ => none
  | _, _ => none
theorem meets_string {P : Program} {W0 : World} {f : FuncId} {TB : TypeId} (h5 : TB = 5)
    (hnil : ∀ (b : Nat) (w : World), w.cell? ⟨b, 1, none⟩ = some (.slice none 0 0) → Calls P f #[.pointer (some ⟨b, 0, none⟩)] w fun e w' => e = .returned (.string ⟨#[]⟩) ∧ w' = w.drew)
    (hrow : ∀ (b g cap : Nat) (l : List UInt8) (w : World), l ≠ [] → w.cell? ⟨b, 1, none⟩ = some (.slice (some ⟨g, 0, none⟩) l.length cap) → l.length ≤ cap → cap ≤ maxLen →
      (∀ (j : Nat) (x : UInt8), l[j]? = some x → w.cell? ⟨g, j, none⟩ = some (.int .u8 x.toNat)) → (∃ n, w.shape? g = some (TB, n) ∧ l.length ≤ n) →
      Calls P f #[.pointer (some ⟨b, 0, none⟩)] w fun e w' => e = .returned (.string ⟨l.toArray⟩) ∧ w' = w.drew.freeze ⟨g, 0, none⟩ l.length) :
    Meets P W0 f (specFn (.heap (stringF TB))) := by
  intro C args vs r H' h I J hr
  simp only [specFn] at h
  unfold stringF at h
  split at h
  · rename_i k
    obtain ⟨t0, cs0, g, hH, hG, rfl⟩ := rel_args1 hr
    have at1 : ∀ {t : Option TypeId} {x y : SV}, C.H[k]? = some (.box t [x, y]) → ∃ v, C.w.cell? ⟨g.blk, 1, none⟩ = some v ∧ RelS C y v := fun {t x y} hk => by
      obtain ⟨arr, T', hg, hsz, hrel, _⟩ := I.box k _ g hk hG
      have hsz' : 2 ≤ arr.size := hsz
      have a1 : arr[1]? = some arr[1] := by simp [show 1 < arr.size by omega]
      exact ⟨arr[1], by rw [cell_of_row _ _ _ _ _ _ hg, a1], hrel 1 y arr[1] rfl a1⟩
    split at h
    · rename_i t x hk
      cases h
      obtain ⟨v, hc, hv⟩ := at1 hk
      cases hv with | pv _ _ hv =>
      cases hv
      refine (hnil g.blk C.w hc).mono ?_
      rintro e w' ⟨rfl, rfl⟩
      refine ⟨_, C.on C.w.drew, rfl, rfl, rfl, drawn_inv I _, drawn_evo C _, .pv _ _ (.str [])⟩
    · rename_i t x kt v es hk
      split at h
      · rename_i v' e hkt
        split at h
        · rename_i hve
          obtain ⟨rfl, rfl, hne⟩ := hve
          split at h
          · rename_i bs hbs
            cases h
            obtain ⟨u, hc, hu⟩ := at1 hk
            cases hu with | own _ _ _ _ vc e0 gt _ hHt hGt hv hp hcur =>
            rw [hkt] at hHt; cases hHt
            obtain ⟨rfl, hgl, hgs⟩ := hcur rfl
            obtain ⟨arr, ⟨fz, hgb, hfz, -⟩, hasz, hglc, hgm⟩ := I.tok kt _ _ gt hkt hGt
            have hbl := bytesB_len hbs
            have hbn : bs ≠ [] := by intro e; subst e; simp at hbl; exact hne (List.length_eq_zero_iff.1 hbl.symm)
            refine (hrow g.blk gt.blk gt.cap bs C.w hbn (by rw [hbl]; exact hc) (by rw [hbl, ← hgl]; exact hglc) hgm (fun j x hj => ?_) ⟨arr.size, by simp [World.shape?, hgb], by rw [hbl, ← hgl, hasz, hgs]; omega⟩).mono ?_
            · have hej := bytesB_get hbs j x hj
              cases hp with | slice _ _ _ _ _ u hcap hs hS hc' hr' =>
              have h1 := hc' j _ 0 _ hej rfl
              have h2 := hr' j _ 0 _ hej rfl
              simp at h1
              cases hu : u j 0 <;> rw [hu] at h2 <;> cases h2
              rw [h1, hu]
            · rintro e w' ⟨rfl, rfl⟩
              obtain ⟨I2, E2⟩ := freeze_good I h5 hkt hGt (n := bs.length) (by rw [hbl, hgl, hgs]; omega)
              exact ⟨_, C.on (C.w.drew.freeze ⟨gt.blk, 0, none⟩ bs.length), rfl, rfl, rfl, I2, E2, .pv _ _ (.str bs)⟩
          · cases h
        · cases h
      · cases h
    · cases h
  · cases h
end Go.Pm
