/- More of the interpreter's operations held against the model's: slice expressions, composite literals, comparisons. -/
import Derived.Test.YtkckpmcpmngiiaaGreatDoorPmOps2
namespace Go.Pm

theorem aBound_run {P : Program} {C : Cf} {ρ : Operand → Option SV} {ev : Operand → Value} (hr : Eval C ρ ev) {d n y : Nat} {o : Option Operand} (code : BoundsCode)
    (h : aBound d ρ o = some n) (hy : n ≤ y) (w : World) : (match o.map ev with | some v => Instr.sliceBound v y code | none => Pure.pure d).run P w = .ok n w := by
  unfold aBound at h
  cases o with
  | none => simp at h; subst h; simp
  | some o =>
    simp only at h
    split at h
    · rename_i k i hρ
      split at h
      · rename_i h0
        cases h
        have := hr o _ hρ
        simp only [Option.map_some]
        generalize ev o = vv at *
        cases this with | pv _ _ hp =>
        cases hp
        have h1 : i ≤ (y : Int) := by omega
        exact run_sliceBound w k i y code h0 h1
      · cases h
    · cases h

theorem bounds_run {P : Program} {C : Cf} {ρ : Operand → Option SV} {ev : Operand → Value} (hr : Eval C ρ ev) (sl : Bool) {len cap a b : Nat} {lo hi : Option Operand}
    (h1 : aBound 0 ρ lo = some a) (h2 : aBound len ρ hi = some b) (hab : a ≤ b) (hb : b ≤ cap) (w : World) :
    (Instr.sliceBounds sl len cap (lo.map ev) (hi.map ev) none).run P w = .ok (a, b, cap) w := by
  have e1 := aBound_run (P := P) hr (y := b) (if false then .slice3C else .sliceB) h1 hab w
  have e2 := aBound_run (P := P) hr (y := cap) (if sl then .sliceAcap else .sliceAlen) h2 hb w
  unfold Instr.sliceBounds
  cases lo <;> cases hi <;> simp_all

theorem aBound_some {ρ : Operand → Option SV} {d n : Nat} {o : Option Operand} (h : aBound d ρ o = some n) : o = none ∧ n = d ∨ o.isSome := by
  cases o with
  | none => simp [aBound] at h; exact .inl ⟨rfl, h.symm⟩
  | some o => exact .inr rfl

section
variable {P : Program} {Y : TypeId → Option Ty} (E : Env P Y)
include E

theorem aSub_run {C : Cf} {ρ : Operand → Option SV} {ev : Operand → Value} (hρ : Eval C ρ ev) {t e : TypeId} {st : Nat} {es : List (List PV)} {s : SV} {v : Value} {lo hi : Option Operand}
    (hk : kindOf Y t = some (.slice e)) (hp : RelP C.w C.S (.slice st es) v) (h : aSub Y e st es (aBound 0 ρ lo) (aBound es.length ρ hi) = some s) :
    ∃ u, (Instr.sliceAt t v (lo.map ev) (hi.map ev) none).run P C.w = .ok u C.w ∧ RelS C s u := by
  unfold aSub at h
  split at h
  · rename_i y a b hy h1 h2
    split at h
    · rename_i hc
      obtain ⟨rfl, hab, hb⟩ := hc
      cases h
      cases hp with | slice _ _ blk off cap u hcap hs hS hcl hrp =>
      have hb' := bounds_run (P := P) hρ true h1 h2 hab (Nat.le_trans hb hcap) C.w
      have hr := RelP.drop_take (w := C.w) (S := C.S) (cap := cap) hs hS hcl hrp a b hab hb hcap (if cap = a then off else off + a * y.size) (fun hlt => by rw [if_neg (by omega)])
      refine ⟨_, ?_, .pv _ _ hr⟩
      simp only [Instr.sliceAt, Sem.run_bind, run_underlying (E.slice hk), Result.andThen_ok, Instr.slice, hb', E.size hy, Sem.run_pure]
      congr 2
      by_cases hca : cap = a
      · simp [hca]
      · simp [hca, Addr.add_lit]
    · cases h
  · cases h

theorem aFull_run {C : Cf} {ρ : Operand → Option SV} {ev : Operand → Value} (hρ : Eval C ρ ev) {t e : TypeId} {st : Nat} {es : List (List PV)} {s : SV} {v : Value} {hi mx : Option Operand}
    (hk : kindOf Y t = some (.slice e)) (hp : RelP C.w C.S (.slice st es) v) (h : aFull Y e st es (aBound 0 ρ hi) (aBound 0 ρ mx) = some s) :
    ∃ u, (Instr.sliceAt t v none (hi.map ev) (mx.map ev)).run P C.w = .ok u C.w ∧ RelS C s u := by
  unfold aFull at h
  split at h
  · rename_i y b c hy h1 h2
    split at h
    · rename_i hc
      obtain ⟨rfl, rfl, rfl, h0⟩ := hc
      cases h
      cases hp with | slice _ _ blk off cap u hcap hs hS hcl hrp =>
      cases hi with
      | none => simp [aBound] at h1; omega
      | some oh =>
        cases mx with
        | none => simp [aBound] at h2; omega
        | some om =>
          have e1 := aBound_run (P := P) hρ (y := cap) .slice3Acap h2 hcap C.w
          have e2 := aBound_run (P := P) hρ (y := es.length) .slice3B h1 (Nat.le_refl _) C.w
          simp only [Option.map_some] at e1 e2
          have hb : (Instr.sliceBounds true es.length cap none (some (ev oh)) (some (ev om))).run P C.w = .ok (0, es.length, es.length) C.w := by
            unfold Instr.sliceBounds
            simp [e1, e2]
          refine ⟨.slice (some ⟨blk, off, none⟩) es.length es.length, ?_, .tight _ es blk off (.slice _ es blk off es.length u (Nat.le_refl _) hs hS hcl hrp)⟩
          simp only [Instr.sliceAt, Option.map_some, Sem.run_bind, run_underlying (E.slice hk), Result.andThen_ok, Instr.slice, hb, E.size hy, Sem.run_pure]
          rw [if_neg (by omega)]
          simp [Addr.add_lit]
    · cases h
  · cases h

theorem aSlice_run {C : Cf} {ρ : Operand → Option SV} {ev : Operand → Value} (hρ : Eval C ρ ev) {t : TypeId} {x s : SV} {v : Value} {lo hi mx : Option Operand}
    (h : aSlice Y t x ρ lo hi mx = some s) (hr : RelS C x v) : ∃ u, (Instr.sliceAt t v (lo.map ev) (hi.map ev) (mx.map ev)).run P C.w = .ok u C.w ∧ RelS C s u := by
  unfold aSlice at h
  split at h
  · unfold aSlice3 at h
    split at h
    · rename_i e st es hk
      cases hr with | pv _ _ hp => exact aFull_run E hρ hk hp h
    · rename_i e _ _ st es hk
      cases hr with | own _ _ _ _ _ _ _ _ hH hG hv hp _ => exact aFull_run E hρ hk hp h
    · rename_i e st es hk
      cases hr with | tight _ _ _ _ hp => exact aFull_run E hρ hk hp h
    · cases h
  · rename_i hmx
    have : mx = none := by cases mx <;> simp at hmx ⊢
    subst this
    simp only [Option.map_none]
    split at h
    · rename_i l hk
      split at h
      · rename_i a b h1 h2
        split at h
        · rename_i hc
          cases h
          cases hr with | pv _ _ hp =>
          cases hp
          have e1 : (⟨l.toArray⟩ : ByteArray).size = l.length := by simp [ByteArray.size]
          have hb' := bounds_run (P := P) hρ false (len := (⟨l.toArray⟩ : ByteArray).size) (cap := (⟨l.toArray⟩ : ByteArray).size) h1 (by rw [e1]; exact h2) hc.1 (by rw [e1]; exact hc.2) C.w
          refine ⟨_, ?_, .pv _ _ (.str _)⟩
          simp only [Instr.sliceAt, Sem.run_bind, run_underlying (E.str hk), Result.andThen_ok, Instr.slice, hb', Sem.run_pure, Option.isSome_none, Bool.false_eq_true, if_false]
          rw [Lib.extract_eq]
          simp [List.drop_take]
        · cases h
      · cases h
    · rename_i e hk
      split at h
      · rename_i y hy h1 h2
        cases h
        cases hr with | pv _ _ hp =>
        cases hp
        have hb' := bounds_run (P := P) hρ true (len := 0) (cap := 0) h1 h2 (Nat.le_refl _) (Nat.le_refl _) C.w
        refine ⟨_, ?_, .pv _ _ .nilSlice⟩
        simp [Instr.sliceAt, run_underlying (E.slice hk), Instr.slice, hb', E.size hy]
      · cases h
    · rename_i e st es hk
      cases hr with | pv _ _ hp => exact aSub_run E hρ hk hp h
    · rename_i e _ _ st es hk
      cases hr with | own _ _ _ _ _ _ _ _ hH hG hv hp _ => exact aSub_run E hρ hk hp h
    · rename_i e st es hk
      cases hr with | tight _ _ _ _ hp => exact aSub_run E hρ hk hp h
    · rename_i e k off len st hk
      split at h
      · rename_i y a b hy h1 h2
        split at h
        · rename_i hc
          obtain ⟨hab, hb, hst, hlt⟩ := hc
          cases h
          cases hr with | bsl _ _ _ _ cap cs g hH hG hcap =>
          have hb' := bounds_run (P := P) hρ true h1 h2 hab (Nat.le_trans hb hcap) C.w
          have hoff : (if cap = a then off else off + a * st) = off + a * st := by
            split
            · rename_i e1
              have : a = 0 := by omega
              subst this; simp
            · rfl
          refine ⟨.slice (some ⟨g.blk, off + a * st, none⟩) (b - a) (cap - a), ?_, .bsl k (off + a * st) (b - a) st (cap - a) cs g hH hG (by omega)⟩
          simp only [Instr.sliceAt, Sem.run_bind, run_underlying (E.slice hk), Result.andThen_ok, Instr.slice, hb', E.size hy, Sem.run_pure]
          congr 2
          rw [← hoff, ← hst]
          by_cases hca : cap = a
          · simp [hca]
          · simp [hca, Addr.add_lit]
        · cases h
      · cases h
    · rename_i n e k off hk
      split at h
      · rename_i y b hy h1 h2
        split at h
        · rename_i hb
          cases h
          cases hr with | ptr _ _ cs g hH hG =>
          have hb' := bounds_run (P := P) hρ false h1 h2 (Nat.zero_le _) hb C.w
          refine ⟨.slice (some ⟨g.blk, off, none⟩) b n, ?_, .bsl k off b y.size n cs g hH hG hb⟩
          simp only [Instr.sliceAt, Sem.run_bind, run_underlying (E.array hk), Result.andThen_ok, Instr.sureAddr, Sem.run_pure, hb', E.size hy]
          by_cases hn : n = 0
          · subst hn; simp
          · simp [hn, Addr.add_lit]
        · cases h
      · cases h
    · cases h
end
end Go.Pm
