/- Composite literals. -/
import Derived.Test.YtkckpmcpmngiiaaGreatDoorPmOps3
namespace Go.Pm

def setV : List Value → Nat → List Value → List Value
  | us, _, [] => us
  | us, i, v :: r => setV (us.set i v) (i + 1) r

theorem setCells_rel {C : Cf} : ∀ {vs : List SV} {ws : List Value} {cs : List SV} {us : List Value} (off : Nat), RelL C cs us → RelL C vs ws → RelL C (setCells cs off vs) (setV us off ws)
  | [], ws, cs, us, off, h, h' => by
    have : ws = [] := by simpa using h'.1
    subst this; exact h
  | v :: r, ws, cs, us, off, h, h' => by
    obtain ⟨w, ws', rfl, h1, h2⟩ := h'.uncons
    exact setCells_rel (off + 1) (h.set off h1) h2

theorem setCells_length : ∀ (vs : List SV) (cs : List SV) (off : Nat), (setCells cs off vs).length = cs.length
  | [], _, _ => rfl
  | v :: r, cs, off => by rw [setCells, setCells_length]; simp

theorem setCells_one : ∀ (vs : List SV) (cs : List SV) (off : Nat), (∀ (j : Nat) (c : SV), cs[j]? = some c → c.one = true) → (∀ (j : Nat) (c : SV), vs[j]? = some c → c.one = true) →
    ∀ (j : Nat) (c : SV), (setCells cs off vs)[j]? = some c → c.one = true
  | [], cs, off, h, _ => h
  | v :: r, cs, off, h, h' => by
    refine setCells_one r (cs.set off v) (off + 1) (fun j c hj => ?_) (fun j c hj => h' (j + 1) c (by simpa using hj))
    rw [List.getElem?_set] at hj
    split at hj
    · split at hj
      · cases hj; exact h' 0 v rfl
      · cases hj
    · exact h j c hj

theorem fold_setV : ∀ (ws : List Value) (n off : Nat) (us : List Value),
    ((ws.zipIdx n).foldl (fun (cs : Array Value) (p : Value × Nat) => cs.setIfInBounds (off + p.2) p.1) us.toArray) = (setV us (off + n) ws).toArray
  | [], _, _, _ => rfl
  | w :: r, n, off, us => by
    simp only [List.zipIdx_cons, List.foldl_cons, setV]
    rw [show us.toArray.setIfInBounds (off + n) w = (us.set (off + n) w).toArray by simp, fold_setV r (n + 1) off (us.set (off + n) w)]
    rfl

theorem cellsOf_rel {C : Cf} {x : SV} {v : Value} {vs : List SV} (h : cellsOf x = some vs) (hr : RelS C x v) :
    RelL C vs v.cells.toList ∧ ∀ (j : Nat) (c : SV), vs[j]? = some c → c.one = true := by
  have one : ∀ (y : SV), y.one = true → y = x → vs = [y] → RelL C vs v.cells.toList ∧ ∀ (j : Nat) (c : SV), vs[j]? = some c → c.one = true := by
    intro y hy hx hv
    subst hx; subst hv
    have h1 := hr.oneV hy
    have : v.cells = #[v] := by cases v <;> first | rfl | simp [Value.oneCell'] at h1
    rw [this]
    refine ⟨RelL.cons hr (RelL.nil C), fun j c hj => ?_⟩
    cases j with
    | zero => simp at hj; subst hj; exact hy
    | succ j => simp at hj
  unfold cellsOf at h
  split at h
  · cases h
    cases hr with | agg _ us hl h1 h2 =>
    simp only [Value.cells]
    exact ⟨⟨hl, h2⟩, h1⟩
  · cases h
  · cases h
  · rename_i h1 h2 h3
    cases h
    refine one x ?_ rfl rfl
    cases x <;> first | rfl | exact absurd rfl (h1 _) | exact absurd rfl (h2 _) | exact absurd rfl (h3 _ _ _)

theorem layAll_run {C : Cf} {ρ : Operand → Option SV} {ev : Operand → Value} (hρ : Eval C ρ ev) {pl place : Nat → Option (Nat × Nat)} (hpl : ∀ i p, pl i = some p → place i = some p) :
    ∀ (parts : List (Nat × Operand)) (cs cs' : List SV) (us : List Value), layAll pl ρ cs parts = some cs' → RelL C cs us → (∀ (j : Nat) (c : SV), cs[j]? = some c → c.one = true) →
      ∃ us', Instr.fill place us.toArray (parts.map fun p => (p.1, ev p.2)) = some us'.toArray ∧ RelL C cs' us' ∧ (∀ (j : Nat) (c : SV), cs'[j]? = some c → c.one = true)
  | [], cs, cs', us, h, hr, h1 => by
    simp [layAll] at h; subst h
    exact ⟨us, by simp [Instr.fill], hr, h1⟩
  | (i, o) :: r, cs, cs', us, h, hr, h1 => by
    simp only [layAll] at h
    split at h
    · rename_i off size x hp hx
      split at h
      · rename_i cs1 hl
        unfold lay at hl
        split at hl
        · rename_i vs hvs
          split at hl
          · rename_i hc
            cases hl
            obtain ⟨h2, h3⟩ := cellsOf_rel hvs (hρ o x hx)
            have hsz : (ev o).cells.size = size := by rw [← hc.1, ← h2.1]; simp
            obtain ⟨us', h4, h5, h6⟩ := layAll_run hρ hpl r _ _ _ h (setCells_rel off hr h2) (setCells_one vs cs off h1 h3)
            refine ⟨us', ?_, h5, h6⟩
            simp only [List.map_cons, Instr.fill, hpl i _ hp]
            have hle : ¬ (off + (ev o).cells.size > us.toArray.size) := by rw [hsz]; have := hr.1; simp; omega
            have hf : (ev o).cells.zipIdx.foldl (fun cs x => cs.setIfInBounds (off + x.2) x.1) us.toArray = (setV us off (ev o).cells.toList).toArray := by
              have := fold_setV (ev o).cells.toList 0 off us
              rw [← Array.foldl_toList]
              simpa using this
            simp only [hsz, ne_eq, not_true_eq_false, decide_false, Bool.false_or, decide_eq_true_eq]
            rw [if_neg (by rw [hsz] at hle; exact hle)]
            rw [← h4]
            congr 1
          · cases hl
        · cases hl
      · cases h
    · cases h

theorem layAll_length {pl : Nat → Option (Nat × Nat)} {ρ : Operand → Option SV} : ∀ (parts : List (Nat × Operand)) (cs cs' : List SV), layAll pl ρ cs parts = some cs' → cs'.length = cs.length
  | [], cs, cs', h => by simp [layAll] at h; rw [h]
  | (i, o) :: r, cs, cs', h => by
    simp only [layAll] at h
    split at h
    · split at h
      · rename_i cs1 hl
        unfold lay at hl
        split at hl
        · split at hl
          · cases hl
            rw [layAll_length r _ _ h, setCells_length]
          · cases hl
        · cases hl
      · cases h
    · cases h

theorem mapM_get {α β : Type} (f : α → Option β) : ∀ (l : List α) {r : List β}, l.mapM f = some r → ∀ (i : Nat) (a : α), l[i]? = some a → r[i]? = f a
  | [], r, _, i, a, hi => by simp at hi
  | x :: l, r, h, i, a, hi => by
    simp only [List.mapM_cons, Option.bind_eq_bind, Option.pure_def] at h
    cases hx : f x with
    | none => simp [hx] at h
    | some y =>
      cases hl : l.mapM f with
      | none => simp [hx, hl] at h
      | some ys =>
        simp [hx, hl] at h
        subst h
        cases i with
        | zero => simp at hi; subst hi; simp [hx]
        | succ i => simp at hi ⊢; exact mapM_get f l hl i a hi

theorem zero_rel {C : Cf} {zs : List PV} {z : Value} (h : pvsAre zs z.cells.toList = true) : RelL C (zs.map SV.pv) z.cells.toList ∧ ∀ (j : Nat) (c : SV), (zs.map SV.pv)[j]? = some c → c.one = true := by
  obtain ⟨h1, h2⟩ := pvsAre_rel (w := C.w) (S := C.S) h
  refine ⟨⟨by simp [h1], fun j c u hj hu => ?_⟩, fun j c hj => ?_⟩
  · rw [List.getElem?_map] at hj
    cases hp : zs[j]? with
    | none => simp [hp] at hj
    | some p => simp [hp] at hj; subst hj; exact .pv _ _ (h2 j p u hp hu)
  · rw [List.getElem?_map] at hj
    cases hp : zs[j]? with
    | none => simp [hp] at hj
    | some p => simp [hp] at hj; subst hj; rfl

section
variable {P : Program} {Y : TypeId → Option Ty} (E : Env P Y)
include E

theorem aBuild_run {C : Cf} {ρ : Operand → Option SV} {ev : Operand → Value} (hρ : Eval C ρ ev) {t : TypeId} {parts : Array (Nat × Operand)} {s : SV}
    (h : aBuild Y t ρ parts.toList = some s) : ∃ u, (Instr.build t (parts.map fun (i, x) => (i, ev x))).run P C.w = .ok u C.w ∧ RelS C s u := by
  unfold aBuild at h
  split at h
  · rename_i fs sz by_ z fl hy
    obtain ⟨d, i, zv, h1, h2, h3, h4, h5, h6, h7, _⟩ := E.spec hy
    cases d <;> simp [TK.fits] at h3
    rename_i fields
    obtain ⟨pl, hpl⟩ := E.places hy h1
    cases hl : layAll (fun i => (fieldOf Y t i).map fun (o, y) => (o, y.size)) ρ (z.map SV.pv) parts.toList with
    | none => simp [hl] at h
    | some cs' =>
      simp [hl] at h
      subst h
      obtain ⟨z1, z2⟩ := zero_rel (C := C) h7
      obtain ⟨us', h8, h9, h10⟩ := layAll_run hρ (place := fun i => pl.toArray[i]?) (fun i p hp => by
        cases hf : fieldOf Y t i with
        | none => simp [hf] at hp
        | some oy =>
          obtain ⟨off, y⟩ := oy
          simp [hf] at hp
          subst hp
          obtain ⟨fields', fd, e1, e2, e3, e4⟩ := E.field hf
          rw [h1] at e1
          cases e1
          obtain ⟨d', i', z', _, e5, _, e6, _⟩ := E.spec e4
          have := mapM_get _ _ hpl i fd (by simpa using e2)
          simp [e5, e3, e6] at this
          simpa using this) parts.toList _ cs' _ hl z1 z2
      refine ⟨_, ?_, .agg cs' us' h9.1 h10 h9.2⟩
      refine run_build C.w t _ _ ?_
      simp only [Program.built, h1, h2, h6, hpl]
      rw [← h8]
      simp
  · rename_i n e sz by_ z fl hy
    obtain ⟨d, i, zv, h1, h2, h3, h4, h5, h6, h7, _⟩ := E.spec hy
    cases d <;> simp [TK.fits] at h3
    obtain ⟨rfl, rfl⟩ := h3
    split at h
    · rename_i y hye
      obtain ⟨d', i', z', _, e5, _, e6, _⟩ := E.spec hye
      cases hl : layAll (fun i => some (i * y.size, y.size)) ρ (z.map SV.pv) parts.toList with
      | none => simp [hl] at h
      | some cs' =>
        simp [hl] at h
        subst h
        obtain ⟨z1, z2⟩ := zero_rel (C := C) h7
        obtain ⟨us', h8, h9, h10⟩ := layAll_run hρ (place := fun i => some (i * y.size, y.size)) (fun i p hp => hp) parts.toList _ cs' _ hl z1 z2
        refine ⟨_, ?_, .agg cs' us' h9.1 h10 h9.2⟩
        refine run_build C.w t _ _ ?_
        simp only [Program.built, h1, h2, h6, e5, e6]
        rw [← h8]
        simp
    · cases h
  · cases h
end
end Go.Pm
