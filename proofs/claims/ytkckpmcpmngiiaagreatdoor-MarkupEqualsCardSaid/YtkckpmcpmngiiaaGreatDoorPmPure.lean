/- The interpreter's operations that touch no heap, held against the model's. -/
import Derived.Test.YtkckpmcpmngiiaaGreatDoorPmRel
namespace Go.Pm

def TK.fits : TK → TypeDesc → Bool
  | .bool, .bool => true
  | .int k, .int k' => k == k'
  | .str, .string => true
  | .ptr, .pointer _ => true
  | .slice e, .slice e' => e == e'
  | .array n e, .array n' e' => n == n' && e == e'
  | .struct fs, .struct fields => fields.toList.map (fun f => (f.offset, f.type)) == fs
  | .iface, .interface _ => true
  | .func, .func _ _ _ => true
  | .tuple, .tuple _ => true
  | _, _ => false

def pvIs : PV → Value → Bool
  | .bool b, .bool b' => b == b'
  | .int k n, .int k' n' => k == k' && n == n'
  | .str [], .string s => s.data.size == 0
  | .nilSlice, .slice none 0 0 => true
  | .nilPtr, .pointer none => true
  | .nilFunc, .nilFunc => true
  | .nilIface, .nilIface => true
  | _, _ => false

def pvsAre : List PV → List Value → Bool
  | [], [] => true
  | p :: ps, v :: vs => pvIs p v && pvsAre ps vs
  | _, _ => false

/-- The kinds of the cells of a type all of whose cells are compared one by one. -/
def flatFields (P : Program) (F : TypeId → Option (List TK)) : Nat → List Field → Option (List TK)
  | _, [] => some []
  | o, f :: fs => if f.name != "_" && f.offset == o then match F f.type with
      | some k => if k.length == P.cellsOf f.type then (flatFields P F (o + k.length) fs).map (k ++ ·) else none
      | none => none
    else none

def flatTy (P : Program) : Nat → TypeId → Option (List TK)
  | 0, _ => none
  | d + 1, t => match P.underlying t with
    | some .bool => some [.bool]
    | some (.int k) => some [.int k]
    | some .string => some [.str]
    | some (.array n e) => match flatTy P d e with
      | some k => if k.length == P.cellsOf e then some (List.replicate n k).flatten else none
      | none => none
    | some (.struct fields) => if P.stoodInHeld t then none else flatFields P (flatTy P d) 0 fields.toList
    | _ => none

def tkEq : TK → TK → Bool
  | .bool, .bool => true
  | .int k, .int k' => k == k'
  | .str, .str => true
  | _, _ => false
def tksEq : List TK → List TK → Bool
  | [], [] => true
  | a :: r, b :: s => tkEq a b && tksEq r s
  | _, _ => false

def tyOk (P : Program) (t : TypeId) (y : Ty) : Bool :=
  match P.underlying t, P.info? t with
  | some d, some i => y.kind.fits d && i.size == y.size && y.zero.length == y.size && i.bytes == y.bytes && (match i.zero with | some z => pvsAre y.zero z.cells.toList | none => false)
      && (y.flat.isEmpty || (match flatTy P 6 t with | some ks => tksEq ks y.flat | none => false)) && (match d with | .struct fields => (fields.toList.mapM (fun f => (P.info? f.type).map fun i => (f.offset, i.size))).isSome | _ => true)
  | _, _ => false

theorem tksEq_eq : ∀ {a b : List TK}, tksEq a b = true → a = b
  | [], [], _ => rfl
  | [], _ :: _, h => by simp [tksEq] at h
  | _ :: _, [], h => by simp [tksEq] at h
  | x :: r, y :: s, h => by
    simp only [tksEq, Bool.and_eq_true] at h
    rw [tksEq_eq h.2]
    congr 1
    cases x <;> cases y <;> simp_all [tkEq]

structure Env (P : Program) (Y : TypeId → Option Ty) : Prop where
  ok : ∀ t y, Y t = some y → tyOk P t y = true

theorem pvIs_rel {w : World} {S : Nat → Nat → Prop} {p : PV} {v : Value} (h : pvIs p v = true) : RelP w S p v := by
  unfold pvIs at h
  split at h
  · simp at h; subst h; exact .bool _
  · simp at h; obtain ⟨rfl, rfl⟩ := h; exact .int _ _
  · rename_i s
    have h1 : s.data.size = 0 := by simpa using h
    have : s = ⟨([] : List UInt8).toArray⟩ := by
      cases s with
      | mk d => simp at h1; subst h1; rfl
    rw [this]; exact .str []
  · exact .nilSlice
  · exact .nilPtr
  · exact .nilFunc
  · exact .nilIface
  · cases h

theorem pvsAre_rel {w : World} {S : Nat → Nat → Prop} : ∀ {ps : List PV} {vs : List Value}, pvsAre ps vs = true →
    vs.length = ps.length ∧ ∀ (j : Nat) (p : PV) (v : Value), ps[j]? = some p → vs[j]? = some v → RelP w S p v
  | [], [], _ => ⟨rfl, fun j p v h => by simp at h⟩
  | [], _ :: _, h => by simp [pvsAre] at h
  | _ :: _, [], h => by simp [pvsAre] at h
  | p :: ps, v :: vs, h => by
    simp [pvsAre] at h
    obtain ⟨h1, h2⟩ := pvsAre_rel (w := w) (S := S) h.2
    refine ⟨by simp [h1], fun j p' v' e1 e2 => ?_⟩
    cases j with
    | zero => simp at e1 e2; subst e1; subst e2; exact pvIs_rel h.1
    | succ j => simp at e1 e2; exact h2 j p' v' e1 e2

section
variable {P : Program} {Y : TypeId → Option Ty} (E : Env P Y)
include E

theorem Env.spec {t : TypeId} {y : Ty} (h : Y t = some y) : ∃ d i z, P.underlying t = some d ∧ P.info? t = some i ∧ y.kind.fits d = true ∧ i.size = y.size ∧ i.bytes = y.bytes ∧
    i.zero = some z ∧ pvsAre y.zero z.cells.toList = true ∧ (y.flat ≠ [] → flatTy P 6 t = some y.flat) := by
  have h1 := E.ok t y h
  unfold tyOk at h1
  cases hu : P.underlying t with
  | none => simp [hu] at h1
  | some d =>
    cases hi : P.info? t with
    | none => simp [hu, hi] at h1
    | some i =>
      cases hz : i.zero with
      | none => simp [hu, hi, hz] at h1
      | some z =>
        simp [hu, hi, hz] at h1
        obtain ⟨⟨⟨⟨⟨⟨h2, h3⟩, _⟩, h4⟩, h5⟩, h6⟩, h7⟩ := h1
        refine ⟨d, i, z, rfl, rfl, h2, h3, h4, hz, h5, fun hf => ?_⟩
        rcases h6 with h6 | h6
        · exact absurd h6 hf
        · split at h6
          · rename_i ks hks; rw [hks, tksEq_eq h6]
          · cases h6

theorem Env.zlen {t : TypeId} {y : Ty} (h : Y t = some y) : y.zero.length = y.size := by
  have h1 := E.ok t y h
  unfold tyOk at h1
  cases hu : P.underlying t with
  | none => simp [hu] at h1
  | some d =>
    cases hi : P.info? t with
    | none => simp [hu, hi] at h1
    | some i =>
      rw [hu, hi] at h1
      simp only [Bool.and_eq_true, beq_iff_eq] at h1
      exact h1.1.1.1.1.2

theorem Env.places {t : TypeId} {y : Ty} {fields : Array Field} (h : Y t = some y) (hu : P.underlying t = some (.struct fields)) :
    ∃ pl, fields.toList.mapM (fun f => (P.info? f.type).map fun i => (f.offset, i.size)) = some pl := by
  have h1 := E.ok t y h
  unfold tyOk at h1
  cases hi : P.info? t with
  | none => simp [hu, hi] at h1
  | some i =>
    rw [hu, hi] at h1
    simp only [Bool.and_eq_true] at h1
    exact Option.isSome_iff_exists.1 h1.2

theorem Env.kind {t : TypeId} {k : TK} (h : kindOf Y t = some k) : ∃ y d, Y t = some y ∧ y.kind = k ∧ P.underlying t = some d ∧ k.fits d = true := by
  unfold kindOf at h
  split at h
  · rename_i y hy
    cases h
    obtain ⟨d, i, z, h1, h2, h3, _⟩ := E.spec hy
    exact ⟨y, d, hy, rfl, h1, h3⟩
  · cases h

theorem Env.slice {t e : TypeId} (h : kindOf Y t = some (.slice e)) : P.underlying t = some (.slice e) := by
  obtain ⟨y, d, _, _, h1, h2⟩ := E.kind h
  rw [h1]; cases d <;> simp [TK.fits] at h2; subst h2; rfl
theorem Env.array {t n e : TypeId} (h : kindOf Y t = some (.array n e)) : P.underlying t = some (.array n e) := by
  obtain ⟨y, d, _, _, h1, h2⟩ := E.kind h
  rw [h1]; cases d <;> simp [TK.fits] at h2; obtain ⟨rfl, rfl⟩ := h2; rfl
theorem Env.str {t : TypeId} (h : kindOf Y t = some .str) : P.underlying t = some .string := by
  obtain ⟨y, d, _, _, h1, h2⟩ := E.kind h
  rw [h1]; cases d <;> simp [TK.fits] at h2; rfl
theorem Env.bool {t : TypeId} (h : kindOf Y t = some .bool) : P.underlying t = some .bool := by
  obtain ⟨y, d, _, _, h1, h2⟩ := E.kind h
  rw [h1]; cases d <;> simp [TK.fits] at h2; rfl
theorem Env.int {t : TypeId} {k : IntKind} (h : kindOf Y t = some (.int k)) : P.underlying t = some (.int k) := by
  obtain ⟨y, d, _, _, h1, h2⟩ := E.kind h
  rw [h1]; cases d <;> simp [TK.fits] at h2; subst h2; rfl
theorem Env.ptr {t : TypeId} (h : kindOf Y t = some .ptr) : ∃ e, P.underlying t = some (.pointer e) := by
  obtain ⟨y, d, _, _, h1, h2⟩ := E.kind h
  rw [h1]; cases d <;> simp [TK.fits] at h2; exact ⟨_, rfl⟩
theorem Env.iface {t : TypeId} (h : kindOf Y t = some .iface) : ∃ e, P.underlying t = some (.interface e) := by
  obtain ⟨y, d, _, _, h1, h2⟩ := E.kind h
  rw [h1]; cases d <;> simp [TK.fits] at h2; exact ⟨_, rfl⟩
theorem Env.func {t : TypeId} (h : kindOf Y t = some .func) : ∃ a b c, P.underlying t = some (.func a b c) := by
  obtain ⟨y, d, _, _, h1, h2⟩ := E.kind h
  rw [h1]; cases d <;> simp [TK.fits] at h2; exact ⟨_, _, _, rfl⟩

theorem Env.isAgg {t : TypeId} {y : Ty} (h : Y t = some y) (w : World) : (isAgg t).run P w = .ok (isAggK y.kind) w := by
  obtain ⟨d, i, z, h1, h2, h3, _⟩ := E.spec h
  unfold Go.isAgg
  simp only [Sem.run_bind, run_underlying h1, Result.andThen_ok]
  cases hk : y.kind <;> cases d <;> simp_all [TK.fits, isAggK]

theorem Env.size {t : TypeId} {y : Ty} (h : Y t = some y) (w : World) : (sizeOf t).run P w = .ok y.size w := by
  obtain ⟨d, i, z, h1, h2, h3, h4, _⟩ := E.spec h
  simp [sizeOf, typeInfo, h2, h4]

theorem Env.zero {t : TypeId} {y : Ty} (h : Y t = some y) (w : World) : ∃ z, (zeroValue t).run P w = .ok z w ∧ pvsAre y.zero z.cells.toList = true := by
  obtain ⟨d, i, z, h1, h2, h3, h4, h5, h6, h7, _⟩ := E.spec h
  exact ⟨z, by simp [zeroValue, typeInfo, h2, h6], h7⟩

theorem Env.field {t : TypeId} {f off : Nat} {y : Ty} (h : fieldOf Y t f = some (off, y)) : ∃ fields fd, P.underlying t = some (.struct fields) ∧ fields[f]? = some fd ∧ fd.offset = off ∧ Y fd.type = some y := by
  unfold fieldOf at h
  split at h
  · rename_i fs sz by_ zr fl hy
    obtain ⟨d, i, z, h1, h2, h3, _⟩ := E.spec hy
    cases d <;> simp [TK.fits] at h3
    rename_i fields
    subst h3
    split at h
    · rename_i o ft hf
      split at h
      · rename_i y' hy'
        cases h
        have : fields.toList[f]? ≠ none := by
          intro hn; simp [hn] at hf
        cases hfd : fields[f]? with
        | none => simp at hfd; simp [hfd] at hf
        | some fd =>
          refine ⟨fields, fd, h1, hfd, ?_, ?_⟩
          · simp [hfd] at hf; exact hf.1
          · simp [hfd] at hf; rw [hf.2]; exact hy'
      · cases h
    · cases h
  · cases h
end

theorem ofV1_rel {C : Cf} {v : Value} {p : PV} (h : ofV1 v = some p) : RelP C.w C.S p v := by
  unfold ofV1 at h
  split at h <;> cases h
  · exact .bool _
  · exact .int _ _
  · rename_i s
    have : s = ⟨s.data.toList.toArray⟩ := by cases s; simp
    conv => rhs; rw [this]
    exact .str _
  · exact .nilSlice

theorem ofVs_rel {C : Cf} : ∀ {us : List Value} {ps : List PV}, ofVs us = some ps → us.length = ps.length ∧ ∀ (j : Nat) (p : PV) (u : Value), ps[j]? = some p → us[j]? = some u → RelP C.w C.S p u
  | [], ps, h => by simp [ofVs] at h; subst h; exact ⟨rfl, fun j p u hp => by simp at hp⟩
  | v :: r, ps, h => by
    unfold ofVs at h
    split at h
    · rename_i p hp
      split at h
      · rename_i qs hq
        cases h
        obtain ⟨h1, h2⟩ := ofVs_rel (C := C) hq
        refine ⟨by simp [h1], fun j p' u' e1 e2 => ?_⟩
        cases j with
        | zero => simp at e1 e2; subst e1; subst e2; exact ofV1_rel hp
        | succ j => simp at e1 e2; exact h2 j p' u' e1 e2
      · cases h
    · cases h

/-- The world-free operations: the model's run is the value, in the world that it got. -/
theorem ofV_rel {C : Cf} {v : Value} {s : SV} (h : ofV v = some s) : RelS C s v := by
  unfold ofV at h
  split at h
  · rename_i us
    cases hs : ofVs us.toList with
    | none => simp [hs] at h
    | some ps =>
      simp [hs] at h
      subst h
      obtain ⟨h1, h2⟩ := ofVs_rel (C := C) hs
      have := RelS.agg (C := C) (ps.map .pv) us.toList (by simpa using h1) (fun j c hc => by
        rw [List.getElem?_map] at hc
        cases hp : ps[j]? with
        | none => simp [hp] at hc
        | some p => simp [hp] at hc; subst hc; rfl) (fun j c u hc hu => by
        rw [List.getElem?_map] at hc
        cases hp : ps[j]? with
        | none => simp [hp] at hc
        | some p => simp [hp] at hc; subst hc; exact .pv _ _ (h2 j p u hp hu))
      simpa using this
  all_goals cases h
  · exact .pv _ _ (.bool _)
  · exact .pv _ _ (.int _ _)
  · rename_i s
    have : s = ⟨s.data.toList.toArray⟩ := by cases s; simp
    conv => rhs; rw [this]
    exact .pv _ _ (.str _)
  · exact .pv _ _ .nilSlice
  · exact .pv _ _ .nilPtr
  · exact .pv _ _ .nilFunc
  · exact .pv _ _ .nilIface

theorem undef_rel (C : Cf) : RelS C .undef Go.undef := .tuple [] [] rfl (fun j c u hj => by simp at hj)

theorem live_some {v s : SV} (h : live v = some s) : v = s := by
  unfold live at h; split at h <;> cases h; rfl

/-- An evaluation of operands. -/
def Eval (C : Cf) (ρ : Operand → Option SV) (ev : Operand → Value) : Prop := ∀ x s, ρ x = some s → RelS C s (ev x)

theorem Eval.evo {C C' : Cf} (h : Evo C C') {ρ : Operand → Option SV} {ev : Operand → Value} (hr : Eval C ρ ev) : Eval C' ρ ev := fun x s hx => h.rel (hr x s hx)

theorem aval_eval {C : Cf} {tm : List SV} {vs : Array Value} (h : RelL C tm vs.toList) (a : Act) (ha : a.tmps = vs) : Eval C (aval tm) a.eval := by
  intro x s hx
  cases x with
  | tmp t =>
    replace hx := live_some hx
    simp only [Act.eval, ha]
    by_cases ht : t < tm.length
    · have h1 : tm[t]? = some s := by rw [← hx]; simp [ht]
      obtain ⟨u, hu, hr⟩ := h.get h1
      have : vs[t]? = some u := by simpa using hu
      simp [this]; exact hr
    · have ht' : tm.length ≤ t := Nat.le_of_not_lt ht
      have h1 : tm[t]? = none := List.getElem?_eq_none ht'
      have h2 : vs[t]? = none := by
        have h3 := h.1
        rw [Array.length_toList] at h3
        exact Array.getElem?_eq_none (h3 ▸ ht')
      simp [h1] at hx; subst hx
      simp [h2]; exact undef_rel C
  | const v => exact ofV_rel hx
  | global g => simp [aval] at hx
  | func f => simp [aval] at hx; subst hx; exact .pv _ _ (.fn f)

theorem avals_rel {C : Cf} {ρ : Operand → Option SV} {ev : Operand → Value} (hr : Eval C ρ ev) : ∀ {xs : List Operand} {vs : List SV}, avals ρ xs = some vs → RelL C vs (xs.map ev)
  | [], vs, h => by simp [avals] at h; subst h; exact RelL.nil C
  | x :: r, vs, h => by
    simp only [avals] at h
    split at h
    · rename_i v hv
      split at h
      · rename_i vs' hvs
        cases h
        exact RelL.cons (hr x v hv) (avals_rel hr hvs)
      · cases h
    · cases h

theorem aInt_run {P : Program} {op : BinOp} {k : IntKind} {a b : Int} {p : PV} (t : TypeId) (w : World) (hop : ¬ (op = .shl ∨ op = .shr)) (h : aInt op k a b = some p) :
    ∃ v, (binOp op t (.int k a) (.int k b)).run P w = .ok v w ∧ ∀ (S : Nat → Nat → Prop), RelP w S p v := by
  cases op
  case shl => exact absurd (Or.inl rfl) hop
  case shr => exact absurd (Or.inr rfl) hop
  case quo =>
    simp only [aInt] at h
    split at h
    · cases h
    · rename_i hb; cases h; exact ⟨_, by simp [binOp, Op.intDiv, hb], fun S => .int _ _⟩
  case rem =>
    simp only [aInt] at h
    split at h
    · cases h
    · rename_i hb; cases h; exact ⟨_, by simp [binOp, Op.intDiv, hb], fun S => .int _ _⟩
  case add => cases h; exact ⟨_, by simp [binOp, Op.intArith], fun S => .int _ _⟩
  case sub => cases h; exact ⟨_, by simp [binOp, Op.intArith], fun S => .int _ _⟩
  case mul => cases h; exact ⟨_, by simp [binOp, Op.intArith], fun S => .int _ _⟩
  case and => cases h; exact ⟨_, by simp [binOp, Op.intBits], fun S => .int _ _⟩
  case or => cases h; exact ⟨_, by simp [binOp, Op.intBits], fun S => .int _ _⟩
  case xor => cases h; exact ⟨_, by simp [binOp, Op.intBits], fun S => .int _ _⟩
  case andNot => cases h; exact ⟨_, by simp [binOp, Op.intBits], fun S => .int _ _⟩
  case eql => cases h; exact ⟨_, by simp [binOp, Op.intCmp], fun S => .bool _⟩
  case neq => cases h; exact ⟨_, by simp [binOp, Op.intCmp], fun S => .bool _⟩
  case lss => cases h; exact ⟨_, by simp [binOp, Op.intCmp], fun S => .bool _⟩
  case leq => cases h; exact ⟨_, by simp [binOp, Op.intCmp], fun S => .bool _⟩
  case gtr => cases h; exact ⟨_, by simp [binOp, Op.intCmp], fun S => .bool _⟩
  case geq => cases h; exact ⟨_, by simp [binOp, Op.intCmp], fun S => .bool _⟩

end Go.Pm
