/- Rules by which 'simp' runs the interpreter over open values. -/
import Derived.Test.YtkckpmcpmngiiaaGreatDoorPmPureCall
set_option linter.unusedSimpArgs false
set_option linter.unusedVariables false
namespace Go.Pm
section
variable (Y : TypeId → Option Ty) (T : FuncId → Option Spec)

theorem acode_skip (n : Nat) (s : St) : acode Y T (n + 1) .skip s = some (.norm s) := rfl
theorem acode_ret (n : Nat) (s : St) : acode Y T (n + 1) .ret s = some (.ret s) := rfl
theorem acode_exit (n id : Nat) (s : St) : acode Y T (n + 1) (.exit id) s = some (.exit id s) := rfl
theorem acode_label (n id : Nat) (s : St) : acode Y T (n + 1) (.label id) s = some (.norm s) := rfl
theorem acode_scope (n : Nat) (b : Code) (s : St) : acode Y T (n + 1) (.scope b) s = acode Y T n b s := rfl
def optNorm : Option St → Option Out
  | some s => some (.norm s)
  | none => none
@[simp] theorem optNorm_some (s : St) : optNorm (some s) = some (.norm s) := rfl
theorem acode_region (n id : Nat) (ops : Array Oper) (d : Bool) (s : St) : acode Y T (n + 1) (.region id ops d) s = optNorm (areg Y T ops.toList d s) := by
  simp only [acode]; cases areg Y T ops.toList d s <;> rfl
@[simp] theorem areg_false (ops : List Oper) (s : St) : areg Y T ops false s = aops Y T noPl ops ops s := rfl
/-- A drawn region, by the slots of its new boxes. -/
noncomputable def aregD (ops : List Oper) (s : St) : List Tmp → Bool → Bool → Option St
  | a :: b :: r, _, _ => aops Y T (plOf (hasStore ops) s.H.length (a :: b :: r)) ops ops ⟨s.tm, keep s.H (a :: b :: r)⟩
  | [a], true, _ => aops Y T (plOf (hasStore ops) s.H.length [a]) ops ops ⟨s.tm, keep s.H [a]⟩
  | [], true, _ => aops Y T (plOf (hasStore ops) (s.H.length - 1) []) ops ops s
  | _, _, true => aregW Y T ops s (watchK (aval s.tm (.tmp (watchTmp ops))))
  | _, _, _ => aops Y T noPl ops ops s
theorem aregN_true (ops : List Oper) (s : St) : aregN Y T ops true s = aregD Y T ops s (newDsts ops) (modeL ops (newDsts ops)) (watching ops true) := by
  unfold aregN held aregD
  generalize newDsts ops = l
  generalize watching ops true = w
  match l with
  | [] =>
    cases hm : modeL ops [] with
    | true => simp [mbase, keep]
    | false => cases w <;> rfl
  | [x] =>
    cases hm : modeL ops [x] with
    | true => simp [mbase, keep]
    | false => cases w <;> rfl
  | a :: b :: r => cases w <;> rfl
theorem areg_none {ops : List Oper} (h : cusD ops true = none) (s : St) : areg Y T ops true s = aregN Y T ops true s := by unfold areg; rw [h]
@[simp] theorem areg_true {ops : List Oper} (h : cusD ops true = none) (s : St) : areg Y T ops true s = aregD Y T ops s (newDsts ops) (modeL ops (newDsts ops)) (watching ops true) := by rw [areg_none Y T h, aregN_true]
@[simp] theorem aregD_nil (ops : List Oper) (s : St) : aregD Y T ops s [] false false = aops Y T noPl ops ops s := rfl
@[simp] theorem aregD_one (ops : List Oper) (s : St) (a : Tmp) : aregD Y T ops s [a] false false = aops Y T noPl ops ops s := rfl
attribute [simp] modeL oneL hasApp isApp strictL hasGuardedLoad isLoad watching hasCallW isCallW hasLoadL storeN idIn watchIds isCallV lateL isBuild0
@[simp] theorem aregD_two (ops : List Oper) (s : St) (a b : Tmp) (r : List Tmp) (c w : Bool) : aregD Y T ops s (a :: b :: r) c w = aops Y T (plOf (hasStore ops) s.H.length (a :: b :: r)) ops ops ⟨s.tm, keep s.H (a :: b :: r)⟩ := by cases c <;> cases w <;> rfl
attribute [simp] newDsts isNew newCells hasStore isStore
@[simp] theorem plOf_wm (st : Bool) (b : Nat) (ds : List Tmp) : (plOf st b ds).wm = none := rfl
@[simp] theorem plOf_some (st : Bool) (b d : Nat) (ds : List Tmp) : plOf st b ds (some d) = plFrom d b ds := rfl
@[simp] theorem plFrom_cons (d n x : Nat) (r : List Tmp) : plFrom d n (x :: r) = if x = d then some n else plFrom d (n + 1) r := by
  simp only [plFrom]
  by_cases h : x = d
  · subst h; rw [Nat.beq_refl]; simp
  · rw [if_neg h]
    cases hb : Nat.beq x d with
    | true => exact absurd (Nat.eq_of_beq_eq_true hb) h
    | false => rfl
@[simp] theorem keep_eq (H : List Blk) (ds : List Tmp) : keep H ds = H ++ List.replicate ds.length .hole := rfl
@[simp high] theorem aopP_noPl (dst : Option Tmp) (H : List Blk) (ρ : Operand → Option SV) (op : Op) : aopP Y T noPl dst H ρ op = aop Y T H ρ op := aopP_none rfl rfl rfl
section
variable (pl : PL) (dst : Option Tmp) (H : List Blk) (ρ : Operand → Option SV)
theorem aopP_move {x} : aopP Y T pl dst H ρ (.move x) = aop Y T H ρ (.move x) := by unfold aopP; cases pl.wm <;> rfl
theorem aopP_assign {x} : aopP Y T pl dst H ρ (.assign x) = aop Y T H ρ (.assign x) := by unfold aopP; cases pl.wm <;> rfl
theorem aopP_pick {c a b} : aopP Y T pl dst H ρ (.pick c a b) = aop Y T H ρ (.pick c a b) := by unfold aopP; cases pl.wm <;> rfl
theorem aopP_build {t ps} : aopP Y T pl dst H ρ (.build t ps) = aop Y T H ρ (.build t ps) := by unfold aopP; cases pl.wm <;> rfl
theorem aopP_buildSlice {t n ps} : aopP Y T pl dst H ρ (.buildSlice t n ps) = aop Y T H ρ (.buildSlice t n ps) := by unfold aopP; cases pl.wm <;> rfl
theorem aopP_load {b ds t a} : aopP Y T (plOf false b ds) dst H ρ (.load t a) = aop Y T H ρ (.load t a) := rfl
theorem aopP_loadS {b ds t a} : aopP Y T (plOf true b ds) dst H ρ (.load t a) = ifM (memOk b ρ (.load t a)) (aop Y T H ρ (.load t a)) := rfl
theorem memOk_load {b t a} : memOk b ρ (.load t a) = match ρ a with
    | some (.ptr k _) => decide (k < b)
    | _ => true := rfl
theorem memOk_store {b t a x} : memOk b ρ (.store t a x) = match ρ a with
    | some (.ptr k _) => decide (b ≤ k)
    | _ => false := rfl
theorem ifM_true {α : Type} (x : Option α) : ifM true x = x := rfl
theorem aopP_store {b ds t a x} : aopP Y T (plOf false b ds) dst H ρ (.store t a x) = aop Y T H ρ (.store t a x) := rfl
theorem aopP_storeS {b ds t a x} : aopP Y T (plOf true b ds) dst H ρ (.store t a x) = ifM (memOk b ρ (.store t a x)) (aop Y T H ρ (.store t a x)) := rfl
theorem aopP_nilCheck {x} : aopP Y T pl dst H ρ (.nilCheck x) = aop Y T H ρ (.nilCheck x) := by unfold aopP; cases pl.wm <;> rfl
theorem aopP_binOp {o t x y u} : aopP Y T pl dst H ρ (.binOp o t x y u) = aop Y T H ρ (.binOp o t x y u) := by unfold aopP; cases pl.wm <;> rfl
theorem aopP_unOp {o t x} : aopP Y T pl dst H ρ (.unOp o t x) = aop Y T H ρ (.unOp o t x) := by unfold aopP; cases pl.wm <;> rfl
theorem aopP_convert {s d x} : aopP Y T pl dst H ρ (.convert s d x) = aop Y T H ρ (.convert s d x) := by unfold aopP; cases pl.wm <;> rfl
theorem aopP_makeInterface {t x} : aopP Y T pl dst H ρ (.makeInterface t x) = aop Y T H ρ (.makeInterface t x) := by unfold aopP; cases pl.wm <;> rfl
theorem aopP_makeFunc {f a b} : aopP Y T pl dst H ρ (.makeFunc f a b) = aop Y T H ρ (.makeFunc f a b) := by unfold aopP; cases pl.wm <;> rfl
theorem aopP_slice {t x lo hi mx} : aopP Y T pl dst H ρ (.slice t x lo hi mx) = aop Y T H ρ (.slice t x lo hi mx) := by unfold aopP; cases pl.wm <;> rfl
theorem aopP_fieldAddr {t x f} : aopP Y T pl dst H ρ (.fieldAddr t x f) = aop Y T H ρ (.fieldAddr t x f) := by unfold aopP; cases pl.wm <;> rfl
theorem aopP_field {t x f} : aopP Y T pl dst H ρ (.field t x f) = aop Y T H ρ (.field t x f) := by unfold aopP; cases pl.wm <;> rfl
theorem aopP_indexAddr {t x i} : aopP Y T pl dst H ρ (.indexAddr t x i) = aop Y T H ρ (.indexAddr t x i) := by unfold aopP; cases pl.wm <;> rfl
theorem aopP_index {t x i} : aopP Y T pl dst H ρ (.index t x i) = aop Y T H ρ (.index t x i) := by unfold aopP; cases pl.wm <;> rfl
theorem aopP_extract {x i} : aopP Y T pl dst H ρ (.extract x i) = aop Y T H ρ (.extract x i) := by unfold aopP; cases pl.wm <;> rfl
theorem aopP_call {b st0 ds c} : aopP Y T (plOf b st0 ds) dst H ρ (.call c) = aop Y T H ρ (.call c) := rfl
theorem aopP_loadW {st w n t a} : aopP Y T (watchPl st w n) dst H ρ (.load t a) = loadW w n (aop Y T H ρ (.load t a)) (ρ a) := rfl
theorem aopP_storeW {w n t a x} : aopP Y T (watchPl false w n) dst H ρ (.store t a x) = aop Y T H ρ (.store t a x) := rfl
theorem aopP_storeL {w n t a x} : aopP Y T (watchPl true w n) dst H ρ (.store t a x) = frameC w n H (aop Y T H ρ (.store t a x)) := rfl
theorem aopP_callW {st w n c} : aopP Y T (watchPl st w n) dst H ρ (.call c) = bif isCallV (.call c) then frameC w n H (aop Y T H ρ (.call c)) else aop Y T H ρ (.call c) := by
  show (bif isCallV (.call c) || (false && st) then _ else _) = _
  simp only [Bool.false_and, Bool.or_false]
theorem aopP_allocW {st w n t} : aopP Y T (watchPl st w n) dst H ρ (.alloc t) = aop Y T H ρ (.alloc t) := rfl
theorem aopP_boxW {st w n t x} : aopP Y T (watchPl st w n) dst H ρ (.box t x) = aop Y T H ρ (.box t x) := rfl
theorem loadW_ptr {w n k off : Nat} {x : Option (SV × List Blk)} (h1 : k ≠ w) (h2 : k < n) : loadW w n x (some (.ptr k off)) = x := by
  simp [loadW, h1, h2, ifM]
theorem loadW_cptr {w n : Nat} {cs : List PV} {x : Option (SV × List Blk)} : loadW w n x (some (.cptr cs)) = x := rfl
theorem frameC_some {w n : Nat} {H H' : List Blk} {v : SV} (h : H' = H ∨ (n ≤ H.length ∧ FrameW w H H')) : frameC w n H (some (v, H')) = some (v, H') := by
  simp only [frameC, ifP]; rw [if_pos h]
theorem frameC_set {w n : Nat} {H : List Blk} {v : SV} {b : Blk} (h : n ≤ H.length) : frameC w n H (some (v, H.set w b)) = some (v, H.set w b) := frameC_some (.inr ⟨h, by simp, fun j _ hw => List.getElem?_set_ne (Ne.symm hw)⟩)
theorem frameC_same {w n : Nat} {H : List Blk} {v : SV} : frameC w n H (some (v, H)) = some (v, H) := frameC_some (.inl rfl)
theorem aopP_alloc {st0 : Bool} {b0 : Nat} {ds0 : List Tmp} {k : Nat} {t : TypeId} {y : Ty} (h : (plOf st0 b0 ds0) dst = some k) (hy : Y t = some y) (hk : H[k]? = some .hole) : aopP Y T (plOf st0 b0 ds0) dst H ρ (.alloc t) = some (.ptr k 0, H.set k (.box (some t) (y.zero.map .pv))) := by
  have hw : (plOf st0 b0 ds0).wm = none := rfl
  simp only [aopP, hw, isNew, cond_true, newCells, h, hy, Option.map_some, fill, hk]
theorem aopP_box {st0 : Bool} {b0 : Nat} {ds0 : List Tmp} {k : Nat} {t : TypeId} {x : Operand} (h : (plOf st0 b0 ds0) dst = some k) (hk : H[k]? = some .hole) : aopP Y T (plOf st0 b0 ds0) dst H ρ (.box t x) = (newCells Y ρ (.box t x)).map fun cs => (.ptr k 0, H.set k (.box cs.1 cs.2)) := by
  have hw : (plOf st0 b0 ds0).wm = none := rfl
  simp only [aopP, hw, isNew, cond_true, h]
  cases newCells Y ρ (.box t x) with
  | none => rfl
  | some cs => simp [fill, hk]
end
def fillC (H : List Blk) : Option (Option TypeId × List SV) → Option Nat → Option (SV × List Blk)
  | some cs, some k => fill H k cs
  | _, _ => none
@[simp] theorem fillC_some (H : List Blk) (cs : Option TypeId × List SV) (k : Nat) : fillC H (some cs) (some k) = fill H k cs := rfl
theorem aopP_new {pl : PL} (hw : pl.wm = none) (dst : Option Tmp) {k : Nat} (H : List Blk) (ρ : Operand → Option SV) {op : Op} (hn : isNew op = true) (hk : pl dst = some k) : aopP Y T pl dst H ρ op = fillC H (newCells Y ρ op) (some k) := by
  unfold aopP
  rw [hw, hn, hk]
  cases newCells Y ρ op <;> rfl
@[simp] theorem fill_hole {H : List Blk} {k : Nat} {t : Option TypeId} {cs : List SV} (h : H[k]? = some .hole) : fill H k (t, cs) = some (.ptr k 0, H.set k (.box t cs)) := by unfold fill; rw [h]
/-- What follows. -/
noncomputable def thenC (n : Nat) (b : Code) : Option Out → Option Out
  | some (.norm s) => acode Y T n b s
  | r => r
@[simp] theorem thenC_norm (n : Nat) (b : Code) (s : St) : thenC Y T n b (some (.norm s)) = acode Y T n b s := rfl
@[simp] theorem thenC_ret (n : Nat) (b : Code) (s : St) : thenC Y T n b (some (.ret s)) = some (.ret s) := rfl
@[simp] theorem thenC_exit (n : Nat) (b : Code) (id : Nat) (s : St) : thenC Y T n b (some (.exit id s)) = some (.exit id s) := rfl
theorem thenC_ite (n : Nat) (b : Code) (c : Prop) [Decidable c] (x y : Option Out) : thenC Y T n b (if c then x else y) = if c then thenC Y T n b x else thenC Y T n b y := by split <;> rfl
theorem acode_seq (n : Nat) (a b : Code) (s : St) : acode Y T (n + 1) (.seq a b) s = thenC Y T n b (acode Y T n a s) := by
  simp only [acode]; cases acode Y T n a s with
  | none => rfl
  | some o => cases o <;> rfl
/-- A block's end. -/
def inB (id : Nat) : Option Out → Option Out
  | some (.exit i s) => if i = id then some (.norm s) else some (.exit i s)
  | r => r
@[simp] theorem inB_norm (id : Nat) (s : St) : inB id (some (.norm s)) = some (.norm s) := rfl
@[simp] theorem inB_ret (id : Nat) (s : St) : inB id (some (.ret s)) = some (.ret s) := rfl
@[simp] theorem inB_exit (id i : Nat) (s : St) : inB id (some (.exit i s)) = if i = id then some (.norm s) else some (.exit i s) := rfl
theorem inB_ite (id : Nat) (c : Prop) [Decidable c] (x y : Option Out) : inB id (if c then x else y) = if c then inB id x else inB id y := by split <;> rfl
theorem acode_block (n id : Nat) (b : Code) (s : St) : acode Y T (n + 1) (.block id b) s = inB id (acode Y T n b s) := by
  simp only [acode]; cases acode Y T n b s with
  | none => rfl
  | some o => cases o <;> rfl
def condC (x : Option SV) (p q : Option Out) : Option Out := match x with
  | some (.pv (.bool t)) => if t then p else q
  | _ => none
@[simp] theorem condC_bool (t : Bool) (p q : Option Out) : condC (some (.pv (.bool t))) p q = if t then p else q := rfl
theorem acode_cond (n : Nat) (x : Operand) (a b : Code) (s : St) : acode Y T (n + 1) (.cond x a b) s = condC (aval s.tm x) (acode Y T n a s) (acode Y T n b s) := by
  simp only [acode]
  generalize aval s.tm x = q
  cases q with
  | none => rfl
  | some v => cases v with
    | pv p => cases p <;> rfl
    | _ => rfl
/-- A loop's round. -/
noncomputable def againC (n : Nat) (b : Code) : Option Out → Option Out
  | some (.norm s) => acode Y T n (.loop b) s
  | r => r
@[simp] theorem againC_norm (n : Nat) (b : Code) (s : St) : againC Y T n b (some (.norm s)) = acode Y T n (.loop b) s := rfl
@[simp] theorem againC_ret (n : Nat) (b : Code) (s : St) : againC Y T n b (some (.ret s)) = some (.ret s) := rfl
@[simp] theorem againC_exit (n : Nat) (b : Code) (id : Nat) (s : St) : againC Y T n b (some (.exit id s)) = some (.exit id s) := rfl
theorem againC_ite (n : Nat) (b : Code) (c : Prop) [Decidable c] (x y : Option Out) : againC Y T n b (if c then x else y) = if c then againC Y T n b x else againC Y T n b y := by split <;> rfl
theorem acode_loop (n : Nat) (b : Code) (s : St) : acode Y T (n + 1) (.loop b) s = againC Y T n b (acode Y T n b s) := by
  rw [acode]; cases acode Y T n b s with
  | none => rfl
  | some o => cases o <;> rfl

/-- One operation's end. -/
noncomputable def opC (pl : PL) (full r : List Oper) (tm : List SV) (dst : Option Tmp) : Option (SV × List Blk) → Option St
  | some (v, H) => aops Y T pl full r ⟨put tm dst v, H⟩
  | none => none
@[simp] theorem opC_some (pl : PL) (full r : List Oper) (tm : List SV) (dst : Option Tmp) (v : SV) (H : List Blk) : opC Y T pl full r tm dst (some (v, H)) = aops Y T pl full r ⟨put tm dst v, H⟩ := rfl
@[simp] theorem opC_none (pl : PL) (full r : List Oper) (tm : List SV) (dst : Option Tmp) : opC Y T pl full r tm dst none = none := rfl
theorem aops_nil (pl : PL) (full : List Oper) (s : St) : aops Y T pl full [] s = some s := rfl
theorem aops_plain (pl : PL) (full r : List Oper) (dst : Option Tmp) (op : Op) (ty : TypeId) (pos : String) (after : Array Edge) (s : St) :
    aops Y T pl full ({ dst, op, type := ty, pos, after, guard := none } :: r) s = opC Y T pl full r s.tm dst (aopP Y T pl dst s.H (aval s.tm) op) := by
  simp only [aops, aWanted]
  generalize aopP Y T pl dst s.H (aval s.tm) op = q
  cases q with
  | none => rfl
  | some v => rfl
/-- A guarded operation. -/
noncomputable def guardC (pl : PL) (full r : List Oper) (tm : List SV) (H : List Blk) (dst : Option Tmp) (x : Option (SV × List Blk)) : Option Bool → Option St
  | some true => opC Y T pl full r tm dst x
  | some false => aops Y T pl full r ⟨put tm dst .undef, H⟩
  | none => none
@[simp] theorem guardC_true (pl : PL) (full r : List Oper) (tm : List SV) (H : List Blk) (dst : Option Tmp) (x : Option (SV × List Blk)) : guardC Y T pl full r tm H dst x (some true) = opC Y T pl full r tm dst x := rfl
@[simp] theorem guardC_false (pl : PL) (full r : List Oper) (tm : List SV) (H : List Blk) (dst : Option Tmp) (x : Option (SV × List Blk)) : guardC Y T pl full r tm H dst x (some false) = aops Y T pl full r ⟨put tm dst .undef, H⟩ := rfl
theorem guardC_bool (pl : PL) (full r : List Oper) (tm : List SV) (H : List Blk) (dst : Option Tmp) (x : Option (SV × List Blk)) (b : Bool) : guardC Y T pl full r tm H dst x (some b) = if b then opC Y T pl full r tm dst x else aops Y T pl full r ⟨put tm dst .undef, H⟩ := by cases b <;> rfl
theorem aops_guard (pl : PL) (full r : List Oper) (dst : Option Tmp) (op : Op) (ty : TypeId) (pos : String) (after : Array Edge) (g : Nat × Bool) (s : St) :
    aops Y T pl full ({ dst, op, type := ty, pos, after, guard := some g } :: r) s =
      guardC Y T pl full r s.tm s.H dst (aopP Y T pl dst s.H (aval s.tm) op) (aWanted full s.tm { dst, op, type := ty, pos, after, guard := some g }) := by
  simp only [aops]; split
  · rename_i h; rw [h]
    generalize aopP Y T pl dst s.H (aval s.tm) op = q
    cases q with
    | none => rfl
    | some v => rfl
  · rename_i h; rw [h]; rfl
  · rename_i h; rw [h]; rfl
def finC (rs : List ResultVar) (s : St) : Option (SV × List Blk) := (aresults Y s rs).map fun vs => (pack vs, s.H)
theorem finish_norm (rs : List ResultVar) (s : St) : finish Y rs (some (.norm s)) = (aresults Y s rs).map fun vs => (pack vs, s.H) := rfl
theorem finish_ret (rs : List ResultVar) (s : St) : finish Y rs (some (.ret s)) = (aresults Y s rs).map fun vs => (pack vs, s.H) := rfl
theorem finish_ite (rs : List ResultVar) (c : Prop) [Decidable c] (x y : Option Out) : finish Y rs (if c then x else y) = if c then finish Y rs x else finish Y rs y := by split <;> rfl
def outO : Option (SV × List Blk) → Option SV
  | some (r, H) => outR H r
  | none => none
@[simp] theorem outO_some (r : SV) (H : List Blk) : outO (some (r, H)) = outR H r := rfl
@[simp] theorem outO_none : outO none = none := rfl
theorem outO_ite (c : Prop) [Decidable c] (x y : Option (SV × List Blk)) : outO (if c then x else y) = if c then outO x else outO y := by split <;> rfl
/-- What a function comes to, run by itself. -/
noncomputable def prun (fn : Func) (fuel : Nat) (args : List SV) : Option SV := outO (arun Y T fn fuel args [])
end

theorem meets_prun {P : Program} {Y : TypeId → Option Ty} (E : Env P Y) {W0 : World} {T : FuncId → Option Spec} (hT : TOk P W0 T) (hm : P.follows .mixedOrders = true) {f : FuncId} {fn : Func} {c : Code}
    (hf : P.funcs[f]? = some fn) (hb : fn.body = some c) (hc : codeOk T c = true)
    {fr : Bool} {F : List SV → Option SV} (hF : ∀ args r, F args = some r → ∃ fuel, prun Y T fn fuel args = some r) : Meets P W0 f (specFn (.pure fr F)) :=
  meets_pure E hT hm hf hb hc fun args r h => by
    obtain ⟨fuel, h1⟩ := hF args r h
    unfold prun at h1
    cases h2 : arun Y T fn fuel args [] with
    | none => rw [h2] at h1; simp at h1
    | some x => obtain ⟨r1, H1⟩ := x; rw [h2] at h1; exact ⟨fuel, r1, H1, h2, h1⟩

theorem enterable_of {P : Program} {f : FuncId} {fn : Func} (h : P.funcs[f]? = some fn) (h1 : (fn.body.isNone || (fn.name == "runtime.NumGoroutine")) = false) : Enterable P f := by
  simp at h1
  exact ⟨fn, h, by simpa using h1.1, by simpa using h1.2⟩

theorem tok_none {P : Program} {W0 : World} : TOk P W0 (fun _ => none) := fun g S h => by cases h
theorem tok_tree {P : Program} {W0 : World} {t : Tree Spec} (h : t.Forall fun g S => Enterable P g ∧ Meets P W0 g (specFn S)) : TOk P W0 t.get := fun g S hg => Tree.forall_get h hg
theorem live_pv (p : PV) : live (.pv p) = some (.pv p) := rfl
theorem live_own (k v s : Nat) (es : List (List PV)) : live (.own k v s es) = some (.own k v s es) := rfl
theorem live_tight (s : Nat) (es : List (List PV)) : live (.tight s es) = some (.tight s es) := rfl
theorem live_ptr (k o : Nat) : live (.ptr k o) = some (.ptr k o) := rfl
theorem live_cptr (cs : List PV) : live (.cptr cs) = some (.cptr cs) := rfl
theorem live_bsl (k o l s : Nat) : live (.bsl k o l s) = some (.bsl k o l s) := rfl
theorem live_agg (cs : List SV) : live (.agg cs) = some (.agg cs) := rfl
theorem live_tuple (cs : List SV) : live (.tuple cs) = some (.tuple cs) := rfl
theorem live_clo (f : FuncId) (cs : List SV) : live (.clo f cs) = some (.clo f cs) := rfl
theorem live_fresh (e : TypeId) (s : Nat) (es : List (List PV)) : live (.fresh e s es) = none := rfl
attribute [simp] live_pv live_own live_tight live_ptr live_cptr live_bsl live_agg live_tuple live_clo live_fresh aop aBin aInt aBuildSlice aBuild kindOf layAll lay cellsOf setCells pcells pcell chunks aIndexAddr aElem aLoad isAggK aresults pack ofV ofVs ofV1 aCallOp aCallee aCallD tame aCall avals pur purL place placeR placeL aFieldAddr fieldOf outR outP outL isOwn List.filter cst aStore aIndex aField aPart aUn aBuiltin aCopy aClear srcCells aMakeSlice aLen sliceElems aAppend strideOk aSlice aSlice3 aFull aSub aBound aMinMax aConv aeq aeqCells flatOf aMakeFunc aStr maxRow
end Go.Pm
