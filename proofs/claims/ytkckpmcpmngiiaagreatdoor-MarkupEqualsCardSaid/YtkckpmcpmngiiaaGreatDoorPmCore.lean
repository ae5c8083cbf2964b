/- An interpreter of the model's code over pure values: slices are lists, structs are lists of cells, no addresses of data, no tape. Nothing here is trusted: PmSound proves what it says of the model. -/
import Derived.WalkKit
import Derived.Orders
namespace Go.Pm

/-- A value that is never written again. -/
inductive PV where
  | bool (b : Bool)
  | int (k : IntKind) (n : Int)
  | str (l : List UInt8)
  | nilSlice
  /-- no elements, and not nil; wherever it lies -/
  | empS
  | hdr (n : Nat)
  | slice (s : Nat) (es : List (List PV))
  | nilPtr
  | nilFunc
  | fn (f : FuncId)
  | nilIface
  | iface (t : TypeId) (p : PV)
  | opq
  deriving Inhabited

/-- What a slot holds. own: an append's result (token k, version v); tight: a slice without spare room; fresh: in a contract's result alone, a slice that the callee made; ptr: into box k; cptr: to cells that stay as they are; bsl: a slice over box k. -/
inductive SV where
  | pv (p : PV)
  | own (k v : Nat) (s : Nat) (es : List (List PV))
  | tight (s : Nat) (es : List (List PV))
  | fresh (e : TypeId) (s : Nat) (es : List (List PV))
  | ptr (k off : Nat)
  | cptr (cs : List PV)
  | cadr (b off : Nat) (cs : List PV)
  | bsl (k off len stride : Nat)
  | agg (cs : List SV)
  | tuple (l : List SV)
  | clo (f : FuncId) (caps : List SV)
  deriving Inhabited

inductive Blk where
  /-- t: its type, where its size is known. -/
  | box (t : Option TypeId) (cs : List SV)
  | tok (v : Nat) (e : TypeId)
  | hole
  deriving Inhabited

/-- What the interpreter asks of a type. -/
inductive TK where
  | bool | int (k : IntKind) | str | ptr | slice (elem : Nat) | array (n elem : Nat) | struct (fs : List (Nat × Nat)) | iface | func | tuple
  deriving Inhabited
structure Ty where
  kind : TK
  size : Nat
  bytes : Nat
  zero : List PV
  /-- the kinds of its cells, if '==' on it is cell by cell; else none -/
  flat : List TK
  deriving Inhabited

/-- A table that the kernel looks up fast. -/
inductive Tree (α : Type) where
  | nil
  | node (k : Nat) (v : α) (l r : Tree α)

def Tree.get {α : Type} : Tree α → Nat → Option α
  | .nil, _ => none
  | .node k v l r, n => bif Nat.beq n k then some v else bif Nat.ble n k then l.get n else r.get n

def Tree.all {α : Type} (p : Nat → α → Bool) : Tree α → Bool
  | .nil => true
  | .node k v l r => p k v && l.all p && r.all p

def Tree.Forall {α : Type} (p : Nat → α → Prop) : Tree α → Prop
  | .nil => True
  | .node k v l r => p k v ∧ l.Forall p ∧ r.Forall p

theorem Tree.all_get {α : Type} {p : Nat → α → Bool} : ∀ {t : Tree α} {n : Nat} {v : α}, t.all p = true → t.get n = some v → p n v = true
  | .nil, n, v, _, h => by simp [Tree.get] at h
  | .node k u l r, n, v, ha, h => by
    simp only [Tree.all, Bool.and_eq_true] at ha
    simp only [Tree.get] at h
    cases hb : Nat.beq n k with
    | true => rw [hb] at h; simp at h; subst h; have := Nat.eq_of_beq_eq_true hb; subst this; exact ha.1.1
    | false =>
      rw [hb] at h
      simp only [cond_false] at h
      cases hc : Nat.ble n k with
      | true => rw [hc] at h; exact Tree.all_get ha.1.2 h
      | false => rw [hc] at h; exact Tree.all_get ha.2 h

theorem Tree.forall_get {α : Type} {p : Nat → α → Prop} : ∀ {t : Tree α} {n : Nat} {v : α}, t.Forall p → t.get n = some v → p n v
  | .nil, n, v, _, h => by simp [Tree.get] at h
  | .node k u l r, n, v, ha, h => by
    simp only [Tree.get] at h
    cases hb : Nat.beq n k with
    | true => rw [hb] at h; simp at h; subst h; have := Nat.eq_of_beq_eq_true hb; subst this; exact ha.1
    | false =>
      rw [hb] at h
      simp only [cond_false] at h
      cases hc : Nat.ble n k with
      | true => rw [hc] at h; exact Tree.forall_get ha.2.1 h
      | false => rw [hc] at h; exact Tree.forall_get ha.2.2 h

abbrev SV.undef : SV := .tuple []
abbrev SV.bool (b : Bool) : SV := .pv (.bool b)
abbrev SV.int (k : IntKind) (n : Int) : SV := .pv (.int k n)
abbrev SV.i (n : Int) : SV := .pv (.int .i64 n)
abbrev SV.str (l : List UInt8) : SV := .pv (.str l)

inductive Spec where
  | pure (fr : Bool) (F : List SV → Option SV)
  | heap (F : List SV → List Blk → Option (SV × List Blk))
  /-- It looks into boxes, and leaves them: of the arguments, as they read (resC), the answer. -/
  | read (F : List SV → Option PV)

def resCs (f : SV → Option SV) : List SV → Option (List SV)
  | [] => some []
  | c :: r => match f c with
    | some p => match resCs f r with
      | some ps => some (p :: ps)
      | none => none
    | none => none

/-- A value as it reads: a pointer to a box is its cells, as a tuple. -/
def resC (H : List Blk) : Nat → SV → Option SV
  | 0, .pv p => some (.pv p)
  | 0, _ => none
  | n + 1, s => match s with
    | .pv p => some (.pv p)
    | .ptr k off => if off = 0 then (match H[k]? with
      | some (.box _ cs) => (resCs (resC H n) cs).map .tuple
      | _ => none) else none
    | .agg cs => (resCs (resC H n) cs).map .agg
    | .clo g cs => (resCs (resC H n) cs).map (.clo g)
    | _ => none

/-- The slices in it as plain ones; no pointers. -/
def pcell : SV → Option PV
  | .pv p => some p
  | .own _ _ s es => some (.slice s es)
  | .tight s es => some (.slice s es)
  | _ => none

def pcells : List SV → Option (List PV)
  | [] => some []
  | c :: r => match pcell c with
    | some p => match pcells r with
      | some ps => some (p :: ps)
      | none => none
    | none => none

/-- What an argument of a pure contract reads as. -/
def pur : SV → Option SV
  | .pv p => some (.pv p)
  | .own _ _ s es => some (.pv (.slice s es))
  | .tight s es => some (.pv (.slice s es))
  | .agg cs => match pcells cs with
    | some ps => some (.agg (ps.map .pv))
    | none => none
  | _ => none

def purL : List SV → Option (List SV)
  | [] => some []
  | c :: r => match pur c with
    | some p => match purL r with
      | some ps => some (p :: ps)
      | none => none
    | none => none

/-- A contract's result in the caller: what is fresh becomes a token of the caller's. -/
def place (fr : Bool) (H : List Blk) : SV → Option (SV × List Blk)
  | .pv p => some (.pv p, H)
  | .tight s es => some (.tight s es, H)
  | .agg cs => match pcells cs with
    | some ps => some (.agg (ps.map .pv), H)
    | none => none
  | .fresh e s es => if fr then some (.own H.length 0 s es, H ++ [.tok 0 e]) else some (.pv (.slice s es), H)
  | _ => none

def placeL (fr : Bool) (H : List Blk) : List SV → Option (List SV × List Blk)
  | [] => some ([], H)
  | c :: r => match place fr H c with
    | some (c', H1) => match placeL fr H1 r with
      | some (r', H2) => some (c' :: r', H2)
      | none => none
    | none => none

def placeR (fr : Bool) (H : List Blk) : SV → Option (SV × List Blk)
  | .tuple l => match placeL fr H l with
    | some (l', H') => some (.tuple l', H')
    | none => none
  | x => place fr H x

def isAggK : TK → Bool
  | .struct _ | .array _ _ => true
  | _ => false

section ops
variable (Y : TypeId → Option Ty) (T : FuncId → Option Spec)

def kindOf (t : TypeId) : Option TK := match Y t with | some y => some y.kind | none => none
def flatOf (t : TypeId) : List TK := match Y t with | some y => y.flat | none => []

def ofV1 : Value → Option PV
  | .bool b => some (.bool b)
  | .int k n => some (.int k n)
  | .string s => some (.str s.data.toList)
  | .slice none 0 0 => some .nilSlice
  | _ => none

def ofVs : List Value → Option (List PV)
  | [] => some []
  | v :: r => match ofV1 v with
    | some p => match ofVs r with
      | some ps => some (p :: ps)
      | none => none
    | none => none

def ofV : Value → Option SV
  | .agg us => (ofVs us.toList).map fun ps => .agg (ps.map .pv)
  | .bool b => some (.pv (.bool b))
  | .int k n => some (.pv (.int k n))
  | .string s => some (.pv (.str s.data.toList))
  | .slice none 0 0 => some (.pv .nilSlice)
  | .pointer none => some (.pv .nilPtr)
  | .nilFunc => some (.pv .nilFunc)
  | .nilIface => some (.pv .nilIface)
  | _ => none

/-- What is forgotten is never read. -/
def live : SV → Option SV
  | .fresh _ _ _ => none
  | v => some v

def aval (tm : List SV) : Operand → Option SV
  | .tmp t => live (tm.getD t .undef)
  | .const v => ofV v
  | .func f => some (.pv (.fn f))
  | .global _ => none

def avals (ρ : Operand → Option SV) : List Operand → Option (List SV)
  | [] => some []
  | x :: r => match ρ x with
    | some v => match avals ρ r with
      | some vs => some (v :: vs)
      | none => none
    | none => none

def aInt (op : BinOp) (k : IntKind) (a b : Int) : Option PV :=
  match op with
  | .add => some (.int k (k.wrap (a + b)))
  | .sub => some (.int k (k.wrap (a - b)))
  | .mul => some (.int k (k.wrap (a * b)))
  | .quo => if b = 0 then none else some (.int k (k.wrap (a.tdiv b)))
  | .rem => if b = 0 then none else some (.int k (a.tmod b))
  | .and => some (.int k (k.wrap (BitVec.ofInt k.bits a &&& BitVec.ofInt k.bits b).toNat))
  | .or => some (.int k (k.wrap (BitVec.ofInt k.bits a ||| BitVec.ofInt k.bits b).toNat))
  | .xor => some (.int k (k.wrap (BitVec.ofInt k.bits a ^^^ BitVec.ofInt k.bits b).toNat))
  | .andNot => some (.int k (k.wrap (BitVec.ofInt k.bits a &&& ~~~(BitVec.ofInt k.bits b)).toNat))
  | .eql => some (.bool (a == b))
  | .neq => some (.bool (a != b))
  | .lss => some (.bool (decide (a < b)))
  | .leq => some (.bool (decide (a ≤ b)))
  | .gtr => some (.bool (decide (a > b)))
  | .geq => some (.bool (decide (a ≥ b)))
  | .shl | .shr => none

def aShift (op : BinOp) (k : IntKind) (a b : Int) : Option PV :=
  if b < 0 then none else
  match op with
  | .shl => some (.int k (k.wrap (a * 2 ^ (min b.toNat k.bits))))
  | .shr => some (.int k (a.fdiv (2 ^ (min b.toNat k.bits))))
  | _ => none

def aStr (op : BinOp) (a b : List UInt8) : Option PV :=
  match op with
  | .add => if a.length + b.length ≤ 4611686018427387904 then some (.str (a ++ b)) else none
  | .eql => some (.bool (a == b))
  | .neq => some (.bool (!(a == b)))
  | .lss => some (.bool (Op.bytesLess a b))
  | .leq => some (.bool (Op.bytesLess a b || a == b))
  | .gtr => some (.bool (!(Op.bytesLess a b || a == b)))
  | .geq => some (.bool (!Op.bytesLess a b))
  | _ => none

/-- '==' cell by cell. -/
def aeqCells : List TK → List SV → List SV → Option Bool
  | [], [], [] => some true
  | .int _ :: ks, .pv (.int k a) :: x, .pv (.int k' b) :: y => if k = k' then (aeqCells ks x y).map ((a == b) && ·) else none
  | .bool :: ks, .pv (.bool a) :: x, .pv (.bool b) :: y => (aeqCells ks x y).map ((a == b) && ·)
  | .str :: ks, .pv (.str a) :: x, .pv (.str b) :: y => (aeqCells ks x y).map ((a == b) && ·)
  | _, _, _ => none

def aeq (t : TypeId) (x y : SV) : Option Bool :=
  match kindOf Y t, x, y with
  | some .bool, .pv (.bool a), .pv (.bool b) => some (a == b)
  | some (.slice _), .pv .nilSlice, .pv .nilSlice => some true
  | some (.slice _), .pv .nilSlice, .pv (.slice _ _) => some false
  | some (.slice _), .pv .nilSlice, .own _ _ _ _ => some false
  | some (.slice _), .pv .nilSlice, .tight _ _ => some false
  | some (.slice _), .pv .nilSlice, .bsl _ _ _ _ => some false
  | some (.slice _), .pv (.slice _ _), .pv .nilSlice => some false
  | some (.slice _), .own _ _ _ _, .pv .nilSlice => some false
  | some (.slice _), .tight _ _, .pv .nilSlice => some false
  | some (.slice _), .bsl _ _ _ _, .pv .nilSlice => some false
  | some .ptr, .pv .nilPtr, .pv .nilPtr => some true
  | some .ptr, .ptr _ _, .pv .nilPtr => some false
  | some .ptr, .pv .nilPtr, .ptr _ _ => some false
  | some .iface, .pv .nilIface, .pv (.iface _ _) => some false
  | some .iface, .pv .nilIface, .pv .opq => some false
  | some .iface, .pv (.iface _ _), .pv .nilIface => some false
  | some .iface, .pv .opq, .pv .nilIface => some false
  | some .func, .pv .nilFunc, .pv .nilFunc => some true
  | some .func, .pv (.fn _), .pv .nilFunc => some false
  | some .func, .clo _ _, .pv .nilFunc => some false
  | some k, .agg a, .agg b => if isAggK k && !(flatOf Y t).isEmpty then aeqCells (flatOf Y t) a b else none
  | _, _, _ => none

def aBin (op : BinOp) (t : TypeId) (cx cy : Bool) (x y : SV) : Option SV :=
  match x, y with
  | .pv (.int k a), .pv (.int k' b) =>
    if op = .shl ∨ op = .shr then (aShift op k a b).map .pv
    else if k = k' then (aInt op k a b).map .pv else none
  | .pv (.str a), .pv (.str b) => (aStr op a b).map .pv
  | .pv .nilIface, .pv .nilIface => match kindOf Y t with
    | some .iface => if cx || cy then (match op with | .eql => some (.bool true) | .neq => some (.bool false) | _ => none) else none
    | _ => none
  | x, y => match op with
    | .eql => (aeq Y t x y).map fun b => .bool b
    | .neq => (aeq Y t x y).map fun b => .bool (!b)
    | _ => none

def aUn (op : UnOp) (x : SV) : Option SV :=
  match op, x with
  | .neg, .pv (.int k n) => some (.int k (k.wrap (0 - n)))
  | .not, .pv (.bool b) => some (.bool (!b))
  | _, _ => none


/-- The cells of a value as a variable holds them. -/
def SV.one : SV → Bool
  | .agg _ | .tuple _ | .fresh _ _ _ => false
  | _ => true

def cellsOf : SV → Option (List SV)
  | .agg cs => some cs
  | .tuple _ => none
  | .fresh _ _ _ => none
  | x => some [x]

def aLoad (H : List Blk) (t : TypeId) (a : SV) : Option SV :=
  match Y t with
  | none => none
  | some y =>
    match a with
    | .ptr k off => match H[k]? with
      | some (.box _ cs) =>
        if isAggK y.kind then (if off + y.size ≤ cs.length then some (.agg ((cs.drop off).take y.size)) else none)
        else cs[off]?
      | _ => none
    | .cptr cs =>
      if isAggK y.kind then (if y.size ≤ cs.length then some (.agg ((cs.take y.size).map .pv)) else none)
      else match cs with
        | c :: _ => some (.pv c)
        | [] => none
    | .cadr _ _ cs =>
      if isAggK y.kind then (if y.size ≤ cs.length then some (.agg ((cs.take y.size).map .pv)) else none)
      else match cs with
        | c :: _ => some (.pv c)
        | [] => none
    | _ => none

def setCells : List SV → Nat → List SV → List SV
  | cs, _, [] => cs
  | cs, i, v :: r => setCells (cs.set i v) (i + 1) r

def aStore (H : List Blk) (t : TypeId) (a x : SV) : Option (List Blk) :=
  match Y t, a, cellsOf x with
  | some y, .ptr k off, some vs => match H[k]? with
    | some (.box tb cs) => if vs.length = y.size ∧ off + y.size ≤ cs.length then some (H.set k (.box tb (setCells cs off vs))) else none
    | _ => none
  | _, _, _ => none

/-- The offsets and sizes of the fields. -/
def fieldOf (t : TypeId) (f : Nat) : Option (Nat × Ty) :=
  match Y t with
  | some ⟨.struct fs, _, _, _, _⟩ => match fs[f]? with
    | some (off, ft) => match Y ft with
      | some y => some (off, y)
      | none => none
    | none => none
  | _ => none

def aFieldAddr (t : TypeId) (x : SV) (f : Nat) : Option SV :=
  match fieldOf Y t f with
  | some (off, y) => if y.size = 0 then none else
    match x with
    | .ptr k o => some (.ptr k (o + off))
    | .cptr cs => some (.cptr (cs.drop off))
    | _ => none
  | none => none

def aPart (y : Ty) (cs : List SV) (off : Nat) : Option SV :=
  if isAggK y.kind then (if off + y.size ≤ cs.length then some (.agg ((cs.drop off).take y.size)) else none) else cs[off]?

def aField (t : TypeId) (x : SV) (f : Nat) : Option SV :=
  match fieldOf Y t f, x with
  | some (off, y), .agg cs => aPart y cs off
  | _, _ => none

def aElem (e : TypeId) (s : Nat) (es : List (List PV)) (i : Int) : Option SV :=
  match Y e with
  | some y => if y.size = s ∧ 0 ≤ i then (es[i.toNat]?).map .cptr else none
  | none => none

def aIndexAddr (t : TypeId) (x : SV) (i : Int) : Option SV :=
  match kindOf Y t, x with
  | some (.array n e), .ptr k o => match Y e with
    | some y => if 0 ≤ i ∧ i < n then some (.ptr k (o + i.toNat * y.size)) else none
    | none => none
  | some (.array n e), .cptr cs => match Y e with
    | some y => if 0 ≤ i ∧ i < n then some (.cptr (cs.drop (i.toNat * y.size))) else none
    | none => none
  | some (.slice e), .pv (.slice s es) => aElem Y e s es i
  | some (.slice e), .own _ _ s es => aElem Y e s es i
  | some (.slice e), .tight s es => aElem Y e s es i
  | some (.slice e), .bsl k off len st => match Y e with
    | some y => if 0 ≤ i ∧ i < len ∧ y.size = st then some (.ptr k (off + i.toNat * st)) else none
    | none => none
  | _, _ => none

def aIndex (t : TypeId) (x : SV) (i : Int) : Option SV :=
  match kindOf Y t, x with
  | some (.array n e), .agg cs => match Y e with
    | some y => if 0 ≤ i ∧ i < n then aPart y cs (i.toNat * y.size) else none
    | none => none
  | some .str, .pv (.str l) => if 0 ≤ i then (l[i.toNat]?).map fun b => .int .u8 b.toNat else none
  | _, _ => none

/-- A bound of a slice expression. -/
def aBound (d : Nat) (ρ : Operand → Option SV) : Option Operand → Option Nat
  | none => some d
  | some o => match ρ o with
    | some (.pv (.int _ n)) => if 0 ≤ n then some n.toNat else none
    | _ => none

def aSub (e : TypeId) (s : Nat) (es : List (List PV)) (lo hi : Option Nat) : Option SV :=
  match Y e, lo, hi with
  | some y, some a, some b => if y.size = s ∧ a ≤ b ∧ b ≤ es.length then some (.pv (.slice s ((es.take b).drop a))) else none
  | _, _, _ => none

/-- A whole row, its room cut off: x[:len(x):len(x)]. -/
def aFull (e : TypeId) (s : Nat) (es : List (List PV)) (hi mx : Option Nat) : Option SV :=
  match Y e, hi, mx with
  | some y, some b, some c => if y.size = s ∧ b = es.length ∧ c = es.length ∧ 0 < es.length then some (.tight s es) else none
  | _, _, _ => none

def aSlice3 (t : TypeId) (x : SV) (ρ : Operand → Option SV) (lo hi mx : Option Operand) : Option SV :=
  match kindOf Y t, lo, x with
  | some (.slice e), none, .pv (.slice s es) => aFull Y e s es (aBound 0 ρ hi) (aBound 0 ρ mx)
  | some (.slice e), none, .own _ _ s es => aFull Y e s es (aBound 0 ρ hi) (aBound 0 ρ mx)
  | some (.slice e), none, .tight s es => aFull Y e s es (aBound 0 ρ hi) (aBound 0 ρ mx)
  | _, _, _ => none

def aSlice (t : TypeId) (x : SV) (ρ : Operand → Option SV) (lo hi mx : Option Operand) : Option SV :=
  if mx.isSome then aSlice3 Y t x ρ lo hi mx else
  match kindOf Y t, x with
  | some .str, .pv (.str l) => match aBound 0 ρ lo, aBound l.length ρ hi with
    | some a, some b => if a ≤ b ∧ b ≤ l.length then some (.pv (.str ((l.take b).drop a))) else none
    | _, _ => none
  | some (.slice e), .pv .nilSlice => match Y e, aBound 0 ρ lo, aBound 0 ρ hi with
    | some _, some 0, some 0 => some (.pv .nilSlice)
    | _, _, _ => none
  | some (.slice e), .pv (.slice s es) => aSub Y e s es (aBound 0 ρ lo) (aBound es.length ρ hi)
  | some (.slice e), .own _ _ s es => aSub Y e s es (aBound 0 ρ lo) (aBound es.length ρ hi)
  | some (.slice e), .tight s es => aSub Y e s es (aBound 0 ρ lo) (aBound es.length ρ hi)
  | some (.slice e), .bsl k off len st => match Y e, aBound 0 ρ lo, aBound len ρ hi with
    | some y, some a, some b => if a ≤ b ∧ b ≤ len ∧ y.size = st ∧ (a < len ∨ a = 0) then some (.bsl k (off + a * st) (b - a) st) else none
    | _, _, _ => none
  | some (.array n e), .ptr k off => match Y e, aBound 0 ρ lo, aBound n ρ hi with
    | some y, some 0, some b => if b ≤ n then some (.bsl k off b y.size) else none
    | _, _, _ => none
  | _, _ => none

/-- Lays a part of a composite literal into its cells. -/
def lay (cs : List SV) (off size : Nat) (x : SV) : Option (List SV) :=
  match cellsOf x with
  | some vs => if vs.length = size ∧ off + size ≤ cs.length then some (setCells cs off vs) else none
  | none => none

def layAll (pl : Nat → Option (Nat × Nat)) (ρ : Operand → Option SV) : List SV → List (Nat × Operand) → Option (List SV)
  | cs, [] => some cs
  | cs, (i, o) :: r => match pl i, ρ o with
    | some (off, size), some x => match lay cs off size x with
      | some cs' => layAll pl ρ cs' r
      | none => none
    | _, _ => none

def aBuild (t : TypeId) (ρ : Operand → Option SV) (parts : List (Nat × Operand)) : Option SV :=
  match Y t with
  | some ⟨.struct _, _, _, z, _⟩ =>
    (layAll (fun i => (fieldOf Y t i).map fun (o, y) => (o, y.size)) ρ (z.map .pv) parts).map .agg
  | some ⟨.array _ e, _, _, z, _⟩ => match Y e with
    | some y => (layAll (fun i => some (i * y.size, y.size)) ρ (z.map .pv) parts).map .agg
    | none => none
  | _ => none

def chunks (s : Nat) : Nat → List PV → List (List PV)
  | 0, _ => []
  | n + 1, l => l.take s :: chunks s n (l.drop s)

def aBuildSlice (t : TypeId) (n : Nat) (ρ : Operand → Option SV) (parts : List (Nat × Operand)) : Option SV :=
  match kindOf Y t with
  | some (.slice e) => match Y e with
    | some y => if n * y.size ≤ 16777216 ∧ y.size ≠ 0 then
        match layAll (fun i => some (i * y.size, y.size)) ρ ((List.replicate n (y.zero.map SV.pv)).flatten) parts with
        | some cs => match pcells cs with
          | some ps => some (.tight y.size (chunks y.size n ps))
          | none => none
        | none => none
      else none
    | none => none
  | _ => none

def sliceElems : SV → Option (List (List PV))
  | .pv .nilSlice => some []
  | .pv (.slice _ es) => some es
  | .own _ _ _ es => some es
  | .tight _ es => some es
  | _ => none

def strideOk (n : Nat) : SV → Bool
  | .pv .nilSlice => true
  | .pv (.slice s _) => s == n
  | .own _ _ s _ => s == n
  | .tight s _ => s == n
  | _ => false

/-- A row of bytes. -/
def bytesOf : List (List PV) → Option (List UInt8)
  | [] => some []
  | [.int .u8 n] :: r => (bytesOf r).map (UInt8.ofNat n.toNat :: ·)
  | _ => none

def aConv (src dst : TypeId) (x : SV) : Option SV :=
  match kindOf Y src, kindOf Y dst with
  | some (.int _), some (.int k) => match x with
    | .pv (.int _ n) => some (.int k (k.wrap n))
    | _ => none
  | some .str, some .str => match x with
    | .pv (.str l) => some (.pv (.str l))
    | _ => none
  | some (.slice e), some .str => match kindOf Y e, sliceElems x with
    | some (.int .u8), some es => if strideOk 1 x then (bytesOf es).map fun l => .pv (.str l) else none
    | _, _ => none
  | _, _ => none

def aLen (t : TypeId) (x : SV) : Option Nat :=
  match kindOf Y t, x with
  | some .str, .pv (.str l) => some l.length
  | some (.array n _), _ => some n
  | some (.slice _), .bsl _ _ n _ => some n
  | some (.slice _), .pv .empS => some 0
  | some (.slice _), .pv (.hdr n) => some n
  | some (.slice _), x => (sliceElems x).map (·.length)
  | _, _ => none

/-- The elements of a row that is read, as cells. -/
def srcCells (H : List Blk) (st : Nat) : SV → Option (Nat × List SV)
  | .pv .nilSlice => some (0, [])
  | .pv (.slice s es) => if s = st then some (es.length, es.flatten.map .pv) else none
  | .own _ _ s es => if s = st then some (es.length, es.flatten.map .pv) else none
  | .tight s es => if s = st then some (es.length, es.flatten.map .pv) else none
  | .bsl k off len s => match H[k]? with
    | some (.box _ cs) => if s = st ∧ off + len * st ≤ cs.length then some (len, (cs.drop off).take (len * st)) else none
    | _ => none
  | _ => none

/-- copy into a row over a box. -/
def aCopy (H : List Blk) (t : TypeId) (d s : SV) : Option (SV × List Blk) :=
  match kindOf Y t, d with
  | some (.slice e), .bsl k off len st => match Y e, H[k]?, srcCells H st s with
    | some y, some (.box tb cs), some (n, us) =>
      if y.size = st ∧ 0 < st ∧ off + len * st ≤ cs.length then some (.i (min n len : Nat), H.set k (.box tb (setCells cs off (us.take (min n len * st))))) else none
    | _, _, _ => none
  | _, _ => none

/-- clear of a row over a box. -/
def aClear (H : List Blk) (t : TypeId) (d : SV) : Option (SV × List Blk) :=
  match kindOf Y t, d with
  | some (.slice e), .bsl k off len st => match Y e, H[k]? with
    | some y, some (.box tb cs) =>
      if y.size = st ∧ 0 < st ∧ 0 < len ∧ off + len * st ≤ cs.length then some (.undef, H.set k (.box tb (setCells cs off ((List.replicate len (y.zero.map SV.pv)).flatten)))) else none
    | _, _ => none
  | _, _ => none

def maxRow : Nat := 70368744177664

def aAppend (H : List Blk) (t t2 : TypeId) (x s : SV) : Option (SV × List Blk) :=
  if t ≠ t2 then none else
  match kindOf Y t, sliceElems x, sliceElems s with
  | some (.slice e), some xs, some ss =>
    match Y e with
    | none => none
    | some y =>
      if ss.isEmpty then some (x, H)
      else if strideOk y.size x = true ∧ strideOk y.size s = true ∧ 0 < y.size ∧ (xs.length + ss.length) * y.bytes ≤ maxRow ∧ y.bytes ≤ 32768 ∧ y.bytes ≠ 0 ∧ xs.length + ss.length ≤ maxRow then
        match x with
        | .pv .nilSlice => some (.own H.length 0 y.size ss, H ++ [.tok 0 e])
        | .tight _ _ => some (.own H.length 0 y.size (xs ++ ss), H ++ [.tok 0 e])
        | .own k v _ _ => match H[k]? with
          | some (.tok v' e') => if v = v' ∧ e = e' then some (.own k (v + 1) y.size (xs ++ ss), H.set k (.tok (v + 1) e)) else none
          | _ => none
        | _ => none
      else none
  | _, _, _ => none

/-- A text's bytes, as a row. -/
def byteRow (l : List UInt8) : List (List PV) := l.map fun b => [PV.int .u8 (b.toNat : Int)]

def isU8 (Y : TypeId → Option Ty) (e : TypeId) : Bool := match kindOf Y e with
  | some (.int .u8) => true
  | _ => false

/-- A text that is appended to a row of bytes. -/
def strTo (t t2 : TypeId) (s : SV) : Option (List UInt8) := match kindOf Y t2 with
  | some .str => match kindOf Y t with
    | some (.slice e) => if isU8 Y e then (match s with
      | .pv (.str l) => some l
      | _ => none) else none
    | _ => none
  | _ => none

def aAppendX (H : List Blk) (t t2 : TypeId) (x s : SV) : Option (SV × List Blk) := match strTo Y t t2 s with
  | some l => aAppend Y H t t x (.tight 1 (byteRow l))
  | none => aAppend Y H t t2 x s

def aMinMax (mx : Bool) : List SV → Option SV
  | [.pv (.int k a), .pv (.int k' b)] => if k = k' then some (.int k (if mx then (if b > a then b else a) else (if b < a then b else a))) else none
  | _ => none

def specFn : Spec → List SV → List Blk → Option (SV × List Blk)
  | .pure fr F, args, H => match purL args with
    | some as => match F as with
      | some r => placeR fr H r
      | none => none
    | none => none
  | .heap F, args, H => F args H
  | .read F, args, H => match resCs (resC H 4) args with
    | some as => match F as with
      | some p => some (.pv p, H)
      | none => none
    | none => none

def aCall (H : List Blk) (g : FuncId) (args : List SV) : Option (SV × List Blk) :=
  match T g with
  | some S => specFn S args H
  | none => none

def aBuiltin (H : List Blk) (b : Builtin) (ts : List TypeId) (args : List SV) : Option (SV × List Blk) :=
  match b, ts, args with
  | .len, [t], [x] => (aLen Y t x).map fun n => (.i n, H)
  | .append, [t, t2], [x, s] => aAppendX Y H t t2 x s
  | .max, _, l => (aMinMax true l).map (·, H)
  | .min, _, l => (aMinMax false l).map (·, H)
  | .copy, [t, _], [d, s] => aCopy Y H t d s
  | .clear, [t], [d] => aClear Y H t d
  | _, _, _ => none

/-- A new row of zero values, one that may be written. -/
def aMakeSlice (H : List Blk) (t : TypeId) (a b : Int) : Option (SV × List Blk) :=
  match kindOf Y t with
  | some (.slice e) => match Y e with
    | some y => if a = b ∧ 0 ≤ a ∧ (y.bytes : Int) * b ≤ 281474976710656 ∧ b ≤ 70368744177664 ∧ 0 < y.size then
        some (.bsl H.length 0 a.toNat y.size, H ++ [.box none ((List.replicate a.toNat (y.zero.map SV.pv)).flatten)])
      else if a = 0 ∧ 0 < b ∧ (y.bytes : Int) * b ≤ 281474976710656 ∧ b ≤ 70368744177664 ∧ 0 < y.size then some (.own H.length 0 y.size [], H ++ [.tok 0 e]) else none
    | none => none
  | _ => none

/-- A constant, as the text has it. -/
def cst : Operand → Bool
  | .const _ => true
  | _ => false

def aMakeFunc (ρ : Operand → Option SV) (fn : Fn) (first caps : List Operand) : Option SV :=
  match fn, first, avals ρ caps with
  | .func f, [], some [] => some (.pv (.fn f))
  | .func f, [], some vs => some (.clo f vs)
  | _, _, _ => none

/-- All that is called by value leaves the heap: so says a mark in the table. -/
def tame : Bool := match T 2 with
  | some (.read _) => true
  | _ => false

/-- A row over a box may be read as a text: so says a mark in the table. -/
def bslOk : Bool := match T 3 with
  | some (.read _) => true
  | _ => false

/-- A text as a row of bytes, and a row over a box as a text. -/
def aConvY (H : List Blk) (src dst : TypeId) (x : SV) : Option SV := match kindOf Y src, kindOf Y dst with
  | some .str, some (.slice e) => if isU8 Y e then (match x with
    | .pv (.str l) => some (.pv (.slice 1 (byteRow l)))
    | _ => none) else none
  | some (.slice e), some .str => if isU8 Y e && bslOk T then (match x with
    | .bsl k off len st => match H[k]? with
      | some (.box _ cs) => if st = 1 ∧ off + len ≤ cs.length then (match pcells ((cs.drop off).take len) with
        | some ps => (bytesOf (chunks 1 len ps)).map fun l => .pv (.str l)
        | none => none) else none
      | _ => none
    | _ => none) else none
  | _, _ => none

def aConvX (H : List Blk) (src dst : TypeId) (x : SV) : Option SV := match aConv Y src dst x with
  | some r => some r
  | none => aConvY Y T H src dst x

def aCallD (H : List Blk) (g : FuncId) (args : List SV) : Option (SV × List Blk) :=
  match tame T with
  | false => aCall T H g args
  | true => match T g with
    | some (.read F) => specFn (.read F) args H
    | some (.pure false F) => specFn (.pure false F) args H
    | _ => none

def aCallee (H : List Blk) (f : SV) (args : List SV) : Option (SV × List Blk) :=
  match f with
  | .pv (.fn g) => aCallD T H g args
  | .clo g caps => aCallD T H g (args ++ caps)
  | _ => none

def aCallOp (H : List Blk) (ρ : Operand → Option SV) (c : Call) : Option (SV × List Blk) :=
  match c.callee, avals ρ c.args.toList with
  | .builtin b, some vs => aBuiltin Y H b c.argTypes.toList vs
  | .value f, some vs => match ρ f with
    | some v => aCallee T H v vs
    | none => none
  | _, _ => none

def aop (H : List Blk) (ρ : Operand → Option SV) (op : Op) : Option (SV × List Blk) :=
  match op with
  | .move x => (ρ x).map (·, H)
  | .assign x => (ρ x).map (·, H)
  | .pick c a b => match ρ c with
    | some (.pv (.bool t)) => if t then (ρ a).map (·, H) else (ρ b).map (·, H)
    | _ => none
  | .alloc t => (Y t).map fun y => (.ptr H.length 0, H ++ [.box (some t) (y.zero.map .pv)])
  | .box t x => match ρ x with
    | some v => (cellsOf v).map fun cs => (.ptr H.length 0, H ++ [.box (some t) cs])
    | none => none
  | .build t ps => (aBuild Y t ρ ps.toList).map (·, H)
  | .buildSlice t n ps => (aBuildSlice Y t n ρ ps.toList).map (·, H)
  | .load t a => match ρ a with
    | some v => (aLoad Y H t v).map (·, H)
    | none => none
  | .store t a x => match ρ a, ρ x with
    | some v, some u => (aStore Y H t v u).map (SV.undef, ·)
    | _, _ => none
  | .nilCheck x => match ρ x with
    | some (.ptr k o) => some (.ptr k o, H)
    | some (.cptr cs) => some (.cptr cs, H)
    | _ => none
  | .binOp op t x y _ => match ρ x, ρ y with
    | some u, some v => (aBin Y op t (cst x) (cst y) u v).map (·, H)
    | _, _ => none
  | .unOp op _ x => match ρ x with
    | some u => (aUn op u).map (·, H)
    | none => none
  | .convert s d x => match ρ x with
    | some u => (aConvX Y T H s d u).map (·, H)
    | none => none
  | .makeInterface t x => match ρ x, kindOf Y t with
    | some u, some k => match k with
      | .iface => none
      | _ => (pcell u).map fun p => (.pv (.iface t p), H)
    | _, _ => none
  | .makeFunc fn first caps => (aMakeFunc ρ fn first.toList caps.toList).map (·, H)
  | .makeSlice t a b => match ρ a, ρ b with
    | some (.pv (.int _ n)), some (.pv (.int _ m)) => aMakeSlice Y H t n m
    | _, _ => none
  | .slice t x lo hi mx => match ρ x with
    | some u => (aSlice Y t u ρ lo hi mx).map (·, H)
    | none => none
  | .fieldAddr t x f => match ρ x with
    | some u => (aFieldAddr Y t u f).map (·, H)
    | none => none
  | .field t x f => match ρ x with
    | some u => (aField Y t u f).map (·, H)
    | none => none
  | .indexAddr t x i => match ρ x, ρ i with
    | some u, some (.pv (.int _ n)) => (aIndexAddr Y t u n).map (·, H)
    | _, _ => none
  | .index t x i => match ρ x, ρ i with
    | some u, some (.pv (.int _ n)) => (aIndex Y t u n).map (·, H)
    | _, _ => none
  | .extract x i => match ρ x with
    | some (.tuple l) => (l[i]?).map (·, H)
    | _ => none
  | .call c => aCallOp Y T H ρ c
  | _ => none

/-- An operation that makes a box. -/
def isNew : Op → Bool
  | .alloc _ | .box _ _ => true
  | _ => false

/-- What the box made holds, behind its type. -/
def newCells (ρ : Operand → Option SV) : Op → Option (Option TypeId × List SV)
  | .alloc t => (Y t).map fun y => (some t, y.zero.map .pv)
  | .box t x => match ρ x with
    | some v => (cellsOf v).map fun cs => (some t, cs)
    | none => none
  | _ => none

/-- A place kept ahead is filled. -/
def fill (H : List Blk) (k : Nat) (c : Option TypeId × List SV) : Option (SV × List Blk) := match H[k]? with
  | some .hole => some (.ptr k 0, H.set k (.box c.1 c.2))
  | _ => none

def isLoad : Op → Bool
  | .load _ _ => true
  | _ => false
def isStore : Op → Bool
  | .store _ _ _ => true
  | _ => false
/-- Where places are kept and something is stored: the boxes from 'base' on are written alone, those ahead of it read alone. -/
def memOk (base : Nat) (ρ : Operand → Option SV) : Op → Bool
  | .load _ a => match ρ a with
    | some (.ptr k _) => decide (k < base)
    | _ => true
  | .store _ a _ => match ρ a with
    | some (.ptr k _) => decide (base ≤ k)
    | _ => false
  | _ => true
def ifM {α : Type} : Bool → Option α → Option α
  | true, x => x
  | false, _ => none
def memC (ρ : Operand → Option SV) (op : Op) (x : Option (SV × List Blk)) : Option Nat → Option (SV × List Blk)
  | none => x
  | some base => ifM (memOk base ρ op) x

/-- Places kept by slot; or a box that is watched, and how many blocks there were. -/
structure PL where
  fn : Option Tmp → Option Nat
  wm : Option (Nat × Nat)
  /-- stores write the watched box alone -/
  ws : Bool
instance : CoeFun PL fun _ => Option Tmp → Option Nat := ⟨PL.fn⟩

/-- Nothing but the watched box turns, and what is new. -/
def FrameW (w : Nat) (H H' : List Blk) : Prop := H.length ≤ H'.length ∧ ∀ j, j < H.length → j ≠ w → H'[j]? = H[j]?
open Classical in
noncomputable def ifP {α : Type} (p : Prop) (x : Option α) : Option α := if p then x else none
noncomputable def frameC (w n : Nat) (H : List Blk) : Option (SV × List Blk) → Option (SV × List Blk)
  | some (v, H') => ifP (H' = H ∨ (n ≤ H.length ∧ FrameW w H H')) (some (v, H'))
  | none => none
def isCallV : Op → Bool
  | .call c => match c.callee with
    | .value _ => true
    | _ => false
  | _ => false
def addrOf : Op → Option Operand
  | .load _ a => some a
  | .store _ a _ => some a
  | _ => none
def loadW (w n : Nat) (x : Option (SV × List Blk)) : Option SV → Option (SV × List Blk)
  | some (.ptr k _) => ifM (decide (k ≠ w) && decide (k < n)) x
  | _ => x
/-- Where a box is watched: calls write it alone, the others alone are read. -/
noncomputable def watchC (st : Bool) (w n : Nat) (H : List Blk) (ρ : Operand → Option SV) (op : Op) (x : Option (SV × List Blk)) : Option (SV × List Blk) :=
  bif isLoad op then loadW w n x ((addrOf op).bind ρ) else bif isCallV op || (isStore op && st) then frameC w n H x else x

/-- An operation where places may have been kept for new boxes, by slot. -/
noncomputable def aopP (pl : PL) (dst : Option Tmp) (H : List Blk) (ρ : Operand → Option SV) (op : Op) : Option (SV × List Blk) :=
  match pl.wm with
  | some (w, n) => watchC pl.ws w n H ρ op (aop Y T H ρ op)
  | none => bif isNew op then (match pl dst with
    | some k => match newCells Y ρ op with
      | some cs => fill H k cs
      | none => none
    | none => aop Y T H ρ op) else bif isLoad op || isStore op then memC ρ op (aop Y T H ρ op) (pl none) else aop Y T H ρ op

def newDsts : List Oper → List Tmp
  | [] => []
  | o :: r => bif isNew o.op then (match o.dst with
    | some d => d :: newDsts r
    | none => newDsts r) else newDsts r

def hasStore : List Oper → Bool
  | [] => false
  | o :: r => isStore o.op || hasStore r
def hasGuardedLoad : List Oper → Bool
  | [] => false
  | o :: r => (isLoad o.op && o.guard.isSome) || hasGuardedLoad r
/-- What is stored and what is read, perhaps, lie apart: the newest box is written alone, the others are read alone. -/
def strictL (ops : List Oper) : Bool := hasGuardedLoad ops && hasStore ops

def isApp : Op → Bool
  | .call c => match c.callee with
    | .builtin .append => true
    | _ => false
  | _ => false
def hasApp : List Oper → Bool
  | [] => false
  | o :: r => isApp o.op || hasApp r
def hasLoadL : List Oper → Bool
  | [] => false
  | o :: r => isLoad o.op || hasLoadL r
def oneL (ops : List Oper) : Bool := (hasApp ops || hasLoadL ops) && hasStore ops

/-- The order is drawn, and two boxes or more are made: their places are kept ahead. Or one beside an append and a store. Or none is made and strictL. -/
def modeL (ops : List Oper) : List Tmp → Bool
  | _ :: _ :: _ => true
  | [_] => oneL ops
  | [] => strictL ops
def held (ops : List Oper) : Bool → Bool
  | true => modeL ops (newDsts ops)
  | false => false
/-- The functions whose calls are watched, at this program. -/
def watchIds : List FuncId := [39, 62]
def idIn (g : FuncId) : List FuncId → Bool
  | [] => false
  | x :: r => (g == x) || idIn g r
def isCallW : Op → Bool
  | .call c => match c.callee with
    | .value (.func g) => idIn g watchIds
    | _ => false
  | _ => false
def hasCallW : List Oper → Bool
  | [] => false
  | o :: r => isCallW o.op || hasCallW r
def storeN : List Oper → Nat
  | [] => 0
  | o :: r => bif isStore o.op then storeN r + 1 else storeN r
def isBuild0 : Op → Bool
  | .build _ ps => ps.isEmpty
  | _ => false
/-- A value is built, and stored last: what is read is not what is stored. -/
def lateL : List Oper → Bool
  | [] => false
  | o :: r => isBuild0 o.op && hasStore r && !hasCallW r
def watching (ops : List Oper) (d : Bool) : Bool := d && hasLoadL ops && (hasCallW ops || lateL ops)
/-- The slot that points to the watched box. -/
def tmpOf : Operand → Tmp
  | .tmp t => t
  | _ => 0
def watch0 : List Oper → Tmp
  | [] => 0
  | o :: r => match o.op with
    | .call c => match c.callee, c.args.toList with
      | .value (.func g), x :: _ => bif idIn g watchIds then tmpOf x else watch0 r
      | _, _ => watch0 r
    | .store _ a _ => tmpOf a
    | _ => watch0 r
def stepBack (t : Tmp) : List Oper → Option Tmp
  | [] => none
  | o :: r => match o.dst with
    | some d => bif d == t then (match o.op with
      | .move (.tmp u) => some u
      | .nilCheck (.tmp u) => some u
      | .fieldAddr _ (.tmp u) _ => some u
      | _ => none) else stepBack t r
    | none => stepBack t r
def traceB (ops : List Oper) : Nat → Tmp → Tmp
  | 0, t => t
  | n + 1, t => match stepBack t ops with
    | some u => traceB ops n u
    | none => t
def watchTmp (ops : List Oper) : Tmp := traceB ops 8 (watch0 ops)
/-- The box that is watched. -/
def watchK : Option SV → Option Nat
  | some (.ptr k _) => some k
  | some (.pv _) => some 0
  | _ => none
def mbase (H : List Blk) : List Tmp → Nat
  | [] => H.length - 1
  | _ => H.length

def noPl : PL := ⟨fun _ => none, none, false⟩
def watchPl (st : Bool) (w n : Nat) : PL := ⟨fun _ => none, some (w, n), st⟩
def plFrom (d : Tmp) : Nat → List Tmp → Option Nat
  | _, [] => none
  | n, x :: r => bif Nat.beq x d then some n else plFrom d (n + 1) r
def plFn (st : Bool) (base : Nat) (ds : List Tmp) : Option Tmp → Option Nat
  | some d => plFrom d base ds
  | none => bif st then some base else none
def plOf (st : Bool) (base : Nat) (ds : List Tmp) : PL := ⟨plFn st base ds, none, false⟩
def keep (H : List Blk) (ds : List Tmp) : List Blk := H ++ List.replicate ds.length .hole

structure St where
  tm : List SV
  H : List Blk
  deriving Inhabited

def put (tm : List SV) (dst : Option Tmp) (v : SV) : List SV :=
  match dst with
  | some d => tm.set d v
  | none => tm

/-- The guard's answer; none where it is forgotten. -/
def aWanted (ops : List Oper) (tm : List SV) (o : Oper) : Option Bool :=
  match o.guard with
  | none => some true
  | some (j, want) => match (ops[j]?).bind (·.dst) with
    | some d => match tm[d]? with
      | some (.pv (.bool b)) => some (b == want)
      | some (.fresh _ _ _) => none
      | _ => some false
    | none => some false

noncomputable def aops (pl : PL) (ops : List Oper) : List Oper → St → Option St
  | [], s => some s
  | o :: r, s =>
    match aWanted ops s.tm o with
    | some true =>
      match aopP Y T pl o.dst s.H (aval s.tm) o.op with
      | some (v, H) => aops pl ops r ⟨put s.tm o.dst v, H⟩
      | none => none
    | some false => aops pl ops r ⟨put s.tm o.dst .undef, s.H⟩
    | none => none

/-- A region. -/
noncomputable def aregW (ops : List Oper) (s : St) : Option Nat → Option St
  | some w => aops Y T (watchPl (lateL ops) w s.H.length) ops ops s
  | none => none
noncomputable def aregN (ops : List Oper) (d : Bool) (s : St) : Option St :=
  bif held ops d then aops Y T (plOf (hasStore ops) (mbase s.H (newDsts ops)) (newDsts ops)) ops ops ⟨s.tm, keep s.H (newDsts ops)⟩ else
    bif watching ops d then aregW Y T ops s (watchK (aval s.tm (.tmp (watchTmp ops)))) else aops Y T noPl ops ops s

/-- The end of a drawn region that appends an element in place: an append of one zero element, its place, the element's store; the header's place and store. -/
structure Cus where
  t : TypeId
  e : TypeId
  sT : TypeId
  f : Nat
  xs : Tmp
  z : Tmp
  ix : Tmp
  v : Tmp
  bx : Tmp
  r : Tmp
  p : Tmp
  q : Tmp
  h : Tmp

def appT (o : Oper) : Option (Tmp × Tmp × Tmp × TypeId) := match o.guard, o.op with
  | none, .call cl => match cl.callee, o.dst, cl.args.toList, cl.argTypes.toList with
    | .builtin .append, some d, [.tmp x, .tmp y], [t, t'] => if t = t' then some (d, x, y, t) else none
    | _, _, _, _ => none
  | _, _ => none
def idxT (o : Oper) : Option (Tmp × Tmp × Tmp × TypeId) := match o.guard, o.dst, o.op with
  | none, some d, .indexAddr t (.tmp x) (.tmp i) => some (d, x, i, t)
  | _, _, _ => none
def stoT (o : Oper) : Option (Tmp × Tmp × TypeId) := match o.guard, o.dst, o.op with
  | none, none, .store t (.tmp x) (.tmp y) => some (x, y, t)
  | _, _, _ => none
def nilT (o : Oper) : Option (Tmp × Tmp) := match o.guard, o.dst, o.op with
  | none, some d, .nilCheck (.tmp x) => some (d, x)
  | _, _, _ => none
def fldT (o : Oper) : Option (Tmp × Tmp × TypeId × Nat) := match o.guard, o.dst, o.op with
  | none, some d, .fieldAddr t (.tmp x) f => some (d, x, t, f)
  | _, _, _ => none
def cusOk (c : Cus) : Bool := [c.r, c.p, c.q, c.h].all (fun d => d != c.v && d != c.ix && d != c.bx && d != c.xs && d != c.z) && c.r != c.p && c.r != c.q && c.r != c.h && c.p != c.q && c.p != c.h && c.q != c.h
def cusOf : List Oper → Option Cus
  | [a, i, s, n, g, h] => match appT a, idxT i, stoT s, nilT n, fldT g, stoT h with
    | some (r, xs, z, t), some (p, r1, ix, t1), some (p1, v, e), some (q, bx), some (hd, q1, sT, f), some (h1, r2, t2) =>
      if (r1 == r && t1 == t && p1 == p && q1 == q && h1 == hd && r2 == r && t2 == t && cusOk ⟨t, e, sT, f, xs, z, ix, v, bx, r, p, q, hd⟩) then some ⟨t, e, sT, f, xs, z, ix, v, bx, r, p, q, hd⟩ else none
    | _, _, _, _, _, _ => none
  | _ => none
def cusD (ops : List Oper) : Bool → Option Cus
  | true => cusOf (ops.drop 10)
  | false => none
/-- The edges that must bind. -/
def cusEdges (ops : List Oper) : Bool :=
  let on (i j : Nat) : Bool := match ops[i]? with
    | some o => o.after.toList.any fun e => Region.binds .any e && e.on == j
    | none => false
  ((List.range ops.length).all fun i => match ops[i]? with
    | some o => o.after.toList.all fun e => !Region.binds .any e || decide (e.on < i)
    | none => true) &&
  ((List.range 10).all fun j => on 10 j) && on 11 10 && on 12 10 && on 13 10 && on 14 10 && on 15 10 && on 12 11 && on 14 13 && on 15 14 && ((ops.take 10).all fun o => o.guard.isNone)

def atailR (c : Cus) (s : St) (x : SV) (ps : List PV) (k o : Nat) : Option St :=
  match aAppend Y s.H c.t c.t x (.tight ps.length [ps]) with
  | some (r, H1) => match aFieldAddr Y c.sT (.ptr k o) c.f with
    | some h => match aStore Y H1 c.t h r with
      | some H2 => some ⟨(((s.tm.set c.r r).set c.p (.cptr [])).set c.q (.ptr k o)).set c.h h, H2⟩
      | none => none
    | none => none
  | none => none
/-- The element itself is appended. -/
def atail (c : Cus) (s : St) : Option St :=
  match kindOf Y c.t, aval s.tm (.tmp c.xs), aval s.tm (.tmp c.v), aval s.tm (.tmp c.ix), aval s.tm (.tmp c.bx), aval s.tm (.tmp c.z) with
  | some (.slice e), some x, some (.agg vs), some (.pv (.int .i64 n)), some (.ptr k o), some (.tight _ [zs]) => match sliceElems x, pcells vs with
    | some xs, some ps => if e = c.e ∧ n = xs.length ∧ zs.length = ps.length ∧ strideOk ps.length x = true ∧ c.r < s.tm.length ∧ c.p < s.tm.length ∧ c.q < s.tm.length ∧ c.h < s.tm.length then atailR Y c s x ps k o else none
    | _, _ => none
  | _, _, _, _, _, _ => none
noncomputable def areg (ops : List Oper) (d : Bool) (s : St) : Option St := match cusD ops d with
  | none => aregN Y T ops d s
  | some c => match aregN Y T (ops.take 10) true s with
    | some s1 => atail Y c s1
    | none => none

inductive Out where
  | norm (s : St)
  | exit (id : Nat) (s : St)
  | ret (s : St)

noncomputable def acode : Nat → Code → St → Option Out
  | 0, _, _ => none
  | n + 1, c, s =>
    match c with
    | .skip => some (.norm s)
    | .region _ ops d => match areg Y T ops.toList d s with
      | some s' => some (.norm s')
      | none => none
    | .seq a b => match acode n a s with
      | some (.norm s') => acode n b s'
      | r => r
    | .cond x a b => match aval s.tm x with
      | some (.pv (.bool t)) => if t then acode n a s else acode n b s
      | _ => none
    | .block id b => match acode n b s with
      | some (.exit i s') => if i = id then some (.norm s') else some (.exit i s')
      | r => r
    | .loop b => match acode n b s with
      | some (.norm s') => acode n (.loop b) s'
      | r => r
    | .exit id => some (.exit id s)
    | .ret => some (.ret s)
    | .scope b => acode n b s
    | .label _ => some (.norm s)
    | _ => none

/-- Which of an operation's edges bind whatever the order's mode. -/
def maskOf (acc : List Nat) (o : Oper) : Nat := o.after.toList.foldl (fun m e => if Region.binds .any e then m ||| (2 ^ e.on) ||| acc.getD e.on 0 else m) 0

def masks : List Oper → List Nat → List Nat
  | [], acc => acc
  | o :: r, acc => masks r (acc ++ [maskOf acc o])

/-- The operation may change the interpreter's heap. -/
def effOp : Op → Bool
  | .store _ _ _ | .alloc _ | .box _ _ | .makeSlice _ _ _ => true
  | .call c => match c.callee with
    | .builtin .append | .builtin .copy | .builtin .clear => true
    | .builtin _ => false
    | .value (.func g) => match T g with
      | some (.pure fr _) => fr
      | some (.read _) => false
      | _ => true
    | .value _ => !tame T
    | _ => true
  | _ => false

/-- It may change boxes. -/
def boxOp : Op → Bool
  | .store _ _ _ | .alloc _ | .box _ _ | .makeSlice _ _ _ => true
  | .call c => match c.callee with
    | .builtin .copy | .builtin .clear => true
    | .builtin _ => false
    | .value (.func g) => match T g with
      | some (.pure _ _) => false
      | some (.read _) => false
      | _ => true
    | .value _ => !tame T
    | _ => true
  | _ => false

/-- It may look into boxes. -/
def lookOp : Op → Bool
  | .load _ _ => true
  | .convert _ _ _ => bslOk T
  | .call c => match c.callee with
    | .builtin .copy => true
    | .builtin _ => false
    | .value (.func g) => match T g with
      | some (.pure _ _) => false
      | _ => true
    | _ => true
  | _ => false

/-- A region whose order is drawn comes to one end, whatever the order. -/
def drawOk (ops : List Oper) : Bool :=
  let ms := masks ops []
  let is := List.range ops.length
  let h := held ops true
  let wm := !h && watching ops true
  let before (i j : Nat) : Bool := (ms.getD j 0).testBit i
  is.all fun i => match ops[i]? with
    | none => true
    | some o =>
      (o.after.toList.all fun e => !Region.binds .any e || decide (e.on < i)) &&
      (is.all fun j => match ops[j]? with
        | none => true
        | some p =>
          (i == j || match p.dst with
            | none => true
            | some d => o.dst != some d && (!(o.looksAt ops.toArray).contains d || before j i || before i j)) &&
          (i == j || !(effOp T o.op && effOp T p.op) || before i j || before j i || (h && isNew o.op && isNew p.op && o.dst.isSome && p.dst.isSome) || (h && isNew o.op && o.dst.isSome && isApp p.op) || (h && isNew p.op && p.dst.isSome && isApp o.op)) &&
          (i == j || !(lookOp T o.op && boxOp T p.op) || before i j || before j i || (h && isNew p.op && p.dst.isSome && !effOp T o.op && decide (i < j)) || (h && isLoad o.op && isStore p.op && decide (i < j)) || (wm && isLoad o.op && (isCallV p.op || (isStore p.op && lateL ops)))) && (!before i j || decide (i < j))) &&
      (match o.dst with
        | none => true
        | some d => !(o.looksAt ops.toArray).contains d)

def codeOk : Code → Bool
  | .region _ ops true => match cusD ops.toList true with
    | none => drawOk T ops.toList
    | some _ => drawOk T (ops.toList.take 10) && cusEdges ops.toList && decide (ops.size = 16)
  | .seq a b => codeOk a && codeOk b
  | .cond _ a b => codeOk a && codeOk b
  | .block _ b => codeOk b
  | .loop b => codeOk b
  | .scope b => codeOk b
  | _ => true

def aresult (s : St) : ResultVar → Option SV
  | .tmp t => live (s.tm.getD t .undef)
  | .cell a t => aLoad Y s.H t (s.tm.getD a .undef)

def aresults (s : St) : List ResultVar → Option (List SV)
  | [] => some []
  | r :: rs => match aresult Y s r with
    | some v => match aresults s rs with
      | some vs => some (v :: vs)
      | none => none
    | none => none

def pack : List SV → SV
  | [v] => v
  | l => .tuple l

def finish (rs : List ResultVar) : Option Out → Option (SV × List Blk)
  | some (.norm s) => (aresults Y s rs).map fun vs => (pack vs, s.H)
  | some (.ret s) => (aresults Y s rs).map fun vs => (pack vs, s.H)
  | _ => none

def enter (nt : Nat) (args : List SV) (H : List Blk) : St := ⟨args ++ List.replicate (nt - args.length) .undef, H⟩

noncomputable def arun (fn : Func) (fuel : Nat) (args : List SV) (H : List Blk) : Option (SV × List Blk) :=
  match fn.body with
  | some c => finish Y fn.results.toList (acode Y T fuel c (enter fn.ntmps args H))
  | none => none

end ops

/-- A result as its caller may take it: the tokens that are current become fresh. -/
def outP (H : List Blk) : SV → Option SV
  | .pv p => some (.pv p)
  | .tight s es => some (.tight s es)
  | .own k v s es => match H[k]? with
    | some (.tok v' e) => if v = v' then some (.fresh e s es) else some (.pv (.slice s es))
    | _ => some (.pv (.slice s es))
  | .agg cs => (pcells cs).map fun ps => .agg (ps.map .pv)
  | .bsl k off len st => match H[k]? with
    | some (.box _ cs) => if 0 < st ∧ off + len * st ≤ cs.length then (pcells ((cs.drop off).take (len * st))).map fun ps => .pv (.slice st (chunks st len ps)) else none
    | _ => none
  | _ => none

def outL (H : List Blk) : List SV → Option (List SV)
  | [] => some []
  | c :: r => match outP H c with
    | some p => match outL H r with
      | some ps => some (p :: ps)
      | none => none
    | none => none

/-- A function's result, as its callers may take it. -/
def isOwn : SV → Bool
  | .own _ _ _ _ => true
  | _ => false

def outR (H : List Blk) : SV → Option SV
  | .tuple l => if (l.filter isOwn).length ≤ 1 then (outL H l).map .tuple else none
  | x => outP H x
theorem aCallD_sub {T : FuncId → Option Spec} {g : FuncId} {as : List SV} {H H' : List Blk} {v : SV} (h : aCallD T H g as = some (v, H')) : aCall T H g as = some (v, H') := by
  unfold aCallD at h
  split at h
  · exact h
  · unfold aCall
    split at h
    · rename_i hT; rw [hT]; exact h
    · rename_i hT; rw [hT]; exact h
    · cases h

end Go.Pm
