/- A part of the proof of the claim of this folder (Am). -/
import GoSem.Dispatch
set_option autoImplicit true
set_option relaxedAutoImplicit true
set_option linter.all false
set_option linter.deprecated false
set_option linter.unnecessarySimpa false
set_option linter.unusedSectionVars false
set_option linter.unusedSimpArgs false
set_option linter.unusedVariables false
/-! The abstract machine: values, heap, code, runs. No theorem here. -/
namespace Go.AM

/-- Values of the abstract machine. -/
inductive AVal where
  | bool (b : Bool)
  | int (k : IntKind) (n : Int)
  | str (s : List Nat)
  | nilptr
  | ptr (id off : Nat)
  | nilslice
  | slice (id off len lo : Nat) (exact : Bool) (size : Nat)
  | nilfn
  | fn (f : Nat) (first captured : List AVal)
  | yield (l : Nat)
  | niliface
  | iface (t : Nat) (v : AVal)
  | nilmap
  | map (id : Nat)
  | agg (cs : List AVal)
  | tup (cs : List AVal)
  deriving Inhabited

def undefA : AVal := .tup []

mutual
/-- The same? (true only if so) -/
def AVal.beq : AVal → AVal → Bool
  | .bool a, .bool b => a == b
  | .int k n, .int k' n' => decide (k = k') && decide (n = n')
  | .str a, .str b => decide (a = b)
  | .nilptr, .nilptr | .nilslice, .nilslice | .nilfn, .nilfn | .niliface, .niliface | .nilmap, .nilmap => true
  | .ptr a b, .ptr a' b' => a == a' && b == b'
  | .slice a b c d e f, .slice a' b' c' d' e' f' => a == a' && b == b' && c == c' && d == d' && e == e' && f == f'
  | .fn f a b, .fn f' a' b' => f == f' && AVal.beqs a a' && AVal.beqs b b'
  | .yield a, .yield b => a == b
  | .iface t v, .iface t' v' => t == t' && AVal.beq v v'
  | .map a, .map b => a == b
  | .agg a, .agg b => AVal.beqs a b
  | .tup a, .tup b => AVal.beqs a b
  | _, _ => false
def AVal.beqs : List AVal → List AVal → Bool
  | [], [] => true
  | a :: l, b :: m => AVal.beq a b && AVal.beqs l m
  | _, _ => false
end

mutual
/-- All blocks behind it are elder than n. -/
def AVal.elder (n : Nat) : AVal → Bool
  | .ptr id _ => decide (id < n)
  | .slice id .. => decide (id < n)
  | .fn _ a b => AVal.elders n a && AVal.elders n b
  | .yield l => decide (l < n)
  | .iface _ v => AVal.elder n v
  | .map id => decide (id < n)
  | .agg l => AVal.elders n l
  | .tup l => AVal.elders n l
  | _ => true
def AVal.elders (n : Nat) : List AVal → Bool
  | [] => true
  | a :: l => AVal.elder n a && AVal.elders n l
end

/-- A table keyed by numbers. -/
inductive PT (α : Type) where
  | leaf
  | node (l : PT α) (v : Option α) (r : PT α)
  deriving Inhabited

def PT.get {α : Type} : PT α → Nat → Option α
  | .leaf, _ => none
  | .node l v r, n => match n with
    | 0 => v
    | k + 1 => if k % 2 = 0 then l.get (k / 2) else r.get (k / 2)

def PT.setF {α : Type} (x : α) : Nat → PT α → Nat → PT α
  | 0, t, _ => t
  | f + 1, t, n =>
    match t, n with
    | .leaf, 0 => .node .leaf (some x) .leaf
    | .leaf, k + 1 => if k % 2 = 0 then .node (PT.setF x f .leaf (k / 2)) none .leaf else .node .leaf none (PT.setF x f .leaf (k / 2))
    | .node l _ r, 0 => .node l (some x) r
    | .node l v r, k + 1 => if k % 2 = 0 then .node (PT.setF x f l (k / 2)) v r else .node l v (PT.setF x f r (k / 2))

def PT.set {α : Type} (t : PT α) (n : Nat) (x : α) : PT α := PT.setF x (n + 1) t n

inductive AOpd where
  | tmp (t : Nat)
  | const (v : AVal)
  deriving Inhabited

/-- The kinds of plain cells. -/
inductive SK where
  | b | i | s
  deriving Inhabited, DecidableEq

inductive EqK where
  | bool | plain (ks : List SK) | iface | ptr | nilsl | nilfn
  deriving Inhabited, DecidableEq

/-- Whose length: of a text, a slice, a map. -/
inductive LK where
  | s | l | m
  deriving Inhabited, DecidableEq

inductive AOp where
  | mov (x : AOpd)
  | pick (c a b : AOpd)
  | new (cells : List AVal)
  | box (n : Nat) (x : AOpd)
  | build (zero : List AVal) (parts : List (Nat × Nat × AOpd))
  | buildSlice (cells : List AVal) (len size : Nat) (parts : List (Nat × Nat × AOpd))
  | load1 (x : AOpd)
  | loadN (n : Nat) (x : AOpd)
  | store (n : Nat) (x v : AOpd)
  | nilCheck (x : AOpd)
  | bin (op : BinOp) (x y : AOpd)
  | eq (k : EqK) (neg : Bool) (x y : AOpd)
  | un (op : UnOp) (x : AOpd)
  | convInt (k : IntKind) (x : AOpd)
  | same (x : AOpd)
  | strToBytes (x : AOpd)
  | bytesToStr (x : AOpd)
  | mkIface (t : Nat) (x : AOpd)
  | makeFunc (f : Nat) (first captured : List AOpd)
  | makeSlice (zero : List AVal) (bytes : Nat) (len cap : AOpd)
  | sliceStr (x : AOpd) (lo hi : Option AOpd)
  | sliceSl (size : Nat) (x : AOpd) (lo hi max : Option AOpd)
  | sliceArr (n size : Nat) (x : AOpd) (lo hi : Option AOpd)
  | addOff (k : Nat) (x : AOpd)
  | part (agg : Bool) (off n : Nat) (x : AOpd)
  | idxAddrSl (size : Nat) (x i : AOpd)
  | idxAddrArr (len size : Nat) (x i : AOpd)
  | idxArr (agg : Bool) (len size : Nat) (x i : AOpd)
  | idxStr (x i : AOpd)
  | extract (x : AOpd) (k : Nat)
  | call (f : Nat) (args : List AOpd)
  | callv (x : AOpd) (args : List AOpd)
  | append (zero : List AVal) (bytes : Nat) (x y : AOpd)
  | appendZeros (zero : List AVal) (bytes : Nat) (x n : AOpd)
  | copy (size : Nat) (x y : AOpd)
  | clear (zero : List AVal) (x : AOpd)
  | len (k : LK) (x : AOpd)
  | cap (x : AOpd)
  | max (args : List AOpd)
  | min (args : List AOpd)
  | makeMap
  | mapSet (m k v : AOpd)
  | mapGet (zero : AVal) (ok : Bool) (m k : AOpd)
  | fail
  deriving Inhabited

structure AOper where
  dst : Option Nat
  guard : Option (Nat × Bool)
  op : AOp
  deriving Inhabited

/-- An operation of a region whose order is drawn, in the order that we take: its place in the region; does it write; at how many writes at least does it stand in every order. -/
structure DOper where
  o : AOper
  at_ : Nat
  eff : Bool
  lo : Nat
  /-- the write just ahead with which it may change places -/
  swap : Option (Nat × AOper)
  deriving Inhabited

inductive ACode where
  | skip
  | ops (l : List AOper)
  | draw (l : List DOper)
  | seq (a b : ACode)
  | cond (c : AOpd) (thn els : ACode)
  | block (id : Nat) (body : ACode)
  | loop (body : ACode)
  | rangeFunc (f : AOpd) (params : List Nat) (assign body : ACode)
  | exit (id : Nat)
  | ret
  | fail
  deriving Inhabited

abbrev Tmps := PT AVal

inductive LState where
  | ready | busy | done
  deriving Inhabited, DecidableEq

inductive Pend where
  | none | ret | exit (id : Nat)
  deriving Inhabited, DecidableEq

inductive AObj where
  | cells (l : List AVal)
  | dead
  | loop (st : LState) (pend : Pend) (tmps : Tmps) (params : List Nat) (assign body : ACode)
  | map (l : List (AVal × AVal))
  deriving Inhabited

structure AHeap where
  next : Nat
  tbl : PT AObj
  deriving Inhabited

def AHeap.get (h : AHeap) (id : Nat) : Option AObj := h.tbl.get id
def AHeap.put (h : AHeap) (id : Nat) (o : AObj) : AHeap := { next := h.next, tbl := h.tbl.set id o }
def AHeap.new (h : AHeap) (o : AObj) : AHeap := { next := h.next + 1, tbl := h.tbl.set h.next o }
def AHeap.row (h : AHeap) (id : Nat) : Option (List AVal) :=
  match h.get id with
  | some (.cells l) => some l
  | _ => none

def Tmps.at (T : Tmps) (t : Nat) : AVal := (PT.get T t).getD undefA

def Tmps.eval (T : Tmps) : AOpd → AVal
  | .tmp t => T.at t
  | .const v => v

def AVal.cells : AVal → List AVal
  | .agg cs => cs
  | v => [v]

/-- Neither a struct nor several parts. -/
def AVal.scalar : AVal → Bool
  | .agg _ => false
  | .tup _ => false
  | _ => true

/-- No result of several parts. -/
def AVal.whole : AVal → Bool
  | .tup _ => false
  | _ => true

/-- n cells of a row from a place on. -/
def take? (n off : Nat) (l : List AVal) : Option (List AVal) :=
  if off + n ≤ l.length then some ((l.drop off).take n) else none

def splice (l : List AVal) (off : Nat) (new : List AVal) : List AVal := l.take off ++ new ++ l.drop (off + new.length)

def splice? (l : List AVal) (off : Nat) (new : List AVal) : Option (List AVal) :=
  if off + new.length ≤ l.length then some (splice l off new) else none

def fillParts (cells : List AVal) : List (Nat × Nat × AVal) → Option (List AVal)
  | [] => some cells
  | (off, size, x) :: rest =>
    if x.cells.length = size ∧ x.whole = true then
      match splice? cells off x.cells with
      | some cells => fillParts cells rest
      | none => none
    else none

def zerosN (zero : List AVal) : Nat → List AVal
  | 0 => []
  | n + 1 => zero ++ zerosN zero n

def bytesLt : List Nat → List Nat → Bool
  | _, [] => false
  | [], _ :: _ => true
  | a :: x, b :: y => if a < b then true else if a = b then bytesLt x y else false

def intBin (op : BinOp) (k : IntKind) (a b : Int) : Option AVal :=
  match op with
  | .add => some (.int k (k.wrap (a + b)))
  | .sub => some (.int k (k.wrap (a - b)))
  | .mul => some (.int k (k.wrap (a * b)))
  | .quo => if b = 0 then none else some (.int k (k.wrap (a.tdiv b)))
  | .rem => if b = 0 then none else some (.int k (a.tmod b))
  | .and => some (.int k (k.wrap (((BitVec.ofInt k.bits a) &&& (BitVec.ofInt k.bits b)).toNat : Nat)))
  | .or => some (.int k (k.wrap (((BitVec.ofInt k.bits a) ||| (BitVec.ofInt k.bits b)).toNat : Nat)))
  | .xor => some (.int k (k.wrap (((BitVec.ofInt k.bits a) ^^^ (BitVec.ofInt k.bits b)).toNat : Nat)))
  | .andNot => none
  | .eql => some (.bool (decide (a = b)))
  | .neq => some (.bool (!decide (a = b)))
  | .lss => some (.bool (decide (a < b)))
  | .leq => some (.bool (decide (a ≤ b)))
  | .gtr => some (.bool (decide (b < a)))
  | .geq => some (.bool (decide (b ≤ a)))
  | .shl => none
  | .shr => none

def shiftBin (op : BinOp) (k : IntKind) (a b : Int) : Option AVal :=
  if b < 0 then none
  else
    match op with
    | .shl => some (.int k (k.wrap (a * 2 ^ (min b.toNat k.bits))))
    | .shr => some (.int k (a.fdiv (2 ^ (min b.toNat k.bits))))
    | _ => none

def strBin (op : BinOp) (a b : List Nat) : Option AVal :=
  match op with
  | .add => if a.length + b.length < 2 ^ 47 then some (.str (a ++ b)) else none
  | .eql => some (.bool (decide (a = b)))
  | .neq => some (.bool (!decide (a = b)))
  | .lss => some (.bool (bytesLt a b))
  | .leq => some (.bool (bytesLt a b || decide (a = b)))
  | .gtr => some (.bool (!(bytesLt a b || decide (a = b))))
  | .geq => some (.bool (!bytesLt a b))
  | _ => none

def isShift : BinOp → Bool
  | .shl | .shr => true
  | _ => false

def binA (op : BinOp) (x y : AVal) : Option AVal :=
  match x, y with
  | .int k a, .int k' b => if isShift op then shiftBin op k a b else if k = k' then intBin op k a b else none
  | .str a, .str b => strBin op a b
  | _, _ => none

/-- Equal, of bools, whole numbers, texts; none: not told. -/
def plainEq (k : SK) (x y : AVal) : Option Bool :=
  match k, x, y with
  | .b, .bool a, .bool b => some (a == b)
  | .i, .int k a, .int k' b => if k = k' then some (decide (a = b)) else none
  | .s, .str a, .str b => some (decide (a = b))
  | _, _, _ => none

def plainEqs : List SK → List AVal → List AVal → Option Bool
  | [], [], [] => some true
  | k :: ks, a :: l, b :: m =>
    match plainEq k a b with
    | some true => plainEqs ks l m
    | some false => some false
    | none => none
  | _, _, _ => none

def eqBool (x y : AVal) : Option Bool :=
  match x, y with
  | .bool a, .bool b => some (a == b)
  | _, _ => none

def eqAgg (ks : List SK) (x y : AVal) : Option Bool :=
  match x, y with
  | .agg a, .agg b => if a.length = ks.length ∧ b.length = ks.length then plainEqs ks a b else none
  | _, _ => none

def eqIface (x y : AVal) (lit : Bool) : Option Bool :=
  match x, y with
  | .niliface, .niliface => if lit then some true else none
  | .niliface, .iface _ _ => some false
  | .iface _ _, .niliface => some false
  | _, _ => none

def eqPtr (x y : AVal) : Option Bool :=
  match x, y with
  | .nilptr, .nilptr => some true
  | .nilptr, .ptr _ _ => some false
  | .ptr _ _, .nilptr => some false
  | _, _ => none

def eqNilSl (x y : AVal) : Option Bool :=
  match x, y with
  | .nilslice, .nilslice => some true
  | .nilslice, .slice .. => some false
  | .slice .., .nilslice => some false
  | _, _ => none

def eqNilFn (x y : AVal) : Option Bool :=
  match x, y with
  | .nilfn, .nilfn => some true
  | .nilfn, .fn .. => some false
  | .fn .., .nilfn => some false
  | _, _ => none

def eqA (k : EqK) (x y : AVal) (lit : Bool) : Option Bool :=
  match k with
  | .bool => eqBool x y
  | .plain ks => eqAgg ks x y
  | .iface => eqIface x y lit
  | .ptr => eqPtr x y
  | .nilsl => eqNilSl x y
  | .nilfn => eqNilFn x y

def AOpd.isConst : AOpd → Bool
  | .const _ => true
  | _ => false

def idx? (i : AVal) (n : Nat) : Option Nat :=
  match i with
  | .int _ i => if 0 ≤ i ∧ i < n then some i.toNat else none
  | _ => none

/-- A bound of a slice expression: not above y. -/
def bnd? (x : Option AVal) (dflt y : Nat) : Option Nat :=
  match x with
  | none => some dflt
  | some (.int _ i) => if 0 ≤ i ∧ i ≤ y then some i.toNat else none
  | some _ => none

def bytesOf : List AVal → Option (List Nat)
  | [] => some []
  | .int .u8 n :: l =>
    match bytesOf l with
    | some r => if 0 ≤ n ∧ n < 256 then some (n.toNat :: r) else none
    | none => none
  | _ => none

def maxRoom : Nat := 2 ^ 46

abbrev Res := Option (AVal × AHeap)

def pureR (h : AHeap) : Option AVal → Res
  | some v => some (v, h)
  | none => none

/-- The cells of a slice or a text, n elements of size cells. -/
def sliceCells (h : AHeap) (size n : Nat) : AVal → Option (List AVal)
  | .nilslice => if n = 0 then some [] else none
  | .slice id off len _ _ _ =>
    if n ≤ len then
      match h.row id with
      | some l => take? (n * size) off l
      | none => none
    else none
  | .str s => if size = 1 ∧ n ≤ s.length then some ((s.take n).map fun (b : Nat) => AVal.int .u8 b) else none
  | _ => none

def lenA : AVal → Option Nat
  | .nilslice => some 0
  | .slice _ _ len _ _ _ => some len
  | .str s => some s.length
  | _ => none

def appendCells (h : AHeap) (size bytes : Nat) (s : AVal) (n : Nat) (new : List AVal) : Res :=
  match s with
  | .nilslice =>
    if n = 0 then some (.nilslice, h)
    else if n * bytes ≤ maxRoom then some (.slice h.next 0 n n false size, h.new (.cells new)) else none
  | .slice id off len lo exact sz =>
    if sz ≠ size then none
    else if len + n ≤ lo then
      match h.row id with
      | some l =>
        match splice? l (off + len * size) new with
        | some l' => some (.slice id off (len + n) lo exact sz, h.put id (.cells l'))
        | none => none
      | none => none
    else if (len + n) * bytes ≤ maxRoom then
      match h.row id with
      | some l =>
        match take? (len * size) off l with
        | some old => some (.slice h.next 0 (len + n) (len + n) false size, (if exact then h else h.put id .dead).new (.cells (old ++ new)))
        | none => none
      | none => none
    else none
  | _ => none

def maxA (least : Bool) : AVal → AVal → Option AVal
  | .int k a, .int k' b => if k = k' then some (.int k (if least then (if b < a then b else a) else (if a < b then b else a))) else none
  | _, _ => none

def foldMax (least : Bool) : AVal → List AVal → Option AVal
  | a, [] => some a
  | a, b :: l => match maxA least a b with
    | some c => foldMax least c l
    | none => none

/-- What stands at a text in a map's row. -/
def mapFind (k : List Nat) : List (AVal × AVal) → Option (Option AVal)
  | [] => some none
  | (.str a, v) :: l => if a = k then some (some v) else mapFind k l
  | _ => none

def fLoad1 (h : AHeap) : AVal → Option AVal
  | .ptr id off => match h.row id with
    | some l => l[off]?
    | none => none
  | _ => none

def fLoadN (h : AHeap) (n : Nat) : AVal → Option AVal
  | .ptr id off => match h.row id with
    | some l => (take? n off l).map .agg
    | none => none
  | _ => none

def fStore (h : AHeap) (n : Nat) (x v : AVal) : Res :=
  match x with
  | .ptr id off => match h.row id with
    | some l =>
      if v.cells.length = n ∧ v.whole = true then
        match splice? l off v.cells with
        | some l => some (undefA, h.put id (.cells l))
        | none => none
      else none
    | none => none
  | _ => none

def fUn (op : UnOp) (x : AVal) : Option AVal :=
  match op, x with
  | .not, .bool b => some (.bool (!b))
  | .neg, .int k n => some (.int k (k.wrap (0 - n)))
  | .xor, .int k n => intBin .xor k (if k.signed then -1 else k.max) n
  | _, _ => none

def fBytesToStr (h : AHeap) : AVal → Option AVal
  | .nilslice => some (.str [])
  | .slice id off len lo e b =>
    match sliceCells h 1 len (.slice id off len lo e b) with
    | some cs => (bytesOf cs).map .str
    | none => none
  | _ => none

def fMakeSlice (h : AHeap) (zero : List AVal) (bytes : Nat) (len cap : AVal) : Res :=
  match len, cap with
  | .int _ l, .int _ c =>
    if 0 ≤ l ∧ l ≤ c ∧ c.toNat * bytes ≤ maxRoom then
      some (.slice h.next 0 l.toNat c.toNat true zero.length, h.new (.cells (zerosN zero c.toNat)))
    else none
  | _, _ => none

def fSliceStr (x : AVal) (lo hi : Option AVal) : Option AVal :=
  match x with
  | .str s =>
    match hi with
    | none => match bnd? lo 0 s.length with
      | some l => some (.str (s.drop l))
      | none => none
    | some _ =>
      match bnd? hi s.length s.length with
      | some u => match bnd? lo 0 u with
        | some l => some (.str ((s.drop l).take (u - l)))
        | none => none
      | none => none
  | _ => none

def fSliceSl (size : Nat) (x : AVal) (lo hi mx : Option AVal) : Option AVal :=
  match x with
  | .nilslice =>
    match bnd? mx 0 0, bnd? hi 0 0, bnd? lo 0 0 with
    | some _, some _, some _ => some .nilslice
    | _, _, _ => none
  | .slice id off len cap exact sz =>
    if sz ≠ size then none else
    match bnd? mx cap cap with
    | some m => match bnd? hi len m with
      | some u => match bnd? lo 0 u with
        | some l => some (.slice id (off + l * size) (u - l) (m - l) (exact || mx.isSome) sz)
        | none => none
      | none => none
    | none => none
  | _ => none

def fSliceArr (h : AHeap) (n size : Nat) (x : AVal) (lo hi : Option AVal) : Option AVal :=
  match x with
  | .ptr id off =>
    match h.row id with
    | some row =>
      if off + n * size ≤ row.length then
        match bnd? hi n n with
        | some u => match bnd? lo 0 u with
          | some l => some (.slice id (off + l * size) (u - l) (n - l) true size)
          | none => none
        | none => none
      else none
    | none => none
  | _ => none

def fAddOff (k : Nat) : AVal → Option AVal
  | .ptr id off => some (.ptr id (off + k))
  | _ => none

def fPart (agg : Bool) (off n : Nat) : AVal → Option AVal
  | .agg cs => if agg then (take? n off cs).map .agg else cs[off]?
  | _ => none

def fIdxAddrSl (size : Nat) (x i : AVal) : Option AVal :=
  match x with
  | .slice id off len _ _ _ => (idx? i len).map fun i => .ptr id (off + i * size)
  | _ => none

def fIdxAddrArr (len size : Nat) (x i : AVal) : Option AVal :=
  match x with
  | .ptr id off => (idx? i len).map fun i => .ptr id (off + i * size)
  | _ => none

def fIdxArr (agg : Bool) (len size : Nat) (x i : AVal) : Option AVal :=
  match idx? i len with
  | some i => fPart agg (i * size) size x
  | none => none

def fIdxStr (x i : AVal) : Option AVal :=
  match x, i with
  | .str s, .int _ i => if 0 ≤ i then (s[i.toNat]?).map fun (b : Nat) => AVal.int .u8 b else none
  | _, _ => none

def fExtract (x : AVal) (k : Nat) : Option AVal :=
  match x with
  | .tup l => l[k]?
  | _ => none

def fAppend (h : AHeap) (size bytes : Nat) (x y : AVal) : Res :=
  match lenA y with
  | some n =>
    match sliceCells h size n y with
    | some new => appendCells h size bytes x n new
    | none => none
  | none => none

def fAppendZeros (h : AHeap) (zero : List AVal) (bytes : Nat) (x n : AVal) : Res :=
  match n with
  | .int _ n => if 0 ≤ n ∧ n.toNat * bytes ≤ maxRoom then appendCells h zero.length bytes x n.toNat (zerosN zero n.toNat) else none
  | _ => none

def fCopy (h : AHeap) (size : Nat) (x y : AVal) : Res :=
  match x, lenA y with
  | .nilslice, some _ => some (.int .i64 0, h)
  | .slice id off len _ _ _, some m =>
    match sliceCells h size (min m len) y, h.row id with
    | some cs, some l => match splice? l off cs with
      | some l => some (.int .i64 (min m len : Nat), h.put id (.cells l))
      | none => none
    | _, _ => none
  | _, _ => none

def fClear (h : AHeap) (zero : List AVal) : AVal → Res
  | .nilslice => some (.tup [], h)
  | .slice id off len _ _ _ =>
    if len = 0 then some (.tup [], h) else
    match h.row id with
    | some l => match splice? l off (zerosN zero len) with
      | some l => some (.tup [], h.put id (.cells l))
      | none => none
    | none => none
  | _ => none

def fLen (h : AHeap) (k : LK) (x : AVal) : Option AVal :=
  match k, x with
  | .s, .str s => some (.int .i64 (s.length : Nat))
  | .l, .nilslice => some (.int .i64 0)
  | .l, .slice _ _ len _ _ _ => some (.int .i64 (len : Nat))
  | .m, .nilmap => some (.int .i64 0)
  | .m, .map id => match h.get id with
    | some (.map l) => some (.int .i64 (l.length : Nat))
    | _ => none
  | _, _ => none

def fCap : AVal → Option AVal
  | .nilslice => some (.int .i64 0)
  | .slice _ _ _ lo true _ => some (.int .i64 (lo : Nat))
  | _ => none

def fMapSet (h : AHeap) (m k v : AVal) : Res :=
  match m, k with
  | .map id, .str k => match h.get id with
    | some (.map l) => match mapFind k l with
      | some none => if v.scalar = true then some (undefA, h.put id (.map (l ++ [(.str k, v)]))) else none
      | _ => none
    | _ => none
  | _, _ => none

def fMapGet (h : AHeap) (zero : AVal) (ok : Bool) (m k : AVal) : Option AVal :=
  match m, k with
  | .map id, .str k => match h.get id with
    | some (.map l) => match mapFind k l with
      | some r => some (if ok then .tup [r.getD zero, .bool r.isSome] else r.getD zero)
      | none => none
    | _ => none
  | _, _ => none

def maxOf (least : Bool) : List AVal → Option AVal
  | [] => none
  | a :: l => foldMax least a l

def evalParts (T : Tmps) (l : List (Nat × Nat × AOpd)) : List (Nat × Nat × AVal) := l.map fun p => (p.1, p.2.1, T.eval p.2.2)

/-- Operations but calls. -/
def evalOp (T : Tmps) (h : AHeap) (op : AOp) : Res :=
  match op with
  | .mov x => some (T.eval x, h)
  | .same x => match T.eval x with
    | .str s => some (.str s, h)
    | _ => none
  | .pick c a b =>
    match T.eval c with
    | .bool t => some (if t then T.eval a else T.eval b, h)
    | _ => none
  | .new cells => some (.ptr h.next 0, h.new (.cells cells))
  | .box n x => if (T.eval x).cells.length = n ∧ (T.eval x).whole = true then some (.ptr h.next 0, h.new (.cells (T.eval x).cells)) else none
  | .build zero parts => pureR h ((fillParts zero (evalParts T parts)).map .agg)
  | .buildSlice cells len size parts =>
    match fillParts cells (evalParts T parts) with
    | some cs => some (.slice h.next 0 len len true size, h.new (.cells cs))
    | none => none
  | .load1 x => pureR h (fLoad1 h (T.eval x))
  | .loadN n x => pureR h (fLoadN h n (T.eval x))
  | .store n x v => fStore h n (T.eval x) (T.eval v)
  | .nilCheck x =>
    match T.eval x with
    | .ptr id off => some (.ptr id off, h)
    | _ => none
  | .bin op x y => pureR h (binA op (T.eval x) (T.eval y))
  | .eq k neg x y => pureR h ((eqA k (T.eval x) (T.eval y) (x.isConst || y.isConst)).map fun b => .bool (if neg then !b else b))
  | .un op x => pureR h (fUn op (T.eval x))
  | .convInt k x =>
    match T.eval x with
    | .int _ n => some (.int k (k.wrap n), h)
    | _ => none
  | .strToBytes x =>
    match T.eval x with
    | .str s => if s.length < 2 ^ 47 then some (.slice h.next 0 s.length s.length false 1, h.new (.cells (s.map fun (b : Nat) => AVal.int .u8 b))) else none
    | _ => none
  | .bytesToStr x => pureR h (fBytesToStr h (T.eval x))
  | .mkIface t x => some (.iface t (T.eval x), h)
  | .makeFunc f first captured => some (.fn f (first.map T.eval) (captured.map T.eval), h)
  | .makeSlice zero bytes len cap => fMakeSlice h zero bytes (T.eval len) (T.eval cap)
  | .sliceStr x lo hi => pureR h (fSliceStr (T.eval x) (lo.map T.eval) (hi.map T.eval))
  | .sliceSl size x lo hi mx => pureR h (fSliceSl size (T.eval x) (lo.map T.eval) (hi.map T.eval) (mx.map T.eval))
  | .sliceArr n size x lo hi => pureR h (fSliceArr h n size (T.eval x) (lo.map T.eval) (hi.map T.eval))
  | .addOff k x => pureR h (fAddOff k (T.eval x))
  | .part agg off n x => pureR h (fPart agg off n (T.eval x))
  | .idxAddrSl size x i => pureR h (fIdxAddrSl size (T.eval x) (T.eval i))
  | .idxAddrArr len size x i => pureR h (fIdxAddrArr len size (T.eval x) (T.eval i))
  | .idxArr agg len size x i => pureR h (fIdxArr agg len size (T.eval x) (T.eval i))
  | .idxStr x i => pureR h (fIdxStr (T.eval x) (T.eval i))
  | .extract x k => pureR h (fExtract (T.eval x) k)
  | .append zero bytes x y => fAppend h zero.length bytes (T.eval x) (T.eval y)
  | .appendZeros zero bytes x n => fAppendZeros h zero bytes (T.eval x) (T.eval n)
  | .copy size x y => fCopy h size (T.eval x) (T.eval y)
  | .clear zero x => fClear h zero (T.eval x)
  | .len k x => pureR h (fLen h k (T.eval x))
  | .cap x => pureR h (fCap (T.eval x))
  | .max args => pureR h (maxOf false (args.map T.eval))
  | .min args => pureR h (maxOf true (args.map T.eval))
  | .makeMap => some (.map h.next, h.new (.map []))
  | .mapSet m k v => fMapSet h (T.eval m) (T.eval k) (T.eval v)
  | .mapGet zero ok m k => pureR h (fMapGet h zero ok (T.eval m) (T.eval k))
  | .call .. => none
  | .callv .. => none
  | .fail => none

structure AFunc where
  ntmps : Nat
  body : ACode
  /-- results: a slot; or a cell behind a slot: as a struct? how many cells. -/
  results : List (Nat × Option (Bool × Nat))
  deriving Inhabited

structure Env where
  fn : Nat → Option AFunc
  prim : Nat → Option (List AVal → AHeap → Res)

abbrev Caller := AVal → List AVal → AHeap → Res

def putDst (T : Tmps) (d : Option Nat) (v : AVal) : Tmps :=
  match d with
  | some d => PT.set T d v
  | none => T

def doOp (call : Caller) (T : Tmps) (h : AHeap) (op : AOp) : Res :=
  match op with
  | .call f args => call (.fn f [] []) (args.map T.eval) h
  | .callv x args => call (T.eval x) (args.map T.eval) h
  | op => evalOp T h op

def wantedA (T : Tmps) : Option (Nat × Bool) → Bool
  | none => true
  | some (t, want) =>
    match T.at t with
    | .bool b => b == want
    | _ => false

def doOper (call : Caller) (T : Tmps) (h : AHeap) (o : AOper) : Option (Tmps × AHeap) :=
  if wantedA T o.guard then
    match doOp call T h o.op with
    | some (v, h) => some (putDst T o.dst v, h)
    | none => none
  else some (putDst T o.dst undefA, h)

def doOps (call : Caller) (T : Tmps) (h : AHeap) : List AOper → Option (Tmps × AHeap)
  | [] => some (T, h)
  | o :: rest =>
    match doOper call T h o with
    | some (T, h) => doOps call T h rest
    | none => none

/-- Does an operation give the same at elder heaps? -/
def sameAt (T : Tmps) (op : AOp) (v : AVal) (id : Nat) : List AHeap → Bool
  | [] => true
  | h :: l =>
    decide (id < h.next) && ((match evalOp T h op with
    | some (v', _) => AVal.beq v v'
    | none => false) && sameAt T op v id l)

/-- The block behind a value. -/
def AVal.block? : AVal → Option Nat
  | .ptr id _ => some id
  | .slice id .. => some id
  | .map id => some id
  | _ => none

/-- The operand whose block an operation reads. -/
def readsHeap : AOp → Option AOpd
  | .load1 x => some x
  | .loadN _ x => some x
  | .bytesToStr x => some x
  | .mapGet _ _ x _ => some x
  | .len _ x => some x
  | .sliceArr _ _ x _ _ => some x
  | _ => none

/-- May an operation that reads be done behind fewer writes, as well? -/
def drawOk (T : Tmps) (op : AOp) (v : AVal) (h : AHeap) (hist : List AHeap) (lo : Nat) : Bool :=
  match readsHeap op with
  | none => true
  | some x =>
    match (T.eval x).block? with
    | none => true
    | some id =>
      (decide (id < h.next) && !x.isConst) && ((match hist with
      | [] => false
      | h0 :: _ => decide (h0.next ≤ id)) || sameAt T op v id ((hist.drop 1).take (hist.length - 1 - lo)))

/-- The block that an operation may have made. -/
def freshOk (h h' : AHeap) : Bool :=
  if h'.next = h.next then true else
  match h'.get h.next with
  | some (.cells l) => AVal.elders h'.next l
  | some (.map l) => l.isEmpty
  | _ => false

/-- Two writes to two blocks. -/
def swapOk (T : Tmps) (d : DOper) : Bool :=
  match d.swap with
  | none => true
  | some (_, o1) =>
    match o1.op, d.o.op with
    | .store _ x _, .store _ y _ =>
      match T.eval x, T.eval y with
      | .ptr a _, .ptr b _ => a != b
      | _, _ => false
    | _, _ => false

/-- hist: the heaps behind each write, the last one first. -/
def doDraw (call : Caller) (T : Tmps) (h : AHeap) (hist : List AHeap) : List DOper → Option (Tmps × AHeap)
  | [] => some (T, h)
  | d :: rest =>
    if d.eff then
      match doOper call T h d.o with
      | some (T', h') => if h.next ≤ h'.next ∧ swapOk T d = true then doDraw call T' h' (h' :: hist) rest else none
      | none => none
    else if wantedA T d.o.guard then
      match evalOp T h d.o.op with
      | some (v, h') => if drawOk T d.o.op v h hist d.lo && (AVal.elder h'.next v && freshOk h h') then doDraw call (putDst T d.o.dst v) h' hist rest else none
      | none => none
    else doDraw call (putDst T d.o.dst undefA) h hist rest

inductive AExit where
  | normal | ret | exit (id : Nat)
  deriving Inhabited, DecidableEq

/-- No jump out. -/
def AExit.stays : AExit → Bool
  | .exit _ => false
  | _ => true

def setAll (T : Tmps) : List Nat → List AVal → Tmps
  | p :: ps, v :: vs => setAll (PT.set T p v) ps vs
  | _, _ => T

def tmpsOf : List AVal → Nat → Tmps → Tmps
  | [], _, T => T
  | a :: l, i, T => tmpsOf l (i + 1) (PT.set T i a)

def readResult (T : Tmps) (h : AHeap) : Nat × Option (Bool × Nat) → Option AVal
  | (t, none) => some (T.at t)
  | (t, some (agg, n)) => if agg then fLoadN h n (T.at t) else fLoad1 h (T.at t)

def readResults (T : Tmps) (h : AHeap) : List (Nat × Option (Bool × Nat)) → Option (List AVal)
  | [] => some []
  | r :: rs =>
    match readResult T h r, readResults T h rs with
    | some v, some vs => some (v :: vs)
    | _, _ => none

def tupled : List AVal → AVal
  | [v] => v
  | vs => .tup vs

abbrev Exec := ACode → Tmps → AHeap → Option (AExit × Tmps × AHeap)

/-- A call of a function with a body. -/
def enterFn (E : Env) (ex : Exec) (f : Nat) (args : List AVal) (h : AHeap) : Res :=
  match E.fn f with
  | none => none
  | some fn =>
    if args.length ≤ fn.ntmps then
      match ex fn.body (tmpsOf args 0 .leaf) h with
      | some (e, T, h) =>
        if e.stays then
          match readResults T h fn.results with
          | some vs => some (tupled vs, h)
          | none => none
        else none
      | none => none
    else none

/-- A call of a function by its number. -/
def enterA (E : Env) (ex : Exec) (f : Nat) (args : List AVal) (h : AHeap) : Res :=
  match E.prim f with
  | some p => p args h
  | none => enterFn E ex f args h

def AExit.pend : AExit → Pend
  | .normal => .none
  | .ret => .ret
  | .exit id => .exit id

/-- A round of a loop over a function. -/
def roundA (ex : Exec) (l : Nat) (args : List AVal) (h : AHeap) : Res :=
  match h.get l with
  | some (.loop _ _ tmps params assign body) =>
    if args.length = params.length then
      match ex assign (setAll tmps params args) h with
      | some (e, T, h) =>
        if e = .normal then
          match h.get l with
          | some (.loop st pend tmps params assign body') =>
            if st = .ready then
              match ex body T (h.put l (.loop .busy pend tmps params assign body')) with
              | some (e, _, h) =>
                match h.get l with
                | some (.loop _ _ tmps params assign body) =>
                  some (.bool (decide (e = .normal)), h.put l (.loop (if e = .normal then .ready else .done) e.pend tmps params assign body))
                | _ => none
              | none => none
            else none
          | _ => none
        else none
      | none => none
    else none
  | _ => none

def callA (E : Env) (ex : Exec) : Caller := fun f args h =>
  match f with
  | .fn f first captured => enterA E ex f (first ++ args ++ captured) h
  | .yield l => roundA ex l args h
  | _ => none

def Pend.out : Pend → AExit
  | .none => .normal
  | .ret => .ret
  | .exit id => .exit id

def rangeA (E : Env) (ex : Exec) (f : AVal) (params : List Nat) (assign body : ACode) (T : Tmps) (h : AHeap) : Option (AExit × Tmps × AHeap) :=
  match f with
  | .fn f first captured =>
    match enterFn E ex f (first ++ [.yield h.next] ++ captured) (h.new (.loop .ready .none T params assign body)) with
    | some (_, h') =>
      match h'.get h.next with
      | some (.loop st pend ..) => if st = .busy then none else some (pend.out, T, h'.put h.next .dead)
      | _ => none
    | none => none
  | _ => none

def stepA (E : Env) (ih : Exec) : Exec := fun c T h =>
    match c with
    | .skip => some (.normal, T, h)
    | .ops l =>
      match doOps (callA E ih) T h l with
      | some (T, h) => some (.normal, T, h)
      | none => none
    | .draw l =>
      match doDraw (callA E ih) T h [h] l with
      | some (T, h) => some (.normal, T, h)
      | none => none
    | .seq a b =>
      match ih a T h with
      | some (e, T, h) => if e = .normal then ih b T h else some (e, T, h)
      | none => none
    | .cond c a b =>
      match T.eval c with
      | .bool t => if t then ih a T h else ih b T h
      | _ => none
    | .block id b =>
      match ih b T h with
      | some (e, T, h) => some (if e = .exit id then .normal else e, T, h)
      | none => none
    | .loop b =>
      match ih b T h with
      | some (e, T, h) => if e = .normal then ih (.loop b) T h else some (e, T, h)
      | none => none
    | .rangeFunc f params assign body => rangeA E ih (T.eval f) params assign body T h
    | .exit id => some (.exit id, T, h)
    | .ret => some (.ret, T, h)
    | .fail => none

def exec (E : Env) (n : Nat) : Exec := Nat.rec (fun _ _ _ => none) (fun _ ih => stepA E ih) n

def runF (E : Env) (n : Nat) (f : Nat) (args : List AVal) (h : AHeap) : Res := enterA E (exec E n) f args h

end Go.AM
