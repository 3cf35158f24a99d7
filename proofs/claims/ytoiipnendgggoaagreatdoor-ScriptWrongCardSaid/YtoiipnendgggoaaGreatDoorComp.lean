/- A part of the proof of the claim of this folder (Comp). -/
import Derived.Test.YtoiipnendgggoaaGreatDoorAm
import GoSem.Step
import Derived.Orders
set_option autoImplicit true
set_option relaxedAutoImplicit true
set_option linter.all false
set_option linter.deprecated false
set_option linter.unnecessarySimpa false
set_option linter.unusedSectionVars false
set_option linter.unusedSimpArgs false
set_option linter.unusedVariables false
/-! From the model's code to the abstract machine's. -/
namespace Go.AM

/-- A literal, but for structs. -/
def ofFlat : Value → Option AVal
  | .bool b => some (.bool b)
  | .int k n => some (.int k n)
  | .string s => some (.str (s.data.toList.map UInt8.toNat))
  | .pointer none => some .nilptr
  | .slice none 0 0 => some .nilslice
  | .nilFunc => some .nilfn
  | .nilIface => some .niliface
  | .map none => some .nilmap
  | .iface t (.int k n) => some (.iface t (.int k n))
  | _ => none

def ofFlats : List Value → Option (List AVal)
  | [] => some []
  | v :: l =>
    match ofFlat v, ofFlats l with
    | some a, some as => some (a :: as)
    | _, _ => none

def ofValue : Value → Option AVal
  | .agg cs => (ofFlats cs.toList).map .agg
  | v => ofFlat v

def opdA : Operand → Option AOpd
  | .tmp t => some (.tmp t)
  | .const v => (ofValue v).map .const
  | .func f => some (.const (.fn f [] []))
  | .global _ => none

def opdsA : List Operand → Option (List AOpd)
  | [] => some []
  | o :: l =>
    match opdA o, opdsA l with
    | some a, some as => some (a :: as)
    | _, _ => none

def optA : Option Operand → Option (Option AOpd)
  | none => some none
  | some o => (opdA o).map some

section
variable (P : Program)

def zeroA (t : TypeId) : Option (List AVal) :=
  match P.info? t with
  | some i => match i.zero with
    | some v => (ofValue v).map AVal.cells
    | none => none
  | none => none

def zeroFlatA (t : TypeId) : Option AVal :=
  match P.info? t with
  | some i => match i.zero with
    | some v => ofFlat v
    | none => none
  | none => none

def sizeA (t : TypeId) : Option Nat := (P.info? t).map (·.size)
def bytesA (t : TypeId) : Option Nat := (P.info? t).map (·.bytes)
def isAggD : TypeDesc → Bool
  | .struct _ => true
  | .array _ _ => true
  | _ => false
def aggA (t : TypeId) : Option Bool := (P.underlying t).map isAggD

/-- zero cells of the right size -/
def zeroOkA (t : TypeId) : Option (List AVal) :=
  match zeroA P t, sizeA P t with
  | some z, some n => if z.length = n then some z else none
  | _, _ => none

/-- The kinds of the cells of fields that lie one behind the other. -/
def kindsFields (deep : TypeId → Option (List SK)) : Nat → List Field → Option (List SK)
  | _, [] => some []
  | off, f :: l =>
    if f.offset = off ∧ f.name ≠ "_" then
      match deep f.type with
      | some ks =>
        if sizeA P f.type = some ks.length then
          match kindsFields deep (off + ks.length) l with
          | some r => some (ks ++ r)
          | none => none
        else none
      | none => none
    else none

/-- The kinds of the cells of a type: of a bool, a whole number, a text, of structs of these. -/
def kindsA : Nat → TypeId → Option (List SK)
  | 0, _ => none
  | d + 1, t =>
    match P.underlying t with
    | some .bool => some [.b]
    | some (.int _) => some [.i]
    | some .string => some [.s]
    | some (.struct fs) => if P.stoodInHeld t then none else kindsFields P (kindsA d) 0 fs.toList
    | _ => none

def eqKind (t : TypeId) : Option EqK :=
  match P.underlying t with
  | some (.interface _) => some .iface
  | some (.pointer _) => some .ptr
  | some (.slice _) => some .nilsl
  | some (.func _ _ _) => some .nilfn
  | some .bool => some .bool
  | some (.struct _) => if P.eqGuardType P.depth t then none else (kindsA P 20 t).map .plain
  | _ => none

def partOf (place : Nat → Option (Nat × Nat)) (p : Nat × Operand) : Option (Nat × Nat × AOpd) :=
  match place p.1, opdA p.2 with
  | some (off, size), some x => some (off, size, x)
  | _, _ => none

def partsOf (place : Nat → Option (Nat × Nat)) : List (Nat × Operand) → Option (List (Nat × Nat × AOpd))
  | [] => some []
  | p :: l =>
    match partOf place p, partsOf place l with
    | some a, some as => some (a :: as)
    | _, _ => none

/-- Where the fields of a struct lie. -/
def structPlaces (fields : Array Field) : Option (List (Nat × Nat)) := fields.toList.mapM fun f => (P.info? f.type).map fun i => (f.offset, i.size)

def compileCall (c : Call) : Option AOp :=
  match opdsA c.args.toList with
  | none => none
  | some args =>
  match c.callee with
  | .value (.func f) => some (.call f args)
  | .value x => (opdA x).map fun x => .callv x args
  | .invoke .. => none
  | .builtin b =>
    match b, args, (c.argTypes[0]?).bind P.underlying with
    | .len, [_], some (.array n _) => some (.mov (.const (.int .i64 n)))
    | .len, [_], some (.pointer arr) => match P.underlying arr with
      | some (.array n _) => some (.mov (.const (.int .i64 n)))
      | _ => none
    | .len, [x], some .string => some (.len .s x)
    | .len, [x], some (.slice _) => some (.len .l x)
    | .len, [x], some (.map _ _) => some (.len .m x)
    | .cap, [x], some (.slice _) => some (.cap x)
    | .append, [x, y], some (.slice e) =>
      match zeroOkA P e, bytesA P e, (c.argTypes[1]?).bind P.underlying with
      | some z, some b, some (.int _) => if b = 0 then none else some (.appendZeros z b x y)
      | some z, some b, some (.slice _) => if b = 0 then none else some (.append z b x y)
      | some z, some b, some .string => if b = 0 then none else some (.append z b x y)
      | _, _, _ => none
    | .copy, [x, y], some (.slice e) => (sizeA P e).map fun s => .copy s x y
    | .clear, [x], some (.slice e) => (zeroOkA P e).map fun z => .clear z x
    | .max, l, _ => some (.max l)
    | .min, l, _ => some (.min l)
    | _, _, _ => none

def isStrInt : TypeDesc → Bool
  | .int _ => true
  | .string => true
  | _ => false

def isEq : BinOp → Option Bool
  | .eql => some false
  | .neq => some true
  | _ => none

def compileBin (op : BinOp) (t : TypeId) (x y : AOpd) : Option AOp :=
  match P.underlying t with
  | none => none
  | some d =>
    if isStrInt d then some (.bin op x y)
    else match isEq op with
      | some neg => (eqKind P t).map fun k => .eq k neg x y
      | none => none

def compileConv (s d : TypeId) (x : AOpd) : Option AOp :=
  match P.underlying s, P.underlying d with
  | some (.int _), some (.int k) => some (.convInt k x)
  | some .string, some .string => some (.same x)
  | some .string, some (.slice e) => if (match P.underlying e with | some (.int .u8) => true | _ => false) then some (.strToBytes x) else none
  | some (.slice e), some .string => if (match P.underlying e with | some (.int .u8) => true | _ => false) then some (.bytesToStr x) else none
  | _, _ => none

def compileOp (op : Op) : Option AOp :=
  match op with
  | .move x => (opdA x).map .mov
  | .assign x => (opdA x).map .mov
  | .pick c a b => match opdA c, opdA a, opdA b with
    | some c, some a, some b => some (.pick c a b)
    | _, _, _ => none
  | .alloc e => (zeroOkA P e).map .new
  | .box e x => match sizeA P e, opdA x with
    | some n, some x => some (.box n x)
    | _, _ => none
  | .build t parts =>
    match zeroA P t, P.underlying t with
    | some z, some (.struct fields) => match structPlaces P fields with
      | some places => (partsOf (places.toArray[·]?) parts.toList).map (.build z)
      | none => none
    | some z, some (.array _ e) => match sizeA P e with
      | some s => (partsOf (fun i => some (i * s, s)) parts.toList).map (.build z)
      | none => none
    | _, _ => none
  | .buildSlice t len parts =>
    match P.underlying t with
    | some (.slice e) => match sizeA P e, zeroOkA P e with
      | some s, some z => if len * s ≤ 2 ^ 24 then (partsOf (fun i => some (i * s, s)) parts.toList).map (.buildSlice (zerosN z len) len s) else none
      | _, _ => none
    | _ => none
  | .insert t m k v => match P.underlying t with
    | some (.map kt _) => match P.underlying kt, opdA m, opdA k, opdA v with
      | some .string, some m, some k, some v => some (.mapSet m k v)
      | _, _, _, _ => none
    | _ => none
  | .load t x => match aggA P t, sizeA P t, opdA x with
    | some true, some n, some x => some (.loadN n x)
    | some false, _, some x => some (.load1 x)
    | _, _, _ => none
  | .store t x v => match sizeA P t, opdA x, opdA v with
    | some n, some x, some v => some (.store n x v)
    | _, _, _ => none
  | .nilCheck x => (opdA x).map .nilCheck
  | .binOp op t x y _ => match opdA x, opdA y with
    | some x, some y => compileBin P op t x y
    | _, _ => none
  | .unOp op _ x => (opdA x).map (.un op)
  | .convert s d x => match opdA x with
    | some x => compileConv P s d x
    | none => none
  | .makeInterface t x => match P.underlying t, opdA x with
    | some (.interface _), _ => none
    | some _, some x => some (.mkIface t x)
    | _, _ => none
  | .makeFunc (.func f) first cap => match opdsA first.toList, opdsA cap.toList with
    | some a, some b => some (.makeFunc f a b)
    | _, _ => none
  | .makeMap _ none => some .makeMap
  | .makeSlice t l c =>
    match P.underlying t with
    | some (.slice e) => match zeroOkA P e, bytesA P e, opdA l, opdA c with
      | some z, some b, some l, some c => if b = 0 then none else some (.makeSlice z b l c)
      | _, _, _, _ => none
    | _ => none
  | .slice t x lo hi mx =>
    match opdA x, optA lo, optA hi, optA mx with
    | some x, some lo, some hi, some mx =>
      match P.underlying t with
      | some (.array n e) => match mx, sizeA P e with
        | none, some s => some (.sliceArr n s x lo hi)
        | _, _ => none
      | some .string => match mx with
        | none => some (.sliceStr x lo hi)
        | some _ => none
      | some (.slice e) => if mx.isSome && !hi.isSome then none else (sizeA P e).map fun s => .sliceSl s x lo hi mx
      | _ => none
    | _, _, _, _ => none
  | .fieldAddr t x f =>
    match P.underlying t with
    | some (.struct fields) => match fields[f]?, opdA x with
      | some f, some x => match sizeA P f.type with
        | some s => if s = 0 then none else some (.addOff f.offset x)
        | none => none
      | _, _ => none
    | _ => none
  | .field t x f =>
    match P.underlying t with
    | some (.struct fields) => match fields[f]?, opdA x with
      | some f, some x => match aggA P f.type, sizeA P f.type with
        | some a, some s => some (.part a f.offset s x)
        | _, _ => none
      | _, _ => none
    | _ => none
  | .indexAddr t x i =>
    match opdA x, opdA i with
    | some x, some i =>
      match P.underlying t with
      | some (.array n e) => (sizeA P e).map fun s => .idxAddrArr n s x i
      | some (.slice e) => (sizeA P e).map fun s => .idxAddrSl s x i
      | _ => none
    | _, _ => none
  | .index t x i =>
    match opdA x, opdA i with
    | some x, some i =>
      match P.underlying t with
      | some (.array n e) => match aggA P e, sizeA P e with
        | some a, some s => some (.idxArr a n s x i)
        | _, _ => none
      | some .string => some (.idxStr x i)
      | _ => none
    | _, _ => none
  | .lookup t m k ok =>
    match P.underlying t, opdA m, opdA k with
    | some (.map kt e), some m, some k => match P.underlying kt, zeroFlatA P e with
      | some .string, some z => some (.mapGet z ok m k)
      | _, _ => none
    | _, _, _ => none
  | .extract x k => (opdA x).map fun x => .extract x k
  | .call c => compileCall P c
  | _ => none

/-- A guard, in slots. -/
def compileGuard (ops : Array Oper) : Option (Nat × Bool) → Option (Option (Nat × Bool))
  | none => some none
  | some (j, want) => match (ops[j]?).bind (·.dst) with
    | some t => some (some (t, want))
    | none => none

def failOp : AOper := { dst := none, guard := none, op := .fail }

def dstOk (N : Nat) : Option Nat → Bool
  | none => true
  | some d => decide (d < N)

def compileOper (N : Nat) (ops : Array Oper) (o : Oper) : AOper :=
  match compileOp P o.op, compileGuard ops o.guard with
  | some op, some g => if dstOk N o.dst then { dst := o.dst, guard := g, op } else failOp
  | _, _ => failOp

def effA : AOp → Bool
  | .store .. | .call .. | .callv .. | .append .. | .appendZeros .. | .copy .. | .clear .. | .mapSet .. | .fail => true
  | _ => false

/-- Does it make a block? -/
def isAlloc : AOp → Bool
  | .new .. | .box .. | .buildSlice .. | .strToBytes .. | .makeSlice .. | .makeMap => true
  | _ => false

/-- Predecessors by edges that bind in every order. -/
def predsFrom : List (List Nat) → List Oper → List (List Nat)
  | acc, [] => acc
  | acc, o :: l =>
    predsFrom (acc ++ [o.after.toList.foldl (fun s e => if Region.binds .any e then (e.on :: acc.getD e.on []).foldl (fun s x => if s.contains x then s else x :: s) s else s) []]) l

def orderOf (n : Nat) (preds : List (List Nat)) (effs : List Nat) : List Nat :=
  let done := effs.foldl (init := ([] : List Nat)) fun acc e =>
    acc ++ ((List.range n).filter fun i => (preds.getD e []).contains i && !acc.contains i) ++ [e]
  done ++ (List.range n).filter fun i => !done.contains i

def AOp.reads : AOp → List AOpd
  | .mov x | .box _ x | .load1 x | .loadN _ x | .nilCheck x | .un _ x | .convInt _ x | .same x | .strToBytes x | .bytesToStr x | .mkIface _ x | .addOff _ x | .part _ _ _ x | .extract x _
  | .clear _ x | .len _ x | .cap x => [x]
  | .pick a b c | .mapSet a b c => [a, b, c]
  | .new _ | .makeMap | .fail => []
  | .build _ ps => ps.map (·.2.2)
  | .buildSlice _ _ _ ps => ps.map (·.2.2)
  | .store _ x y | .bin _ x y | .eq _ _ x y | .makeSlice _ _ x y | .idxAddrSl _ x y | .idxAddrArr _ _ x y | .idxArr _ _ _ x y | .idxStr x y | .append _ _ x y | .appendZeros _ _ x y | .copy _ x y
  | .mapGet _ _ x y => [x, y]
  | .makeFunc _ a b => a ++ b
  | .sliceStr x a b => x :: (a.toList ++ b.toList)
  | .sliceSl _ x a b c => x :: (a.toList ++ b.toList ++ c.toList)
  | .sliceArr _ _ x a b => x :: (a.toList ++ b.toList)
  | .call _ l | .max l | .min l => l
  | .callv x l => x :: l

def AOpd.slot? : AOpd → Option Nat
  | .tmp t => some t
  | .const _ => none

/-- The slots that an operation reads. -/
def AOper.slots (o : AOper) : List Nat := (o.guard.toList.map (·.1)) ++ o.op.reads.filterMap AOpd.slot?

/-- The slots at which an operation of a region looks, the machine's and the model's. -/
def lookAll (ops : Array Oper) (d : DOper) : List Nat := d.o.slots ++ (ops.getD d.at_ default).looksAt ops

def looks (l : List Nat) : Option Nat → Bool
  | some d => l.contains d
  | none => false

def sameDst : Option Nat → Option Nat → Bool
  | some a, some b => a == b
  | _, _ => false

/-- An operation that neither writes nor reads nor makes a block. -/
def plainOp (op : AOp) : Bool := !effA op && (!isAlloc op && (readsHeap op).isNone)

/-- May the last write change places with p? -/
def swapCheck (n : Nat) (prev : List DOper) (p d : DOper) : Bool :=
  (match d.swap with | some (i, _) => i == p.at_ | none => false) && (decide (prev.length + 1 = n) && (p.eff && (p.o.dst.isNone && (d.o.dst.isNone && (p.o.guard.isNone && (d.o.guard.isNone &&
    ((prev.dropWhile fun x => x.at_ != p.at_).drop 1).all fun x => plainOp x.o.op))))))

/-- What stands ahead of a write stands ahead in every order, but for one write at most. -/
def effCheck (ops : Array Oper) (preds : List (List Nat)) (prev : List DOper) (d : DOper) : Bool :=
  !d.eff || prev.all fun p => (preds.getD d.at_ []).contains p.at_ || swapCheck ops.size prev p d

/-- One operation of a drawn region, behind those ahead of it. -/
def drawCheck1 (ops : Array Oper) (preds : List (List Nat)) (prev : List DOper) (d : DOper) : Bool :=
  let pr := preds.getD d.at_ []
  let lk := lookAll ops d
  decide (d.at_ < ops.size) && ((prev.all fun p => p.at_ != d.at_) &&
  (((ops.getD d.at_ default).after.toList.all fun e => !Region.binds .any e || prev.any fun p => p.at_ == e.on) &&
  ((prev.all fun p => !sameDst p.o.dst d.o.dst) &&
  ((prev.all fun p => (!looks lk p.o.dst && !looks (lookAll ops p) d.o.dst) || pr.contains p.at_) &&
  (!looks lk d.o.dst &&
  decide (d.lo ≤ (prev.filter fun p => p.eff && pr.contains p.at_).length))))))

def drawChecks (f : List DOper → DOper → Bool) : List DOper → List DOper → Bool
  | _, [] => true
  | acc, d :: l => f acc d && drawChecks f (acc ++ [d]) l

/-- What stands ahead is ahead by edges. -/
def predsOk (ops : Array Oper) (preds : List (List Nat)) : Bool :=
  (List.range ops.size).all fun j => (preds.getD j []).all fun i =>
    (ops.getD j default).after.toList.any fun e => Region.binds .any e && (e.on == i || (preds.getD e.on []).contains i)

/-- Two last writes that stand in no order: the other way round. -/
def effsOf (preds : List (List Nat)) (effs : List Nat) : List Nat × Option (Nat × Nat) :=
  match effs.reverse with
  | b :: a :: r => if (preds.getD b []).contains a then (effs, none) else (r.reverse ++ [b, a], some (a, b))
  | _ => (effs, none)

def drawsOf (N : Nat) (ops : Array Oper) (preds : List (List Nat)) : List DOper :=
  let l := ops.toList.map (compileOper P N ops)
  let effs := (List.range ops.size).filter fun i => effA (l.getD i failOp).op
  let es := effsOf preds effs
  (orderOf ops.size preds es.1).map fun i =>
    { o := l.getD i failOp, at_ := i, eff := effA (l.getD i failOp).op, lo := (effs.filter fun e => (preds.getD i []).contains e).length,
      swap := match es.2 with | some (a, b) => if i = a then some (b, l.getD b failOp) else none | none => none }

def compileDraw (N : Nat) (ops : Array Oper) : ACode :=
  let preds := predsFrom [] ops.toList
  let ds := drawsOf P N ops preds
  if (ds.length = ops.size ∧ predsOk ops preds = true) ∧ (drawChecks (drawCheck1 ops preds) [] ds = true ∧ ((List.range ops.size).all fun i => ds.any fun d => d.at_ == i) = true) ∧
    drawChecks (effCheck ops preds) [] ds = true then .draw ds else .fail

def compile (N : Nat) : Code → ACode
  | .skip => .skip
  | .region _ ops draw => if draw then compileDraw P N ops else .ops (ops.toList.map (compileOper P N ops))
  | .seq a b => .seq (compile N a) (compile N b)
  | .cond c a b => match opdA c with
    | some c => .cond c (compile N a) (compile N b)
    | none => .fail
  | .block id b => .block id (compile N b)
  | .loop b => .loop (compile N b)
  | .rangeFunc f ps a b => match opdA f with
    | some f => if ps.toList.all (fun p => decide (p < N)) then .rangeFunc f ps.toList (compile N a) (compile N b) else .fail
    | none => .fail
  | .exit id => .exit id
  | .ret => .ret
  | _ => .fail

def compileResult : ResultVar → Option (Nat × Option (Bool × Nat))
  | .tmp t => some (t, none)
  | .cell a t => match aggA P t, sizeA P t with
    | some g, some n => some (a, some (g, n))
    | _, _ => none

def compileResults : List ResultVar → Option (List (Nat × Option (Bool × Nat)))
  | [] => some []
  | r :: l =>
    match compileResult P r, compileResults l with
    | some a, some as => some (a :: as)
    | _, _ => none

def compileF (f : Func) : Option AFunc :=
  match f.body, compileResults P f.results.toList with
  | some b, some rs => if f.name = "runtime.NumGoroutine" then none else some { ntmps := f.ntmps, body := compile P f.ntmps b, results := rs }
  | _, _ => none
end
end Go.AM
