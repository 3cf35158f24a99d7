/- A part of the proof of the claim of this folder (Eval). -/
import Derived.Test.YtoiipnendgggoaaGreatDoorAm
set_option autoImplicit true
set_option relaxedAutoImplicit true
set_option linter.all false
set_option linter.deprecated false
set_option linter.unnecessarySimpa false
set_option linter.unusedSectionVars false
set_option linter.unusedSimpArgs false
set_option linter.unusedVariables false
/-! The machine told in a form that the kernel runs well: each operation made a function once, recursors alone, what is left to do handed on. -/
namespace Go.AM

/-- What a run comes to. -/
abbrev Ans := Option (AVal × AHeap)
abbrev KV := AVal → AHeap → Ans
abbrev KT := Tmps → AHeap → Ans
abbrev KX := AExit → Tmps → AHeap → Ans
abbrev CallK := AVal → List AVal → AHeap → KV → Ans
abbrev OpK := CallK → Tmps → AHeap → KV → Ans
abbrev OperK := CallK → Tmps → AHeap → KT → Ans

/-- A function, wrapped up, so that what makes it is run once. -/
inductive Wr where
  | mk (f : OperK)

noncomputable def getK {α : Type} (t : PT α) : Nat → Option α :=
  PT.rec (fun _ => none) (fun _ v _ ihl ihr n => Nat.rec v (fun k _ => Bool.rec (ihr (Nat.div k 2)) (ihl (Nat.div k 2)) (Nat.beq (Nat.mod k 2) 0)) n) t

noncomputable def setFK {α : Type} (x : α) (f : Nat) : PT α → Nat → PT α :=
  Nat.rec (fun t _ => t) (fun _ ih t n =>
    PT.rec
      (Nat.rec (.node .leaf (some x) .leaf) (fun k _ => Bool.rec (.node .leaf none (ih .leaf (Nat.div k 2))) (.node (ih .leaf (Nat.div k 2)) none .leaf) (Nat.beq (Nat.mod k 2) 0)) n)
      (fun l v r _ _ => Nat.rec (.node l (some x) r) (fun k _ => Bool.rec (.node l v (ih r (Nat.div k 2))) (.node (ih l (Nat.div k 2)) v r) (Nat.beq (Nat.mod k 2) 0)) n) t) f

/-- The way to a slot, made once. -/
noncomputable def pathC (f : Nat) : Nat → ((Tmps → AVal) → Wr) → Wr :=
  Nat.rec (fun _ κ => κ (fun _ => undefA)) (fun _ ih t κ =>
    Nat.rec (κ (fun T => PT.rec undefA (fun _ v _ _ _ => Option.rec undefA (fun v => v) v) T))
      (fun k _ => Bool.rec (ih (Nat.div k 2) fun g => κ (fun T => PT.rec undefA (fun _ _ r _ _ => g r) T)) (ih (Nat.div k 2) fun g => κ (fun T => PT.rec undefA (fun l _ _ _ _ => g l) T)) (Nat.beq (Nat.mod k 2) 0)) t) f

noncomputable def setC (f : Nat) : Nat → ((AVal → Tmps → Tmps) → Wr) → Wr :=
  Nat.rec (fun _ κ => κ (fun _ T => T)) (fun _ ih t κ =>
    Nat.rec (κ (fun x T => PT.rec (.node .leaf (some x) .leaf) (fun l _ r _ _ => .node l (some x) r) T))
      (fun k _ => Bool.rec (ih (Nat.div k 2) fun s => κ (fun x T => PT.rec (.node .leaf none (s x .leaf)) (fun l v r _ _ => .node l v (s x r)) T))
        (ih (Nat.div k 2) fun s => κ (fun x T => PT.rec (.node (s x .leaf) none .leaf) (fun l v r _ _ => .node (s x l) v r) T)) (Nat.beq (Nat.mod k 2) 0)) t) f

noncomputable def opdC (x : AOpd) (κ : (Tmps → AVal) → Wr) : Wr := AOpd.rec (fun t => pathC (Nat.succ t) t κ) (fun v => κ (fun _ => v)) x

noncomputable def opdsC (l : List AOpd) : ((Tmps → List AVal) → Wr) → Wr :=
  List.rec (fun κ => κ (fun _ => [])) (fun x _ ih κ => opdC x fun g => ih fun gs => κ (fun T => g T :: gs T)) l

noncomputable def dstC (d : Option Nat) (κ : (AVal → Tmps → Tmps) → Wr) : Wr := Option.rec (κ (fun _ T => T)) (fun d => setC (Nat.succ d) d κ) d

/-! ### Values -/

noncomputable def vBool (v : AVal) (f : Bool → Ans) : Ans := @AVal.rec.{1} (fun _ => Ans) (fun _ => Unit) (fun a0 => (f a0)) (fun _ _ => none) (fun _ => none) none (fun _ _ => none) none (fun _ _ _ _ _ _ => none) none (fun _ _ _ _ _ => none) (fun _ => none) none (fun _ _ _ => none) none (fun _ => none) (fun _ _ => none) (fun _ _ => none) () (fun _ _ _ _ => ()) v
noncomputable def vInt (v : AVal) (f : IntKind → Int → Ans) (g : Ans) : Ans := @AVal.rec.{1} (fun _ => Ans) (fun _ => Unit) (fun _ => g) (fun a0 a1 => (f a0 a1)) (fun _ => g) g (fun _ _ => g) g (fun _ _ _ _ _ _ => g) g (fun _ _ _ _ _ => g) (fun _ => g) g (fun _ _ _ => g) g (fun _ => g) (fun _ _ => g) (fun _ _ => g) () (fun _ _ _ _ => ()) v
noncomputable def vStr (v : AVal) (f : List Nat → Ans) (g : Ans) : Ans := @AVal.rec.{1} (fun _ => Ans) (fun _ => Unit) (fun _ => g) (fun _ _ => g) (fun a0 => (f a0)) g (fun _ _ => g) g (fun _ _ _ _ _ _ => g) g (fun _ _ _ _ _ => g) (fun _ => g) g (fun _ _ _ => g) g (fun _ => g) (fun _ _ => g) (fun _ _ => g) () (fun _ _ _ _ => ()) v
noncomputable def vPtr (v : AVal) (f : Nat → Nat → Ans) : Ans := @AVal.rec.{1} (fun _ => Ans) (fun _ => Unit) (fun _ => none) (fun _ _ => none) (fun _ => none) none (fun a0 a1 => (f a0 a1)) none (fun _ _ _ _ _ _ => none) none (fun _ _ _ _ _ => none) (fun _ => none) none (fun _ _ _ => none) none (fun _ => none) (fun _ _ => none) (fun _ _ => none) () (fun _ _ _ _ => ()) v
noncomputable def vSlice (v : AVal) (f : Nat → Nat → Nat → Nat → Bool → Nat → Ans) (g : Ans) : Ans := @AVal.rec.{1} (fun _ => Ans) (fun _ => Unit) (fun _ => g) (fun _ _ => g) (fun _ => g) g (fun _ _ => g) g (fun a0 a1 a2 a3 a4 a5 => (f a0 a1 a2 a3 a4 a5)) g (fun _ _ _ _ _ => g) (fun _ => g) g (fun _ _ _ => g) g (fun _ => g) (fun _ _ => g) (fun _ _ => g) () (fun _ _ _ _ => ()) v
noncomputable def vTup (v : AVal) (f : List AVal → Ans) : Ans := @AVal.rec.{1} (fun _ => Ans) (fun _ => Unit) (fun _ => none) (fun _ _ => none) (fun _ => none) none (fun _ _ => none) none (fun _ _ _ _ _ _ => none) none (fun _ _ _ _ _ => none) (fun _ => none) none (fun _ _ _ => none) none (fun _ => none) (fun _ _ => none) (fun a0 _ => (f a0)) () (fun _ _ _ _ => ()) v
noncomputable def vFlag (v : AVal) (f : Bool → Bool) : Bool := @AVal.rec.{1} (fun _ => Bool) (fun _ => Unit) (fun a0 => (f a0)) (fun _ _ => false) (fun _ => false) false (fun _ _ => false) false (fun _ _ _ _ _ _ => false) false (fun _ _ _ _ _ => false) (fun _ => false) false (fun _ _ _ => false) false (fun _ => false) (fun _ _ => false) (fun _ _ => false) () (fun _ _ _ _ => ()) v
/-- The cells of a whole value. -/
noncomputable def vCells (v : AVal) (f : List AVal → Ans) : Ans := @AVal.rec.{1} (fun _ => Ans) (fun _ => Unit) (fun _ => (f (List.cons v List.nil))) (fun _ _ => (f (List.cons v List.nil))) (fun _ => (f (List.cons v List.nil))) (f (List.cons v List.nil)) (fun _ _ => (f (List.cons v List.nil))) (f (List.cons v List.nil)) (fun _ _ _ _ _ _ => (f (List.cons v List.nil))) (f (List.cons v List.nil)) (fun _ _ _ _ _ => (f (List.cons v List.nil))) (fun _ => (f (List.cons v List.nil))) (f (List.cons v List.nil)) (fun _ _ _ => (f (List.cons v List.nil))) (f (List.cons v List.nil)) (fun _ => (f (List.cons v List.nil))) (fun a0 _ => (f a0)) (fun a0 _ => ((fun _ => none) a0)) () (fun _ _ _ _ => ()) v
/-- An interface against nil. -/
noncomputable def vNil (v : AVal) (nil some_ : Ans) : Ans := @AVal.rec.{1} (fun _ => Ans) (fun _ => Unit) (fun _ => none) (fun _ _ => none) (fun _ => none) none (fun _ _ => none) none (fun _ _ _ _ _ _ => none) none (fun _ _ _ _ _ => none) (fun _ => none) nil (fun a0 a1 _ => ((fun _ _ => some_) a0 a1)) none (fun _ => none) (fun _ _ => none) (fun _ _ => none) () (fun _ _ _ _ => ()) v

noncomputable def resK (k : KV) (r : Res) : Ans := Option.rec none (fun p => Prod.rec k p) r
noncomputable def optK (k : KV) (h : AHeap) (r : Option AVal) : Ans := Option.rec none (fun v => k v h) r

/-! ### Rows -/
noncomputable def rowK (h : AHeap) (id : Nat) (f : List AVal → Ans) : Ans :=
  AHeap.rec (fun _ tbl => Option.rec none (fun o => AObj.rec f none (fun _ _ _ _ _ _ => none) (fun _ => none) o) (getK tbl id)) h
noncomputable def putK (h : AHeap) (id : Nat) (o : AObj) : AHeap := AHeap.rec (fun next tbl => AHeap.mk next (setFK o (Nat.succ id) tbl id)) h
noncomputable def newK (h : AHeap) (o : AObj) (f : Nat → AHeap → Ans) : Ans := AHeap.rec (fun next tbl => f next (AHeap.mk (Nat.succ next) (setFK o (Nat.succ next) tbl next))) h
noncomputable def nthK {α : Type} (l : List α) (n : Nat) (f : α → Ans) : Ans := List.rec (fun _ => none) (fun a _ ih n => Nat.rec (f a) (fun m _ => ih m) n) l n
/-- n cells off a list: they, and no less. -/
noncomputable def takeK (n : Nat) (l : List AVal) (f : List AVal → Ans) : Ans :=
  Nat.rec (fun _ f => f []) (fun _ ih l f => List.rec none (fun a t _ => ih t (fun r => f (a :: r))) l) n l f
noncomputable def dropK (n : Nat) (l : List AVal) (f : List AVal → Ans) : Ans :=
  Nat.rec (fun l => f l) (fun _ ih l => List.rec none (fun _ t _ => ih t) l) n l
noncomputable def overK (new l : List AVal) (f : List AVal → Ans) : Ans :=
  List.rec (fun l f => f l) (fun b _ ih l f => List.rec none (fun _ t _ => ih t (fun r => f (b :: r))) l) new l f
noncomputable def splK (l : List AVal) (off : Nat) (new : List AVal) (f : List AVal → Ans) : Ans :=
  Nat.rec (fun l f => overK new l f) (fun _ ih l f => List.rec none (fun a t _ => ih t (fun r => f (a :: r))) l) off l f
noncomputable def lenK {α : Type} (l : List α) : Nat := List.rec 0 (fun _ _ ih => Nat.succ ih) l

/-! ### Operations -/
noncomputable def oMov (x : Tmps → AVal) : OpK := fun _ T h k => k (x T) h
noncomputable def oPick (c a b : Tmps → AVal) : OpK := fun _ T h k => vBool (c T) fun t => k (Bool.rec (b T) (a T) t) h
noncomputable def oNew (cells : List AVal) : OpK := fun _ _ h k => newK h (.cells cells) fun id h => k (.ptr id 0) h
noncomputable def oBox (n : Nat) (x : Tmps → AVal) : OpK := fun _ T h k => vCells (x T) fun cs => Bool.rec none (newK h (.cells cs) fun id h => k (.ptr id 0) h) (Nat.beq (lenK cs) n)
noncomputable def oLoad1 (x : Tmps → AVal) : OpK := fun _ T h k => vPtr (x T) fun id off => rowK h id fun l => nthK l off fun v => k v h
noncomputable def oLoadN (n : Nat) (x : Tmps → AVal) : OpK := fun _ T h k => vPtr (x T) fun id off => rowK h id fun l => dropK off l fun l => takeK n l fun l => k (.agg l) h
noncomputable def oStore (n : Nat) (x v : Tmps → AVal) : OpK := fun _ T h k => vPtr (x T) fun id off => rowK h id fun l => vCells (v T) fun cs =>
  Bool.rec none (splK l off cs fun l => k (AVal.tup []) (putK h id (.cells l))) (Nat.beq (lenK cs) n)
noncomputable def oNilCheck (x : Tmps → AVal) : OpK := fun _ T h k => vPtr (x T) fun id off => k (.ptr id off) h
noncomputable def oAddOff (n : Nat) (x : Tmps → AVal) : OpK := fun _ T h k => vPtr (x T) fun id off => k (.ptr id (Nat.add off n)) h
noncomputable def oConv (j : IntKind) (x : Tmps → AVal) : OpK := fun _ T h k => vInt (x T) (fun _ n => k (.int j (j.wrap n)) h) none
noncomputable def oUn (op : UnOp) (x : Tmps → AVal) : OpK := fun _ T h k =>
  UnOp.rec (motive := fun _ => Ans) (optK k h (fUn .neg (x T))) (optK k h (fUn .xor (x T))) (vBool (x T) fun b => k (.bool (Bool.rec true false b)) h) (optK k h (fUn .plus (x T))) op
noncomputable def oExtract (x : Tmps → AVal) (n : Nat) : OpK := fun _ T h k => vTup (x T) fun l => nthK l n fun v => k v h
noncomputable def oCall (f : Nat) (args : Tmps → List AVal) : OpK := fun call T h k => call (.fn f [] []) (args T) h k
noncomputable def oCallv (x : Tmps → AVal) (args : Tmps → List AVal) : OpK := fun call T h k => call (x T) (args T) h k
noncomputable def intK (i : Int) (f : Nat → Ans) : Ans := Int.rec f (fun _ => none) i
noncomputable def oIdxAddrSl (size : Nat) (x i : Tmps → AVal) : OpK := fun _ T h k => vSlice (x T) (fun id off len _ _ _ => vInt (i T) (fun _ i => intK i fun i => Bool.rec none (k (.ptr id (Nat.add off (Nat.mul i size))) h) (Nat.ble (Nat.succ i) len)) none) none
noncomputable def oIdxStr (x i : Tmps → AVal) : OpK := fun _ T h k => vStr (x T) (fun s => vInt (i T) (fun _ i => intK i fun i => nthK s i fun b => k (.int .u8 (Int.ofNat b)) h) none) none
noncomputable def oLen (lk : LK) (x : Tmps → AVal) : OpK := fun _ T h k =>
  LK.rec (motive := fun _ => Ans) (vStr (x T) (fun s => k (.int .i64 (Int.ofNat (lenK s))) h) none) (vSlice (x T) (fun _ _ len _ _ _ => k (.int .i64 (Int.ofNat len)) h) (optK k h (fLen h .l (x T)))) (optK k h (fLen h .m (x T))) lk

noncomputable def genOp (op : AOp) : OpK := fun call T h k =>
  match op with
  | .call f args => call (.fn f [] []) (args.map T.eval) h k
  | .callv x args => call (T.eval x) (args.map T.eval) h k
  | op => resK k (evalOp T h op)

/-! Whole numbers: kinds by number; small ones by the short way. -/
noncomputable def kindN (k : IntKind) : Nat := IntKind.rec 0 1 2 3 4 5 6 7 k
/-- Both of kind i64, both not below zero. -/
noncomputable def bothK (x y : AVal) (f : Nat → Nat → Ans) (g : Ans) : Ans :=
  vInt x (fun k a => vInt y (fun k' b => Bool.rec g (Int.rec (fun a => Int.rec (fun b => f a b) (fun _ => g) b) (fun _ => g) a) (and (Nat.beq (kindN k) 3) (Nat.beq (kindN k') 3))) g) g
noncomputable def oBin (op : BinOp) (x y : Tmps → AVal) : OpK := fun _ T h k => optK k h (binA op (x T) (y T))
noncomputable def oAdd (x y : Tmps → AVal) : OpK := fun c T h k => bothK (x T) (y T) (fun a b => Bool.rec (oBin .add x y c T h k) (k (.int .i64 (Int.ofNat (Nat.add a b))) h) (Nat.ble (Nat.add a b) 9223372036854775807)) (oBin .add x y c T h k)
noncomputable def oCmp (op : BinOp) (f : Nat → Nat → Bool) (x y : Tmps → AVal) : OpK := fun c T h k => bothK (x T) (y T) (fun a b => k (.bool (f a b)) h) (oBin op x y c T h k)
noncomputable def notK (b : Bool) : Bool := Bool.rec true false b
noncomputable def binC (op : BinOp) (x y : Tmps → AVal) (κ : OpK → Wr) : Wr :=
  BinOp.rec (motive := fun _ => Wr) (κ (oAdd x y)) (κ (oBin .sub x y)) (κ (oBin .mul x y)) (κ (oBin .quo x y)) (κ (oBin .rem x y)) (κ (oBin .and x y)) (κ (oBin .or x y)) (κ (oBin .xor x y)) (κ (oBin .shl x y)) (κ (oBin .shr x y)) (κ (oBin .andNot x y))
    (κ (oCmp .eql (fun a b => Nat.beq a b) x y)) (κ (oCmp .neq (fun a b => notK (Nat.beq a b)) x y)) (κ (oCmp .lss (fun a b => Nat.ble (Nat.succ a) b) x y)) (κ (oCmp .leq (fun a b => Nat.ble a b) x y)) (κ (oCmp .gtr (fun a b => Nat.ble (Nat.succ b) a) x y)) (κ (oCmp .geq (fun a b => Nat.ble b a) x y)) op
noncomputable def oEqNil (neg : Bool) (x : Tmps → AVal) : OpK := fun _ T h k => vNil (x T) (k (.bool (Bool.rec true false neg)) h) (k (.bool neg) h)
/-- An interface held against nil. -/
noncomputable def eqC (k : EqK) (neg : Bool) (x y : AOpd) (κ : OpK → Wr) : Wr :=
  EqK.rec (motive := fun _ => Wr) (κ (genOp (.eq .bool neg x y))) (fun l => κ (genOp (.eq (.plain l) neg x y)))
    (AOpd.rec (fun _ => κ (genOp (.eq .iface neg x y))) (fun v => @AVal.rec.{1} (fun _ => Wr) (fun _ => Unit) (fun _ => κ (genOp (.eq .iface neg x y))) (fun _ _ => κ (genOp (.eq .iface neg x y))) (fun _ => κ (genOp (.eq .iface neg x y))) (κ (genOp (.eq .iface neg x y))) (fun _ _ => κ (genOp (.eq .iface neg x y))) (κ (genOp (.eq .iface neg x y))) (fun _ _ _ _ _ _ => κ (genOp (.eq .iface neg x y))) (κ (genOp (.eq .iface neg x y))) (fun _ _ _ _ _ => κ (genOp (.eq .iface neg x y))) (fun _ => κ (genOp (.eq .iface neg x y))) (opdC x fun x => κ (oEqNil neg x)) (fun _ _ _ => κ (genOp (.eq .iface neg x y))) (κ (genOp (.eq .iface neg x y))) (fun _ => κ (genOp (.eq .iface neg x y))) (fun _ _ => κ (genOp (.eq .iface neg x y))) (fun _ _ => κ (genOp (.eq .iface neg x y))) () (fun _ _ _ _ => ()) v) y)
    (κ (genOp (.eq .ptr neg x y))) (κ (genOp (.eq .nilsl neg x y))) (κ (genOp (.eq .nilfn neg x y))) k

noncomputable def opC (op : AOp) (κ : OpK → Wr) : Wr :=
  AOp.rec (motive := fun _ => Wr)
    (fun x => opdC x fun x => κ (oMov x))
    (fun c a b => opdC c fun c => opdC a fun a => opdC b fun b => κ (oPick c a b))
    (fun cells => κ (oNew cells))
    (fun n x => opdC x fun x => κ (oBox n x))
    (fun zero parts => κ (genOp (.build zero parts)))
    (fun cells len size parts => κ (genOp (.buildSlice cells len size parts)))
    (fun x => opdC x fun x => κ (oLoad1 x))
    (fun n x => opdC x fun x => κ (oLoadN n x))
    (fun n x v => opdC x fun x => opdC v fun v => κ (oStore n x v))
    (fun x => opdC x fun x => κ (oNilCheck x))
    (fun op x y => opdC x fun x => opdC y fun y => binC op x y κ)
    (fun k neg x y => eqC k neg x y κ)
    (fun op x => opdC x fun x => κ (oUn op x))
    (fun k x => opdC x fun x => κ (oConv k x))
    (fun x => κ (genOp (.same x)))
    (fun x => κ (genOp (.strToBytes x)))
    (fun x => κ (genOp (.bytesToStr x)))
    (fun t x => κ (genOp (.mkIface t x)))
    (fun f first captured => κ (genOp (.makeFunc f first captured)))
    (fun zero bytes len cap => κ (genOp (.makeSlice zero bytes len cap)))
    (fun x lo hi => κ (genOp (.sliceStr x lo hi)))
    (fun size x lo hi max => κ (genOp (.sliceSl size x lo hi max)))
    (fun n size x lo hi => κ (genOp (.sliceArr n size x lo hi)))
    (fun k x => opdC x fun x => κ (oAddOff k x))
    (fun agg off n x => κ (genOp (.part agg off n x)))
    (fun size x i => opdC x fun x => opdC i fun i => κ (oIdxAddrSl size x i))
    (fun len size x i => κ (genOp (.idxAddrArr len size x i)))
    (fun agg len size x i => κ (genOp (.idxArr agg len size x i)))
    (fun x i => opdC x fun x => opdC i fun i => κ (oIdxStr x i))
    (fun x k => opdC x fun x => κ (oExtract x k))
    (fun f args => opdsC args fun args => κ (oCall f args))
    (fun x args => opdC x fun x => opdsC args fun args => κ (oCallv x args))
    (fun zero bytes x y => κ (genOp (.append zero bytes x y)))
    (fun zero bytes x n => κ (genOp (.appendZeros zero bytes x n)))
    (fun size x y => κ (genOp (.copy size x y)))
    (fun zero x => κ (genOp (.clear zero x)))
    (fun k x => opdC x fun x => κ (oLen k x))
    (fun x => κ (genOp (.cap x)))
    (fun args => κ (genOp (.max args)))
    (fun args => κ (genOp (.min args)))
    (κ (genOp (.makeMap)))
    (fun m k v => κ (genOp (.mapSet m k v)))
    (fun zero ok m k => κ (genOp (.mapGet zero ok m k)))
    (κ (genOp (.fail))) op

noncomputable def operB (g : Option (Nat × Bool)) (s : AVal → Tmps → Tmps) (b : OpK) : Wr :=
  Option.rec (Wr.mk fun call T h k => b call T h fun v h => k (s v T) h)
      (fun g => Prod.rec (fun t want => pathC (Nat.succ t) t fun c => Wr.mk fun call T h k =>
        Bool.rec (k (s undefA T) h) (b call T h fun v h => k (s v T) h) (vFlag (c T) fun b => Bool.rec (notK want) want b)) g) g

noncomputable def operC (o : AOper) : Wr := AOper.rec (fun d g op => dstC d fun s => opC op fun b => operB g s b) o

noncomputable def opsC (l : List AOper) : Wr :=
  List.rec (Wr.mk fun _ T h k => k T h) (fun o _ ih => Wr.rec (fun f => Wr.rec (fun fs => Wr.mk fun call T h k => f call T h fun T h => fs call T h k) ih) (operC o)) l

noncomputable def runW (w : Wr) : OperK := fun call T h k => Wr.rec (fun f => f call T h k) w

abbrev ExecK := ACode → Tmps → AHeap → KT → KX → Ans

noncomputable def drawK (call : CallK) (l : List DOper) : Tmps → AHeap → List AHeap → KT → Ans :=
  List.rec (fun T h _ k => k T h) (fun d _ ih T h hist k =>
    Bool.rec
      (Bool.rec (ih (putDst T d.o.dst undefA) h hist k)
        (resK (fun v h' => Bool.rec none (ih (putDst T d.o.dst v) h' hist k) (drawOk T d.o.op v h hist d.lo && (AVal.elder h'.next v && freshOk h h'))) (evalOp T h d.o.op))
        (wantedA T d.o.guard))
      (runW (operC d.o) call T h fun T' h' => Bool.rec none (ih T' h' (h' :: hist) k) (Nat.ble h.next h'.next && swapOk T d))
      d.eff) l

noncomputable def atK (T : Tmps) (t : Nat) : AVal := Option.rec undefA (fun v => v) (getK T t)
noncomputable def evK (T : Tmps) (x : AOpd) : AVal := AOpd.rec (fun t => atK T t) (fun v => v) x
noncomputable def tmpsK (args : List AVal) : Nat → Tmps → Tmps := List.rec (fun _ T => T) (fun a _ ih i T => ih (Nat.succ i) (setFK a (Nat.succ i) T i)) args

/-- One result. -/
noncomputable def resultK (T : Tmps) (h : AHeap) (r : Nat × Option (Bool × Nat)) (f : AVal → Ans) : Ans :=
  Prod.rec (fun t o => Option.rec (f (atK T t)) (fun p => Prod.rec (fun agg n => vPtr (atK T t) fun id off => rowK h id fun l =>
    Bool.rec (nthK l off f) (dropK off l fun l => takeK n l fun l => f (.agg l)) agg) p) o) r
noncomputable def resultsL (T : Tmps) (h : AHeap) (l : List (Nat × Option (Bool × Nat))) : (List AVal → Ans) → Ans :=
  List.rec (fun f => f []) (fun r _ ih f => resultK T h r fun v => ih fun vs => f (v :: vs)) l
noncomputable def resultsK (T : Tmps) (h : AHeap) (l : List (Nat × Option (Bool × Nat))) (k : KV) : Ans :=
  resultsL T h l fun vs => List.rec (k (AVal.tup []) h) (fun v t _ => List.rec (k v h) (fun _ _ _ => k (.tup vs) h) t) vs

noncomputable def enterFnK (E : Env) (ex : ExecK) (f : Nat) (args : List AVal) (h : AHeap) (k : KV) : Ans :=
  Option.rec none (fun fn => AFunc.rec (fun ntmps body results => Bool.rec none
    (ex body (tmpsK args 0 .leaf) h (fun T h => resultsK T h results k) (fun e T h => AExit.rec (resultsK T h results k) (resultsK T h results k) (fun _ => none) e))
    (Nat.ble (lenK args) ntmps)) fn) (E.fn f)

noncomputable def enterK (E : Env) (ex : ExecK) (f : Nat) (args : List AVal) (h : AHeap) (k : KV) : Ans :=
  Option.rec (enterFnK E ex f args h k) (fun p => resK k (p args h)) (E.prim f)

noncomputable def roundOut (l : Nat) (k : KV) (e : AExit) (h : AHeap) : Ans :=
  match h.get l with
  | some (.loop _ _ tmps params assign body) =>
    k (.bool (decide (e = .normal))) (h.put l (.loop (if e = .normal then .ready else .done) e.pend tmps params assign body))
  | _ => none

noncomputable def roundIn (ex : ExecK) (body : ACode) (l : Nat) (k : KV) (T : Tmps) (h : AHeap) : Ans :=
  match h.get l with
  | some (.loop st pend tmps params assign body') =>
    match st with
    | .ready => ex body T (h.put l (.loop .busy pend tmps params assign body')) (fun _ h => roundOut l k .normal h) (fun e _ h => roundOut l k e h)
    | _ => none
  | _ => none

noncomputable def roundK (ex : ExecK) (l : Nat) (args : List AVal) (h : AHeap) (k : KV) : Ans :=
  match h.get l with
  | some (.loop _ _ tmps params assign body) =>
    Bool.rec none (ex assign (setAll tmps params args) h (fun T h => roundIn ex body l k T h) (fun e T h => AExit.rec (roundIn ex body l k T h) none (fun _ => none) e)) (Nat.beq (lenK args) (lenK params))
  | _ => none

noncomputable def callK (E : Env) (ex : ExecK) : CallK := fun f args h k =>
  @AVal.rec.{1} (fun _ => Ans) (fun _ => Unit) (fun _ => none) (fun _ _ => none) (fun _ => none) none (fun _ _ => none) none (fun _ _ _ _ _ _ => none) none (fun a0 a1 a2 _ _ => ((fun f first captured => enterK E ex f (first ++ args ++ captured) h k) a0 a1 a2)) (fun a0 => ((fun l => roundK ex l args h k) a0)) none (fun _ _ _ => none) none (fun _ => none) (fun _ _ => none) (fun _ _ => none) () (fun _ _ _ _ => ()) f

noncomputable def pendK (p : Pend) (T : Tmps) (h : AHeap) (k : KT) (kx : KX) : Ans :=
  Pend.rec (k T h) (kx .ret T h) (fun id => kx (.exit id) T h) p

noncomputable def rangeOut (l : Nat) (T : Tmps) (k : KT) (kx : KX) (h : AHeap) : Ans :=
  match h.get l with
  | some (.loop st pend _ _ _ _) =>
    match st with
    | .busy => none
    | _ => pendK pend T (h.put l .dead) k kx
  | _ => none

noncomputable def rangeK (E : Env) (ex : ExecK) (f : AVal) (params : List Nat) (assign body : ACode) (T : Tmps) (h : AHeap) (k : KT) (kx : KX) : Ans :=
  match f with
  | .fn f first captured =>
    enterFnK E ex f (first ++ [.yield h.next] ++ captured) (h.new (.loop .ready .none T params assign body)) fun _ h' => rangeOut h.next T k kx h'
  | _ => none

noncomputable def blockX (id : Nat) (k : KT) (kx : KX) : KX := fun e T h => AExit.rec (k T h) (kx .ret T h) (fun i => Bool.rec (kx (.exit i) T h) (k T h) (Nat.beq i id)) e

noncomputable def stepC (E : Env) (call : CallK) (ih : ExecK) : ExecK := fun c T h k kx =>
  ACode.rec (motive := fun _ => Ans) (k T h) (fun l => runW (opsC l) call T h k) (fun l => drawK call l T h [h] k)
    (fun a b _ _ => ih a T h (fun T h => ih b T h k kx) kx)
    (fun c a b _ _ => vBool (evK T c) fun t => Bool.rec (ih b T h k kx) (ih a T h k kx) t)
    (fun id b _ => ih b T h k (blockX id k kx))
    (fun b _ => ih b T h (fun T h => ih (.loop b) T h k kx) kx)
    (fun f params assign body _ _ => rangeK E ih (evK T f) params assign body T h k kx)
    (fun id => kx (.exit id) T h) (kx .ret T h) none c

noncomputable def stepK (E : Env) (ih : ExecK) : ExecK := stepC E (callK E ih) ih

noncomputable def execK (E : Env) (n : Nat) : ExecK := Nat.rec (fun _ _ _ _ _ => none) (fun _ ih => stepK E ih) n

noncomputable def runK (E : Env) (n f : Nat) (args : List AVal) (h : AHeap) (k : KV) : Ans := enterK E (execK E n) f args h k
/-! The outermost function by itself: its calls are run to their end, each, so that the kernel runs a call but once. -/
noncomputable def forceV (v : AVal) (f : AVal → Ans) : Ans := @AVal.rec.{1} (fun _ => Ans) (fun _ => Unit) (fun a0 => ((fun b0 => f (.bool b0)) a0)) (fun a0 a1 => ((fun b0 b1 => f (.int b0 b1)) a0 a1)) (fun a0 => ((fun b0 => f (.str b0)) a0)) (f .nilptr) (fun a0 a1 => ((fun b0 b1 => f (.ptr b0 b1)) a0 a1)) (f .nilslice) (fun a0 a1 a2 a3 a4 a5 => ((fun b0 b1 b2 b3 b4 b5 => f (.slice b0 b1 b2 b3 b4 b5)) a0 a1 a2 a3 a4 a5)) (f .nilfn) (fun a0 a1 a2 _ _ => ((fun b0 b1 b2 => f (.fn b0 b1 b2)) a0 a1 a2)) (fun a0 => ((fun b0 => f (.yield b0)) a0)) (f .niliface) (fun a0 a1 _ => ((fun b0 b1 => f (.iface b0 b1)) a0 a1)) (f .nilmap) (fun a0 => ((fun b0 => f (.map b0)) a0)) (fun a0 _ => ((fun b0 => f (.agg b0)) a0)) (fun a0 _ => ((fun b0 => f (.tup b0)) a0)) () (fun _ _ _ _ => ()) v
noncomputable def forceVs (l : List AVal) : (List AVal → Ans) → Ans := List.rec (fun f => f []) (fun a _ ih f => forceV a fun a => ih fun l => f (a :: l)) l
noncomputable def forceH (h : AHeap) (f : AHeap → Ans) : Ans := AHeap.rec (fun n t => PT.rec (f (AHeap.mk n .leaf)) (fun l v r _ _ => f (AHeap.mk n (.node l v r))) t) h
noncomputable def callTop (E : Env) (m : Nat) : CallK := fun f args h k => forceVs args fun args => forceH h fun h => resK k (callK E (execK E m) f args h fun v h => some (v, h))
noncomputable def execTop (E : Env) (n : Nat) : ExecK := Nat.rec (fun _ _ _ _ _ => none) (fun m ih => stepC E (callTop E m) ih) n
noncomputable def runTop (E : Env) (n f : Nat) (args : List AVal) (h : AHeap) (k : KV) : Ans := enterFnK E (execTop E n) f args h k
end Go.AM
