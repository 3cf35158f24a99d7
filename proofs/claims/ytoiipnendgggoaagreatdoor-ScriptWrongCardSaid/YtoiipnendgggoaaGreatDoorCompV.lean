/- A part of the proof of the claim of this folder (CompV). -/
import Derived.Test.YtoiipnendgggoaaGreatDoorEvalRun
import Derived.Test.YtoiipnendgggoaaGreatDoorComp
set_option autoImplicit true
set_option relaxedAutoImplicit true
set_option linter.all false
set_option linter.deprecated false
set_option linter.unnecessarySimpa false
set_option linter.unusedSectionVars false
set_option linter.unusedSimpArgs false
set_option linter.unusedVariables false
/-! From the model's code to the machine's, with quick tables of types and functions; the same by its very text. -/
namespace Go.AM

noncomputable def alt {α : Type} (l : List α) : Bool → List α := List.rec (fun _ => []) (fun a _ ih b => Bool.rec (ih true) (a :: ih false) b) l
/-- A list as a table. -/
noncomputable def treeOf {α : Type} (f : Nat) : List α → PT α := Nat.rec (fun _ => .leaf) (fun _ ih l => List.rec .leaf (fun a t _ => .node (ih (alt t true)) (some a) (ih (alt t false))) l) f

theorem alt_length {α : Type} : ∀ (l : List α) (b : Bool), 2 * (alt l b).length ≤ l.length + 1 ∧ (b = false → 2 * (alt l b).length ≤ l.length)
  | [], b => by cases b <;> exact ⟨by simp [alt], fun _ => by simp [alt]⟩
  | a :: l, true => by
    have h := (alt_length l false).2 rfl
    exact ⟨by show 2 * (alt l false).length.succ ≤ _; simp only [List.length_cons]; omega, fun h => by cases h⟩
  | a :: l, false => by
    have h := (alt_length l true).1
    exact ⟨by show 2 * (alt l true).length ≤ _; simp only [List.length_cons]; omega, fun _ => by show 2 * (alt l true).length ≤ _; simp only [List.length_cons]; omega⟩

theorem alt_get {α : Type} : ∀ (l : List α) (k : Nat), (alt l true)[k]? = l[2 * k]? ∧ (alt l false)[k]? = l[2 * k + 1]?
  | [], k => by constructor <;> simp [alt]
  | a :: l, k => by
    constructor
    · show (a :: alt l false)[k]? = _
      cases k with
      | zero => rfl
      | succ k =>
        show (alt l false)[k]? = (a :: l)[2 * k + 1 + 1]?
        rw [(alt_get l k).2]; rfl
    · show (alt l true)[k]? = (a :: l)[2 * k + 1]?
      rw [(alt_get l k).1]; rfl

theorem treeOf_get {α : Type} : ∀ (f : Nat) (l : List α) (n : Nat), l.length < 2 ^ f → PT.get (treeOf f l) n = l[n]?
  | 0, l, n, h => by
    have : l = [] := List.length_eq_zero_iff.1 (by simpa using h)
    subst this
    cases n <;> rfl
  | f + 1, [], n, h => by cases n <;> rfl
  | f + 1, a :: l, 0, h => rfl
  | f + 1, a :: l, k + 1, h => by
    show PT.get (.node (treeOf f (alt l true)) (some a) (treeOf f (alt l false))) (k + 1) = _
    simp only [List.length_cons, Nat.pow_succ] at h
    have h1 := (alt_length l true).1
    have h2 := (alt_length l false).2 rfl
    simp only [PT.get]
    split
    · rename_i he
      rw [treeOf_get f _ _ (by omega), (alt_get l _).1]
      rw [show 2 * (k / 2) = k by omega]; rfl
    · rename_i he
      rw [treeOf_get f _ _ (by omega), (alt_get l _).2]
      rw [show 2 * (k / 2) + 1 = k by omega]; rfl

/-- What the compiler asks of types. -/
structure TV where
  info : TypeId → Option TypeInfo
  under : TypeId → Option TypeDesc
  guard : TypeId → Bool
  kinds : TypeId → Option (List SK)

abbrev TV.of (P : Program) : TV := ⟨P.info?, P.underlying, P.eqGuardType P.depth, kindsA P 20⟩

namespace V
section
variable (V : TV)

def zeroA (t : TypeId) : Option (List AVal) :=
  match V.info t with
  | some i => match i.zero with
    | some v => (ofValue v).map AVal.cells
    | none => none
  | none => none

def zeroFlatA (t : TypeId) : Option AVal :=
  match V.info t with
  | some i => match i.zero with
    | some v => ofFlat v
    | none => none
  | none => none

def sizeA (t : TypeId) : Option Nat := (V.info t).map (·.size)
def bytesA (t : TypeId) : Option Nat := (V.info t).map (·.bytes)
def aggA (t : TypeId) : Option Bool := (V.under t).map isAggD

/-- zero cells of the right size -/
def zeroOkA (t : TypeId) : Option (List AVal) :=
  match zeroA V t, sizeA V t with
  | some z, some n => if z.length = n then some z else none
  | _, _ => none

def eqKind (t : TypeId) : Option EqK :=
  match V.under t with
  | some (.interface _) => some .iface
  | some (.pointer _) => some .ptr
  | some (.slice _) => some .nilsl
  | some (.func _ _ _) => some .nilfn
  | some .bool => some .bool
  | some (.struct _) => if V.guard t then none else (V.kinds t).map .plain
  | _ => none

/-- Where the fields of a struct lie. -/
def structPlaces (fields : Array Field) : Option (List (Nat × Nat)) := fields.toList.mapM fun f => (V.info f.type).map fun i => (f.offset, i.size)

def compileCall (c : Call) : Option AOp :=
  match opdsA c.args.toList with
  | none => none
  | some args =>
  match c.callee with
  | .value (.func f) => some (.call f args)
  | .value x => (opdA x).map fun x => .callv x args
  | .invoke .. => none
  | .builtin b =>
    match b, args, (c.argTypes[0]?).bind V.under with
    | .len, [_], some (.array n _) => some (.mov (.const (.int .i64 n)))
    | .len, [_], some (.pointer arr) => match V.under arr with
      | some (.array n _) => some (.mov (.const (.int .i64 n)))
      | _ => none
    | .len, [x], some .string => some (.len .s x)
    | .len, [x], some (.slice _) => some (.len .l x)
    | .len, [x], some (.map _ _) => some (.len .m x)
    | .cap, [x], some (.slice _) => some (.cap x)
    | .append, [x, y], some (.slice e) =>
      match zeroOkA V e, bytesA V e, (c.argTypes[1]?).bind V.under with
      | some z, some b, some (.int _) => if b = 0 then none else some (.appendZeros z b x y)
      | some z, some b, some (.slice _) => if b = 0 then none else some (.append z b x y)
      | some z, some b, some .string => if b = 0 then none else some (.append z b x y)
      | _, _, _ => none
    | .copy, [x, y], some (.slice e) => (sizeA V e).map fun s => .copy s x y
    | .clear, [x], some (.slice e) => (zeroOkA V e).map fun z => .clear z x
    | .max, l, _ => some (.max l)
    | .min, l, _ => some (.min l)
    | _, _, _ => none

def compileBin (op : BinOp) (t : TypeId) (x y : AOpd) : Option AOp :=
  match V.under t with
  | none => none
  | some d =>
    if isStrInt d then some (.bin op x y)
    else match isEq op with
      | some neg => (eqKind V t).map fun k => .eq k neg x y
      | none => none

def compileConv (s d : TypeId) (x : AOpd) : Option AOp :=
  match V.under s, V.under d with
  | some (.int _), some (.int k) => some (.convInt k x)
  | some .string, some .string => some (.same x)
  | some .string, some (.slice e) => if (match V.under e with | some (.int .u8) => true | _ => false) then some (.strToBytes x) else none
  | some (.slice e), some .string => if (match V.under e with | some (.int .u8) => true | _ => false) then some (.bytesToStr x) else none
  | _, _ => none

def compileOp (op : Op) : Option AOp :=
  match op with
  | .move x => (opdA x).map .mov
  | .assign x => (opdA x).map .mov
  | .pick c a b => match opdA c, opdA a, opdA b with
    | some c, some a, some b => some (.pick c a b)
    | _, _, _ => none
  | .alloc e => (zeroOkA V e).map .new
  | .box e x => match sizeA V e, opdA x with
    | some n, some x => some (.box n x)
    | _, _ => none
  | .build t parts =>
    match zeroA V t, V.under t with
    | some z, some (.struct fields) => match structPlaces V fields with
      | some places => (partsOf (places.toArray[·]?) parts.toList).map (.build z)
      | none => none
    | some z, some (.array _ e) => match sizeA V e with
      | some s => (partsOf (fun i => some (i * s, s)) parts.toList).map (.build z)
      | none => none
    | _, _ => none
  | .buildSlice t len parts =>
    match V.under t with
    | some (.slice e) => match sizeA V e, zeroOkA V e with
      | some s, some z => if len * s ≤ 2 ^ 24 then (partsOf (fun i => some (i * s, s)) parts.toList).map (.buildSlice (zerosN z len) len s) else none
      | _, _ => none
    | _ => none
  | .insert t m k v => match V.under t with
    | some (.map kt _) => match V.under kt, opdA m, opdA k, opdA v with
      | some .string, some m, some k, some v => some (.mapSet m k v)
      | _, _, _, _ => none
    | _ => none
  | .load t x => match aggA V t, sizeA V t, opdA x with
    | some true, some n, some x => some (.loadN n x)
    | some false, _, some x => some (.load1 x)
    | _, _, _ => none
  | .store t x v => match sizeA V t, opdA x, opdA v with
    | some n, some x, some v => some (.store n x v)
    | _, _, _ => none
  | .nilCheck x => (opdA x).map .nilCheck
  | .binOp op t x y _ => match opdA x, opdA y with
    | some x, some y => compileBin V op t x y
    | _, _ => none
  | .unOp op _ x => (opdA x).map (.un op)
  | .convert s d x => match opdA x with
    | some x => compileConv V s d x
    | none => none
  | .makeInterface t x => match V.under t, opdA x with
    | some (.interface _), _ => none
    | some _, some x => some (.mkIface t x)
    | _, _ => none
  | .makeFunc (.func f) first cap => match opdsA first.toList, opdsA cap.toList with
    | some a, some b => some (.makeFunc f a b)
    | _, _ => none
  | .makeMap _ none => some .makeMap
  | .makeSlice t l c =>
    match V.under t with
    | some (.slice e) => match zeroOkA V e, bytesA V e, opdA l, opdA c with
      | some z, some b, some l, some c => if b = 0 then none else some (.makeSlice z b l c)
      | _, _, _, _ => none
    | _ => none
  | .slice t x lo hi mx =>
    match opdA x, optA lo, optA hi, optA mx with
    | some x, some lo, some hi, some mx =>
      match V.under t with
      | some (.array n e) => match mx, sizeA V e with
        | none, some s => some (.sliceArr n s x lo hi)
        | _, _ => none
      | some .string => match mx with
        | none => some (.sliceStr x lo hi)
        | some _ => none
      | some (.slice e) => if mx.isSome && !hi.isSome then none else (sizeA V e).map fun s => .sliceSl s x lo hi mx
      | _ => none
    | _, _, _, _ => none
  | .fieldAddr t x f =>
    match V.under t with
    | some (.struct fields) => match fields[f]?, opdA x with
      | some f, some x => match sizeA V f.type with
        | some s => if s = 0 then none else some (.addOff f.offset x)
        | none => none
      | _, _ => none
    | _ => none
  | .field t x f =>
    match V.under t with
    | some (.struct fields) => match fields[f]?, opdA x with
      | some f, some x => match aggA V f.type, sizeA V f.type with
        | some a, some s => some (.part a f.offset s x)
        | _, _ => none
      | _, _ => none
    | _ => none
  | .indexAddr t x i =>
    match opdA x, opdA i with
    | some x, some i =>
      match V.under t with
      | some (.array n e) => (sizeA V e).map fun s => .idxAddrArr n s x i
      | some (.slice e) => (sizeA V e).map fun s => .idxAddrSl s x i
      | _ => none
    | _, _ => none
  | .index t x i =>
    match opdA x, opdA i with
    | some x, some i =>
      match V.under t with
      | some (.array n e) => match aggA V e, sizeA V e with
        | some a, some s => some (.idxArr a n s x i)
        | _, _ => none
      | some .string => some (.idxStr x i)
      | _ => none
    | _, _ => none
  | .lookup t m k ok =>
    match V.under t, opdA m, opdA k with
    | some (.map kt e), some m, some k => match V.under kt, zeroFlatA V e with
      | some .string, some z => some (.mapGet z ok m k)
      | _, _ => none
    | _, _, _ => none
  | .extract x k => (opdA x).map fun x => .extract x k
  | .call c => compileCall V c
  | _ => none

def compileOper (N : Nat) (ops : Array Oper) (o : Oper) : AOper :=
  match compileOp V o.op, compileGuard ops o.guard with
  | some op, some g => if dstOk N o.dst then { dst := o.dst, guard := g, op } else failOp
  | _, _ => failOp

def drawsOf (N : Nat) (ops : Array Oper) (preds : List (List Nat)) : List DOper :=
  let l := ops.toList.map (compileOper V N ops)
  let effs := (List.range ops.size).filter fun i => effA (l.getD i failOp).op
  let es := effsOf preds effs
  (orderOf ops.size preds es.1).map fun i =>
    { o := l.getD i failOp, at_ := i, eff := effA (l.getD i failOp).op, lo := (effs.filter fun e => (preds.getD i []).contains e).length,
      swap := match es.2 with | some (a, b) => if i = a then some (b, l.getD b failOp) else none | none => none }

def compileDraw (N : Nat) (ops : Array Oper) : ACode :=
  let preds := predsFrom [] ops.toList
  let ds := drawsOf V N ops preds
  if (ds.length = ops.size ∧ predsOk ops preds = true) ∧ (drawChecks (drawCheck1 ops preds) [] ds = true ∧ ((List.range ops.size).all fun i => ds.any fun d => d.at_ == i) = true) ∧
    drawChecks (effCheck ops preds) [] ds = true then .draw ds else .fail

def compile (N : Nat) : Code → ACode
  | .skip => .skip
  | .region _ ops draw => if draw then compileDraw V N ops else .ops (ops.toList.map (compileOper V N ops))
  | .seq a b => .seq (compile N a) (compile N b)
  | .cond c a b => match opdA c with
    | some c => .cond c (compile N a) (compile N b)
    | none => .fail
  | .block id b => .block id (compile N b)
  | .loop b => .loop (compile N b)
  | .rangeFunc f ps a b => match opdA f with
    | some f => if ps.toList.all (fun p => decide (p < N)) then .rangeFunc f ps.toList (compile N a) (compile N b) else .fail
    | none => .fail
  | .exit id => .exit id
  | .ret => .ret
  | _ => .fail

def compileResult : ResultVar → Option (Nat × Option (Bool × Nat))
  | .tmp t => some (t, none)
  | .cell a t => match aggA V t, sizeA V t with
    | some g, some n => some (a, some (g, n))
    | _, _ => none

def compileResults : List ResultVar → Option (List (Nat × Option (Bool × Nat)))
  | [] => some []
  | r :: l =>
    match compileResult V r, compileResults l with
    | some a, some as => some (a :: as)
    | _, _ => none

def compileF (f : Func) : Option AFunc :=
  match f.body, compileResults V f.results.toList with
  | some b, some rs => if f.name = "runtime.NumGoroutine" then none else some { ntmps := f.ntmps, body := compile V f.ntmps b, results := rs }
  | _, _ => none

end
end V
theorem vzeroA_eq (P : Program) : V.zeroA (TV.of P) = Go.AM.zeroA P := rfl
theorem vzeroFlatA_eq (P : Program) : V.zeroFlatA (TV.of P) = Go.AM.zeroFlatA P := rfl
theorem vsizeA_eq (P : Program) : V.sizeA (TV.of P) = Go.AM.sizeA P := rfl
theorem vbytesA_eq (P : Program) : V.bytesA (TV.of P) = Go.AM.bytesA P := rfl
theorem vaggA_eq (P : Program) : V.aggA (TV.of P) = Go.AM.aggA P := rfl
theorem vzeroOkA_eq (P : Program) : V.zeroOkA (TV.of P) = Go.AM.zeroOkA P := rfl
theorem veqKind_eq (P : Program) : V.eqKind (TV.of P) = Go.AM.eqKind P := rfl
theorem vstructPlaces_eq (P : Program) : V.structPlaces (TV.of P) = Go.AM.structPlaces P := rfl
theorem vcompileCall_eq (P : Program) : V.compileCall (TV.of P) = Go.AM.compileCall P := rfl
theorem vcompileBin_eq (P : Program) : V.compileBin (TV.of P) = Go.AM.compileBin P := rfl
theorem vcompileConv_eq (P : Program) : V.compileConv (TV.of P) = Go.AM.compileConv P := rfl
theorem vcompileOp_eq (P : Program) : V.compileOp (TV.of P) = Go.AM.compileOp P := rfl
theorem vcompileOper_eq (P : Program) : V.compileOper (TV.of P) = Go.AM.compileOper P := rfl
theorem vdrawsOf_eq (P : Program) : V.drawsOf (TV.of P) = Go.AM.drawsOf P := rfl
theorem vcompileDraw_eq (P : Program) : V.compileDraw (TV.of P) = Go.AM.compileDraw P := rfl
theorem vcompile_eq (P : Program) (N : Nat) (c : Code) : V.compile (TV.of P) N c = Go.AM.compile P N c := by
  induction c <;> simp only [V.compile, Go.AM.compile, *] <;> rfl
theorem vcompileResult_eq (P : Program) : V.compileResult (TV.of P) = Go.AM.compileResult P := rfl
theorem vcompileResults_eq (P : Program) : ∀ l, V.compileResults (TV.of P) l = Go.AM.compileResults P l
  | [] => rfl
  | r :: l => by
    simp only [V.compileResults, Go.AM.compileResults, vcompileResults_eq P l]
    rfl
theorem vcompileF_eq (P : Program) (f : Func) : V.compileF (TV.of P) f = Go.AM.compileF P f := by
  simp only [V.compileF, Go.AM.compileF, vcompileResults_eq]
  cases f.body with
  | none => rfl
  | some b => cases compileResults P f.results.toList <;> simp only [vcompile_eq]

/-- Quick tables. -/
noncomputable def underV (info : TypeId → Option TypeInfo) (t : TypeId) : Option TypeDesc :=
  match info t with
  | some { desc := .named _ u, .. } => (info u).map (·.desc)
  | some i => some i.desc
  | none => none

noncomputable def infoV (P : Program) (tree : PT TypeInfo) (t : TypeId) : Option TypeInfo := Option.rec (P.info? t) some (getK tree t)

noncomputable def tvOf (P : Program) (tree : PT TypeInfo) : TV := ⟨infoV P tree, underV (infoV P tree), P.eqGuardType P.depth, kindsA P 20⟩

theorem vinfoV_eq (P : Program) (h : P.types.toList.length < 2 ^ 14) : infoV P (treeOf 14 P.types.toList) = P.info? := by
  funext t
  unfold infoV
  rw [getK_eq, treeOf_get 14 _ _ h]
  cases e : P.types.toList[t]? with
  | none => rfl
  | some i =>
    have e1 : P.types[t]? = some i := by simpa using e
    have hlt : t < P.types.size := (Array.getElem?_eq_some_iff.1 e1).1
    show some i = Tables.info? P.toTables t
    unfold Tables.info?
    rw [if_pos hlt]
    exact e1.symm

theorem vtvOf_eq (P : Program) (h : P.types.toList.length < 2 ^ 14) : tvOf P (treeOf 14 P.types.toList) = TV.of P := by
  unfold tvOf
  rw [vinfoV_eq P h]
  rfl

/-- The code of the functions, by quick tables. -/
noncomputable def fnV (P : Program) (types : PT TypeInfo) (funcs : PT Func) (f : Nat) : Option AFunc :=
  Option.rec none (fun fn => V.compileF (tvOf P types) fn) (getK funcs f)

theorem vfnV_eq (P : Program) (h : P.types.toList.length < 2 ^ 14) (h' : P.funcs.toList.length < 2 ^ 14) {f : Nat} {af : AFunc}
    (hf : fnV P (treeOf 14 P.types.toList) (treeOf 14 P.funcs.toList) f = some af) : ∃ fn, P.funcs[f]? = some fn ∧ compileF P fn = some af := by
  unfold fnV at hf
  rw [getK_eq, treeOf_get 14 _ _ h', vtvOf_eq P h] at hf
  cases e : P.funcs.toList[f]? with
  | none => rw [e] at hf; cases hf
  | some fn =>
    rw [e] at hf
    exact ⟨fn, by simpa using e, (vcompileF_eq P fn).symm.trans hf⟩
end Go.AM
