/- A part of the proof of the claim of this folder (Walk). -/
import Derived.Test.YtoiipnendgggoaaGreatDoorProg
import Derived.WalkKit
import Derived.WalkSpells
import Derived.WalkLawsBesides
import Derived.LaidEql
import Derived.Stop.Asserts
import Derived.RowKitTokens
set_option autoImplicit true
set_option relaxedAutoImplicit true
set_option linter.all false
set_option linter.deprecated false
set_option linter.unnecessarySimpa false
set_option linter.unusedSectionVars false
set_option linter.unusedSimpArgs false
set_option linter.unusedVariables false
/-! What errors.Is and errors.As give: walked. -/
namespace Go.Proofs
set_option maxHeartbeats 400000 in
theorem as_nil (v : Value) (w : World) : Calls Tryz.prog 37 #[.nilIface, v] w fun e w' => e = .returned (.bool false) ∧ w' = w := by
  go_enter Tryz.func37, Tryz.ntmps37
  go_wp2
  go_ret
  exact ⟨rfl, rfl⟩
end Go.Proofs

namespace Go
section
variable {P : Program} (w : World)

theorem run_equalIn_iface_int (d : Nat) {ti tn : TypeId} {ms : Array (String × TypeId)} {i : TypeInfo} {k : IntKind} (a b : Int)
    (hi : P.underlying ti = some (.interface ms)) (hn : P.underlying tn = some (.int k)) (hinfo : P.info? tn = some i) (hcomp : i.comparable = true) :
    (Op.equalIn (d + 2) ti (.iface tn (.int k a)) (.iface tn (.int k b))).run P w = .ok (a == b) w := by
  simp [Op.equalIn, run_underlying hi, run_underlying hn, typeInfo, hinfo, hcomp]

theorem run_eql_iface_int {ti tn : TypeId} {ms : Array (String × TypeId)} {i : TypeInfo} {k : IntKind} (a b : Int)
    (hi : P.underlying ti = some (.interface ms)) (hn : P.underlying tn = some (.int k)) (hinfo : P.info? tn = some i) (hcomp : i.comparable = true) :
    (binOp .eql ti (.iface tn (.int k a)) (.iface tn (.int k b))).run P w = .ok (.bool (a == b)) w := by
  simp only [binOp]
  simp [Op.equal, Op.maxDepth, run_equalIn_iface_int w 9998 a b hi hn hinfo hcomp]
end
end Go
namespace Go.Proofs
open Go.RowKit Go.Extern.Stop Go.Stop Go.Extern
theorem isTypeOf (v : Value) (w : World) : (Extern.ReflectliteType.typeOf #[.iface 36 v]).run Tryz.prog w = .ok (.iface 125 (.agg #[.pointer (some ⟨9, 36, none⟩)])) w := by kernel_rfl
theorem isComparable (w : World) : ((Extern.ReflectliteType.method fun t => do Rtype.noPackHeld "Comparable" t; (fun a => Value.bool a.comparable) <$> typeInfo t) #[.agg #[.pointer (some ⟨9, 36, none⟩)]]).run Tryz.prog w = .ok (.bool true) w := by kernel_rfl
theorem isMethodComparable (v : Value) (w : World) : (Go.method 862 125 v "Comparable").run Tryz.prog w = .ok (644, v) w := by kernel_rfl
theorem isComp : (Tryz.prog.info? 36).map (·.comparable) = some true := by kernel_rfl
set_option maxRecDepth 100000 in
set_option maxHeartbeats 400000 in
theorem is_errno (a : Int) (w : World) : Calls Tryz.prog 9 #[.iface 36 (.int .i64 a), .iface 36 (.int .i64 a)] w fun e w' => e = .returned (.bool true) ∧ w' = w := by
  obtain ⟨i, hi, hcmp⟩ := Option.map_eq_some_iff.1 isComp
  have h8 := @run_callFunc_extern Tryz.prog 18 _ Extern.ReflectliteType.typeOf Tryz.func18 (by kernel_rfl) (by kernel_rfl) (by kernel_rfl) (by kernel_rfl)
  have h32 := @run_callFunc_extern Tryz.prog 644 _ (Extern.ReflectliteType.method fun t => do Rtype.noPackHeld "Comparable" t; pure (.bool (← typeInfo t).comparable)) Tryz.func644 (by kernel_rfl) (by kernel_rfl) (by kernel_rfl) (by kernel_rfl)
  have tT := isTypeOf
  have cT := isComparable
  have mR := isMethodComparable
  have heq := run_eql_iface_int (P := Tryz.prog) w a a Tryz.underlying32 Tryz.underlying36 hi hcmp
  rw [beq_self_eq_true] at heq
  go_enter Tryz.func9, Tryz.ntmps9
  go_wp2
  refine wp_loop_rounds 1 ?_
  rw [rounds_succ]
  go_wp2
  go_ret
  exact ⟨rfl, rfl⟩

theorem asValueOf (v : Addr) (w : World) : (Extern.ReflectliteValue.unpack (.iface 114 (.pointer (some v)))).run Tryz.prog w = .ok (.agg #[.pointer (some ⟨9, 114, none⟩), .pointer (some ⟨w.heap.size, 0, none⟩), .int .u64 150]) (w.alloc (.cells #[.pointer (some v)] 114 (0, 0))) := by kernel_rfl
theorem asValueOf36 (v : Int) (w : World) : (Extern.ReflectliteValue.unpack (.iface 36 (.int .i64 v))).run Tryz.prog w = .ok (.agg #[.pointer (some ⟨9, 36, none⟩), .pointer (some ⟨w.heap.size, 0, none⟩), .int .u64 130]) (w.alloc (.cells #[.int .i64 v] 36 (0, 0))) := by kernel_rfl
theorem asType (n : Nat) (w : World) : ((Extern.ReflectliteValue.methodAny (Extern.ReflectliteValue.valueError "reflectlite.Value.Type" 0) fun t _ _ _ => ReflectliteType.toType t) #[.agg #[.pointer (some ⟨9, 114, none⟩), .pointer (some ⟨n, 0, none⟩), .int .u64 150]]).run Tryz.prog w = .ok (.iface 125 (.agg #[.pointer (some ⟨9, 114, none⟩)])) w := by kernel_rfl
theorem mKind (t : Nat) (w : World) : (Go.method 862 125 (.agg #[.pointer (some ⟨9, t, none⟩)]) "Kind").run Tryz.prog w = .ok (638, .pointer (some ⟨9, t, none⟩)) w := by kernel_rfl
theorem kind114 (w : World) : ((Extern.ReflectliteType.abiMethod fun t => (fun (a : Nat) => Value.int IntKind.u8 (a : Int)) <$> Rtype.kind t) #[.pointer (some ⟨9, 114, none⟩)]).run Tryz.prog w = .ok (.int .u8 22) w := by kernel_rfl
theorem kind36 (w : World) : ((Extern.ReflectliteType.abiMethod fun t => (fun (a : Nat) => Value.int IntKind.u8 (a : Int)) <$> Rtype.kind t) #[.pointer (some ⟨9, 36, none⟩)]).run Tryz.prog w = .ok (.int .u8 2) w := by kernel_rfl
theorem mElem (v : Value) (w : World) : (Go.method 862 125 v "Elem").run Tryz.prog w = .ok (645, v) w := by kernel_rfl
theorem elem114 (w : World) : ((Extern.ReflectliteType.method Extern.ReflectliteType.elem) #[.agg #[.pointer (some ⟨9, 114, none⟩)]]).run Tryz.prog w = .ok (.iface 125 (.agg #[.pointer (some ⟨9, 36, none⟩)])) w := by kernel_rfl
theorem mImpl (v : Value) (w : World) : (Go.method 862 125 v "Implements").run Tryz.prog w = .ok (646, v) w := by kernel_rfl
theorem mAssign (v : Value) (w : World) : (Go.method 862 125 v "AssignableTo").run Tryz.prog w = .ok (643, v) w := by kernel_rfl
theorem impl36 (w : World) : ((Extern.ReflectliteType.relation "Implements" Extern.ReflectliteType.implements_) #[.agg #[.pointer (some ⟨9, 36, none⟩)], .iface 125 (.agg #[.pointer (some ⟨9, 32, none⟩)])]).run Tryz.prog w = .ok (.bool true) w := by kernel_rfl
theorem assign36 (w : World) : ((Extern.ReflectliteType.relation "AssignableTo" Extern.ReflectliteType.assignableTo) #[.agg #[.pointer (some ⟨9, 36, none⟩)], .iface 125 (.agg #[.pointer (some ⟨9, 36, none⟩)])]).run Tryz.prog w = .ok (.bool true) w := by kernel_rfl
end Go.Proofs

namespace Go.Proofs
open Go.RowKit Go.Extern.Stop Go.Stop Go.Extern
set_option maxRecDepth 100000 in
set_option maxHeartbeats 1000000 in
theorem asIsNil (n : Nat) (ad : Addr) (w : World) (h : w.cell? ⟨n, 0, none⟩ = some (.pointer (some ad))) : ((Extern.ReflectliteValue.method (Extern.ReflectliteValue.valueError "reflectlite.Value.IsNil" 0) Extern.ReflectliteValue.isNil) #[.agg #[.pointer (some ⟨9, 114, none⟩), .pointer (some ⟨n, 0, none⟩), .int .u64 150]]).run Tryz.prog w = .ok (.bool false) w := by
  have hp : (Extern.ReflectliteValue.parts (.agg #[.pointer (some ⟨9, 114, none⟩), .pointer (some ⟨n, 0, none⟩), .int .u64 150])).run Tryz.prog w = .ok (some (114, ⟨n, 0, none⟩, 150)) w := by kernel_rfl
  have hl : (loadVar 114 ⟨n, 0, none⟩).run Tryz.prog w = .ok (.pointer (some ad)) w := by
    simp [loadVar, Tryz.isAgg114, h]
  show (Sem.run Tryz.prog (do
    match ← Extern.ReflectliteValue.parts (.agg #[.pointer (some ⟨9, 114, none⟩), .pointer (some ⟨n, 0, none⟩), .int .u64 150]) with
    | none => Extern.ReflectliteValue.valueError "reflectlite.Value.IsNil" 0
    | some (t, a, fl) => Extern.ReflectliteValue.isNil t a fl (fl % 32)) w) = _
  rw [Sem.run_bind, hp]
  show (Extern.ReflectliteValue.isNil 114 ⟨n, 0, none⟩ 150 22).run Tryz.prog w = _
  simp [Extern.ReflectliteValue.isNil, hl]
set_option maxRecDepth 100000 in
set_option maxHeartbeats 2000000 in
theorem asElem (n : Nat) (ad : Addr) (w : World) (h : w.cell? ⟨n, 0, none⟩ = some (.pointer (some ad))) : ((Extern.ReflectliteValue.method (Extern.ReflectliteValue.valueError "reflectlite.Value.Elem" 0) Extern.ReflectliteValue.elem) #[.agg #[.pointer (some ⟨9, 114, none⟩), .pointer (some ⟨n, 0, none⟩), .int .u64 150]]).run Tryz.prog w = .ok (.agg #[.pointer (some ⟨9, 36, none⟩), .pointer (some ad), .int .u64 386]) w := by
  have hp : (Extern.ReflectliteValue.parts (.agg #[.pointer (some ⟨9, 114, none⟩), .pointer (some ⟨n, 0, none⟩), .int .u64 150])).run Tryz.prog w = .ok (some (114, ⟨n, 0, none⟩, 150)) w := by kernel_rfl
  have hl : (loadVar 114 ⟨n, 0, none⟩).run Tryz.prog w = .ok (.pointer (some ad)) w := by
    simp [loadVar, Tryz.isAgg114, h]
  have he : (Rtype.elem? 114).run Tryz.prog w = .ok (some 36) w := by kernel_rfl
  have hm : (Extern.ReflectliteValue.mk 36 ad Extern.ReflectliteValue.flagAddr).run Tryz.prog w = .ok (.agg #[.pointer (some ⟨9, 36, none⟩), .pointer (some ad), .int .u64 386]) w := by kernel_rfl
  show (Sem.run Tryz.prog (do
    match ← Extern.ReflectliteValue.parts (.agg #[.pointer (some ⟨9, 114, none⟩), .pointer (some ⟨n, 0, none⟩), .int .u64 150]) with
    | none => Extern.ReflectliteValue.valueError "reflectlite.Value.Elem" 0
    | some (t, a, fl) => Extern.ReflectliteValue.elem t a fl (fl % 32)) w) = _
  rw [Sem.run_bind, hp]
  show (Extern.ReflectliteValue.elem 114 ⟨n, 0, none⟩ 150 22).run Tryz.prog w = _
  simp [Extern.ReflectliteValue.elem, hl, he, hm]

set_option maxRecDepth 100000 in
set_option maxHeartbeats 2000000 in
theorem asSet (m : Nat) (ad : Addr) (a : Int) (w : World) (h : w.cell? ⟨m, 0, none⟩ = some (.int .i64 a)) : (Extern.ReflectliteValue.set #[.agg #[.pointer (some ⟨9, 36, none⟩), .pointer (some ad), .int .u64 386], .agg #[.pointer (some ⟨9, 36, none⟩), .pointer (some ⟨m, 0, none⟩), .int .u64 130]]).run Tryz.prog w = ((storeCells ad [.int .i64 a]).run Tryz.prog w).andThen fun _ w' => .ok (.tuple #[]) w' := by
  have hp : (Extern.ReflectliteValue.parts (.agg #[.pointer (some ⟨9, 36, none⟩), .pointer (some ad), .int .u64 386])).run Tryz.prog w = .ok (some (36, ad, 386)) w := by kernel_rfl
  have hq : (Extern.ReflectliteValue.parts (.agg #[.pointer (some ⟨9, 36, none⟩), .pointer (some ⟨m, 0, none⟩), .int .u64 130])).run Tryz.prog w = .ok (some (36, ⟨m, 0, none⟩, 130)) w := by kernel_rfl
  have hl : (loadVar 36 ⟨m, 0, none⟩).run Tryz.prog w = .ok (.int .i64 a) w := by
    simp [loadVar, Tryz.isAgg36, h]
  have hd : (Rtype.directlyAssignable 36 36).run Tryz.prog w = .ok true w := by kernel_rfl
  have hs : (storeVar 36 ad (.int .i64 a)).run Tryz.prog w = (storeCells ad [.int .i64 a]).run Tryz.prog w := by
    simp [storeVar, Tryz.sizeOf36, Value.cells]
  have e : ∀ v x : Value, Extern.ReflectliteValue.set #[v, x] = (do
    let (some (dst, a, fl), some (src, b, _)) := (← Extern.ReflectliteValue.parts v, ← Extern.ReflectliteValue.parts x)
      | unsupported (.noEntry "extern/(internal/reflectlite.Value).Set.zeroValue")
    if fl / Extern.ReflectliteValue.flagAddr % 2 == 0 then unsupported (.noEntry "extern/(internal/reflectlite.Value).Set.unaddressable")
    let val ← loadVar src b
    if ← Rtype.directlyAssignable dst src then storeVar dst a val
    else if ← Rtype.implements dst src then
      if (← Rtype.kind src) == 20 then
        match val with
        | .nilIface => unsupported (.noEntry "extern/reflectlite: a nil value of one interface type handed on as a value of another")
        | _ => storeVar dst a val
      else storeVar dst a (.iface src val)
    else panicString ("reflectlite.Set: value of type " ++ (← Rtype.spelt src) ++ " is not assignable to type " ++ (← Rtype.spelt dst))
    pure (.tuple #[])) := fun _ _ => rfl
  rw [e]
  simp [hp, hq, hl, hd, hs, Extern.ReflectliteValue.flagAddr]

end Go.Proofs

namespace Go.Proofs
open Go.RowKit Go.Extern.Stop Go.Stop Go.Extern
abbrev asW3 (b o : Nat) (w : World) : World := ((w.alloc (.cells #[.pointer (some ⟨b, o, none⟩)] 114 (0, 0))).alloc (.cells #[.pointer (some ⟨9, 114, none⟩), .pointer (some ⟨w.heap.size, 0, none⟩), .int .u64 150] 167 (0, 0))).alloc (.cells #[.pointer (some ⟨9, 114, none⟩), .pointer (some ⟨w.heap.size, 0, none⟩), .int .u64 150] 167 (0, 0))
abbrev asW4 (a : Int) (b o : Nat) (w : World) : World := (asW3 b o w).alloc (.cells #[.int .i64 a] 36 (0, 0))
theorem asC3 (b o : Nat) (w : World) : (asW3 b o w).cell? ⟨w.heap.size, 0, none⟩ = some (.pointer (some ⟨b, o, none⟩)) := by
  unfold asW3
  rw [World.cell?_alloc_past, World.cell?_alloc_past, World.cell?_alloc_mark]
  · rfl
  · show w.heap.size < (w.heap.push _).size; simp
  · show w.heap.size < ((w.heap.push _).push _).size; simp; omega
theorem asC4 (a : Int) (b o : Nat) (w : World) : (asW4 a b o w).cell? ⟨w.heap.size + 1 + 1 + 1, 0, none⟩ = some (.int .i64 a) := by
  unfold asW4
  rw [World.cell?_alloc_at]
  · rfl
  · show _ = (((w.heap.push _).push _).push _).size; simp

set_option maxRecDepth 100000 in
set_option maxHeartbeats 1000000 in
theorem as_errno (a : Int) (b o : Nat) (w w5 : World) (hE : w.cell? ⟨0, 0, none⟩ = some (.iface 125 (.agg #[.pointer (some ⟨9, 32, none⟩)]))) (h0 : 0 < w.heap.size)
    (hst : (storeCells ⟨b, o, none⟩ [.int .i64 a]).run Tryz.prog (asW4 a b o w) = .ok () w5) :
    Calls Tryz.prog 37 #[.iface 36 (.int .i64 a), .iface 114 (.pointer (some ⟨b, o, none⟩))] w fun e w' => e = .returned (.bool true) ∧ w' = w5 := by
  have h61 := @run_callFunc_extern Tryz.prog 61 _ (fun args : Array Value => Extern.ReflectliteValue.unpack (args.getD 0 (.tuple #[]))) Tryz.func61 (by kernel_rfl) (by kernel_rfl) (by kernel_rfl) (by kernel_rfl)
  have h62 := @run_callFunc_extern Tryz.prog 62 _ (Extern.ReflectliteValue.methodAny (Extern.ReflectliteValue.valueError "reflectlite.Value.Type" 0) fun t _ _ _ => ReflectliteType.toType t) Tryz.func62 (by kernel_rfl) (by kernel_rfl) (by kernel_rfl) (by kernel_rfl)
  have h63 := @run_callFunc_extern Tryz.prog 63 _ (Extern.ReflectliteValue.method (Extern.ReflectliteValue.valueError "reflectlite.Value.IsNil" 0) Extern.ReflectliteValue.isNil) Tryz.func63 (by kernel_rfl) (by kernel_rfl) (by kernel_rfl) (by kernel_rfl)
  have h638 := @run_callFunc_extern Tryz.prog 638 _ (Extern.ReflectliteType.abiMethod fun t => do pure (.int .u8 (← Rtype.kind t))) Tryz.func638 (by kernel_rfl) (by kernel_rfl) (by kernel_rfl) (by kernel_rfl)
  have h645 := @run_callFunc_extern Tryz.prog 645 _ (Extern.ReflectliteType.method Extern.ReflectliteType.elem) Tryz.func645 (by kernel_rfl) (by kernel_rfl) (by kernel_rfl) (by kernel_rfl)
  have h646 := @run_callFunc_extern Tryz.prog 646 _ (Extern.ReflectliteType.relation "Implements" Extern.ReflectliteType.implements_) Tryz.func646 (by kernel_rfl) (by kernel_rfl) (by kernel_rfl) (by kernel_rfl)
  have k1 := asValueOf
  have k2 := asType
  have k3 := mKind
  have k4 := kind114
  have k5 := mElem
  have k6 := elem114
  have k7 := kind36
  have h643 := @run_callFunc_extern Tryz.prog 643 _ (Extern.ReflectliteType.relation "AssignableTo" Extern.ReflectliteType.assignableTo) Tryz.func643 (by kernel_rfl) (by kernel_rfl) (by kernel_rfl) (by kernel_rfl)
  have h106 := @run_callFunc_extern Tryz.prog 106 _ (Extern.ReflectliteValue.method (Extern.ReflectliteValue.valueError "reflectlite.Value.Elem" 0) Extern.ReflectliteValue.elem) Tryz.func106 (by kernel_rfl) (by kernel_rfl) (by kernel_rfl) (by kernel_rfl)
  have h107 := @run_callFunc_extern Tryz.prog 107 _ Extern.ReflectliteValue.set Tryz.func107 (by kernel_rfl) (by kernel_rfl) (by kernel_rfl) (by kernel_rfl)
  have h18 := @run_callFunc_extern Tryz.prog 18 _ Extern.ReflectliteType.typeOf Tryz.func18 (by kernel_rfl) (by kernel_rfl) (by kernel_rfl) (by kernel_rfl)
  have tT := isTypeOf
  have k10 := mAssign
  have k11 := assign36
  have k12 := asValueOf36
  have k8 := impl36
  have k9 := mImpl
  have n1 := asIsNil w.heap.size ⟨b, o, none⟩
  have n2 := asElem w.heap.size ⟨b, o, none⟩ (asW3 b o w) (asC3 b o w)
  have n3 := asSet (w.heap.size + 1 + 1 + 1) ⟨b, o, none⟩ a (asW4 a b o w) (asC4 a b o w)
  rw [hst] at n3
  simp only [Result.andThen] at n3
  clear hst
  go_enter Tryz.func37, Tryz.ntmps37
  go_wp2
  refine wp_loop_rounds 1 ?_
  rw [rounds_succ]
  go_wp2
  go_ret
  exact ⟨rfl, rfl⟩
end Go.Proofs

