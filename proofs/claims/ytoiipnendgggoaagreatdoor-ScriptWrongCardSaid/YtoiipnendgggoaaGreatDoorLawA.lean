/- A part of the proof of the claim of this folder (LawA). -/
import Derived.Test.YtoiipnendgggoaaGreatDoorPrims2
import Derived.Test.YtoiipnendgggoaaGreatDoorCompV
import Derived.Test.YtoiipnendgggoaaGreatDoorProg
set_option autoImplicit true
set_option relaxedAutoImplicit true
set_option linter.all false
set_option linter.deprecated false
set_option linter.unnecessarySimpa false
set_option linter.unusedSectionVars false
set_option linter.unusedSimpArgs false
set_option linter.unusedVariables false
namespace Go.Proofs.Law
open Go.AM
noncomputable def tyT : PT TypeInfo := treeOf 14 Tryz.prog.types.toList
noncomputable def fnT : PT Func := treeOf 14 Tryz.prog.funcs.toList
noncomputable def prims (f : Nat) : Option (List AVal → AHeap → Res) :=
  Bool.rec (Bool.rec (Bool.rec (Bool.rec (Bool.rec (Bool.rec (Bool.rec (Bool.rec none (some pJoin) (Nat.beq f 55)) (some pRepeat) (Nat.beq f 43)) (some pIndexByte) (Nat.beq f 197)) (some pCount) (Nat.beq f 89)) (some (pIs 36)) (Nat.beq f 9)) (some (pAs 36 114)) (Nat.beq f 37)) (some pFormat) (Nat.beq f 96)) (some (pParse 354)) (Nat.beq f 95)
def pKnown : List AVal → AHeap → Res
  | [], h => some (.bool true, h)
  | _, _ => none
noncomputable def prims2 (f : Nat) : Option (List AVal → AHeap → Res) := Bool.rec (prims f) (some pKnown) (Nat.beq f 4)
noncomputable def E1 : Env := { fn := fnV Tryz.prog tyT fnT, prim := prims }
noncomputable def E2 : Env := { fn := fnV Tryz.prog tyT fnT, prim := prims2 }
def H0 : AHeap := { next := 0, tbl := .leaf }
def isT (r : Ans) : Bool := match r with | some (.bool b, _) => b | _ => false
end Go.Proofs.Law
