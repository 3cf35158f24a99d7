/- A part of the proof of the claim of this folder (Closed). -/
import Derived.Test.YtoiipnendgggoaaGreatDoorEvalRun
import Derived.Test.YtoiipnendgggoaaGreatDoorCompV
import Derived.Test.YtoiipnendgggoaaGreatDoorRel
import GoSem.ClaimJoined
set_option autoImplicit true
set_option relaxedAutoImplicit true
set_option linter.all false
set_option linter.deprecated false
set_option linter.unnecessarySimpa false
set_option linter.unusedSectionVars false
set_option linter.unusedSimpArgs false
set_option linter.unusedVariables false
/-! What a function comes to, quickly: with tables. -/
namespace Go.AM

/-- The search of a closure, what was seen kept as a table. -/
noncomputable def cloK (lead : Nat → List Nat) (n : Nat) : List Nat → List Nat → PT Unit → List Nat :=
  Nat.rec (fun _ seen _ => seen.reverse) (fun _ ih todo seen S =>
    List.rec seen.reverse (fun f todo _ => Option.rec (ih (lead f ++ todo) (f :: seen) (setFK () (Nat.succ f) S f)) (fun _ => ih todo seen S) (getK S f)) todo) n

theorem cloK_eq (P : Program) : ∀ (n : Nat) (todo seen : List Nat) (S : PT Unit), (∀ g, (PT.get S g).isSome = seen.contains g) →
    cloK (fun f => (P.funcs[f]?).elim [] P.leadsTo) n todo seen S = P.closureVia n todo seen
  | 0, todo, seen, S, _ => by cases todo <;> rfl
  | n + 1, [], seen, S, _ => rfl
  | n + 1, f :: todo, seen, S, h => by
    show @Option.rec _ (fun _ => List Nat) (cloK _ n ((P.funcs[f]?).elim [] P.leadsTo ++ todo) (f :: seen) (setFK () (Nat.succ f) S f)) (fun _ => cloK _ n todo seen S) (getK S f) = _
    rw [getK_eq, setFK_eq]
    have hf := h f
    rw [Program.closureVia]
    cases e : PT.get S f with
    | none =>
      rw [e] at hf
      rw [if_neg (by rw [← hf]; simp)]
      refine cloK_eq P n _ _ _ fun g => ?_
      show (PT.get (PT.set S f ()) g).isSome = _
      by_cases hg : g = f
      · subst hg
        rw [PT.get_set_same]
        simp
      · rw [PT.get_set_ne _ _ (Ne.symm hg), h g]
        simp [hg]
    | some u =>
      rw [e] at hf
      rw [if_pos (by rw [← hf]; rfl)]
      exact cloK_eq P n _ _ _ h

noncomputable def leadT (P : Program) (T : PT Func) (f : Nat) : List Nat := Option.rec [] (fun fn => P.leadsTo fn) (getK T f)

theorem tree_at (P : Program) (h : P.funcs.toList.length < 2 ^ 14) (g : Nat) : getK (treeOf 14 P.funcs.toList) g = P.funcs[g]? := by
  rw [getK_eq, treeOf_get 14 _ _ h]; simp

/-- The closure, quickly. -/
theorem closure_quick (P : Program) (h : P.funcs.toList.length < 2 ^ 14) (f : Nat) {F : Nat} (hF : 1 + (P.funcs.toList.map fun g => (P.leadsTo g).length + 1).sum = F) :
    P.closure f = cloK (leadT P (treeOf 14 P.funcs.toList)) F [f] [] .leaf := by
  unfold Program.closure
  rw [hF, ← cloK_eq P F [f] [] .leaf (fun g => by rw [PT.get_leaf]; rfl)]
  congr 1
  funext g
  unfold leadT
  rw [tree_at P h]
  cases P.funcs[g]? <;> rfl

theorem inPlace_quick (P : Program) (h : P.funcs.toList.length < 2 ^ 14) {f : Nat} {C : List Nat} (hC : P.closure f = C) :
    P.inPlace f = C.filterMap fun g => (getK (treeOf 14 P.funcs.toList) g).bind fun fn => if fn.ours || fn.body.isNone || fn.name == "runtime.NumGoroutine" then some fn.name else none := by
  unfold Program.inPlace
  rw [hC]
  congr 1
  funext g
  rw [tree_at P h]

theorem unfollowed_quick (P : Program) (h : P.funcs.toList.length < 2 ^ 14) {f : Nat} {C : List Nat} (hC : P.closure f = C) :
    P.unfollowed f = C.any fun g => (getK (treeOf 14 P.funcs.toList) g).any fun fn => match fn.body with | some c => c.unfollowed | none => entryCalls fn := by
  unfold Program.unfollowed
  rw [hC]
  congr 1
  funext g
  rw [tree_at P h]
  rfl

theorem recurses_quick (P : Program) {f : Nat} (h : P.unfollowed f = true) : P.recurses f = true := by
  unfold Program.recurses
  rw [h]; rfl

theorem varsNamed_quick (P : Program) (h : P.funcs.toList.length < 2 ^ 14) {f : Nat} {C : List Nat} (hC : P.closure f = C) :
    P.varsNamed f = (((C.flatMap fun g => ((getK (treeOf 14 P.funcs.toList) g).bind (·.body)).elim [] Code.globalsNamed).eraseDups).filterMap (fun g => (P.globals[g]?).map (·.name)) ++
      C.filterMap fun g => (getK (treeOf 14 P.funcs.toList) g).bind fun fn => if fn.body.isNone then entryReads.lookup fn.name else none).eraseDups := by
  unfold Program.varsNamed
  rw [hC]
  simp only [tree_at P h]
end Go.AM
