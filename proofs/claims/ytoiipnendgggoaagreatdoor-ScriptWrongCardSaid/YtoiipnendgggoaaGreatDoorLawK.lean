/- A part of the proof of the claim of this folder (LawK). -/
import Derived.Test.YtoiipnendgggoaaGreatDoorLawJ
import Derived.Test.YtoiipnendgggoaaGreatDoorCards
import Derived.Test.YtoiipnendgggoaaGreatDoorLawT
import Derived.SevenTiedAt
set_option autoImplicit true
set_option relaxedAutoImplicit true
set_option linter.all false
set_option linter.deprecated false
set_option linter.unnecessarySimpa false
set_option linter.unusedSectionVars false
set_option linter.unusedSimpArgs false
set_option linter.unusedVariables false
namespace Go.Proofs.YtoiipnendgggoaaGreatDoor
open Go

theorem fn3 : Tryz.prog.funcNamed "pastern/pasternlaw29.ScriptWrong" = some 3 := by kernel_rfl
theorem allGo : Tryz.prog.funcs.toList.any Func.goes = false := by kernel_rfl
theorem goes3 : Tryz.prog.goes 3 = false := by
  have h2 : Tryz.prog.funcs.any Func.goes = false := by rw [← Array.any_toList]; exact allGo
  have h1 : (Law.C3.any fun g => (Tryz.prog.funcs[g]?).any Func.goes) = false := by
    rw [List.any_eq_false]
    intro g _
    cases e : Tryz.prog.funcs[g]? with
    | none => simp
    | some fn =>
      have hm : fn ∈ Tryz.prog.funcs.toList := by
        rw [Array.mem_toList_iff]
        exact Array.mem_of_getElem? e
      have := (List.any_eq_false.1 allGo) fn hm
      simpa using this
  unfold Program.goes
  rw [Law.clo3, h1, h2]
  simp
theorem goesBy3 : false = Rows.scriptWrongRow.goesBy Tryz.pinned.checked.prog := by
  have e1 : Tryz.pinned.checked.prog = Tryz.prog := rfl
  have e2 : Rows.scriptWrongRow.start = .entering := rfl
  have e3 : Rows.scriptWrongRow.func = "pastern/pasternlaw29.ScriptWrong" := rfl
  rw [e1]
  unfold OpenClaim.goesBy Program.goesAt Program.goesFrom
  rw [e2, e3, fn3, Option.any_some, goes3]
  rfl
theorem looks3 : true = Tryz.prog.looks [] := by kernel_rfl
theorem wf3 : Rows.scriptWrongRow.wfByText (OpenSpec.ofChange Rows.scriptWrongSpec) = true := by kernel_rfl
theorem main3 : Tryz.prog.mainIs = some (true, "b50148422035b38e3a3401906374918d2e5e4502e52001aa56104123f89cb162".toList) := by kernel_rfl

theorem scriptWrongCard_holds : Rows.ScriptWrongCardSaid :=
  Claim7.holds_tied_plain_at .later [] [.data, .data, .data, .data, .handle, .sentinel, .sentinel, .pinned] true (true, "b50148422035b38e3a3401906374918d2e5e4502e52001aa56104123f89cb162") true
    scriptWrong_holds (fun _ h => by cases h) wf3 (fun _ h => by cases h) Own.scriptWrong_row_tie rfl ⟨rfl, rfl⟩ main3 rfl
    (fun f fn hf hfn => by
      obtain rfl : f = 3 := Option.some.inj (fn3.symm.trans hf) |>.symm
      obtain rfl : fn = Tryz.f3 := (Option.some.inj (Tryz.func3.symm.trans hfn)).symm
      exact ⟨looks3, fun j t ht => by
        rw [Tryz.params3] at ht
        have hm : t ∈ [5] := by simpa using Array.mem_of_getElem? ht
        have hall : ([5].all fun u => !Tryz.prog.wantsStandIn u) = true := by kernel_rfl
        exact (show Tryz.prog.wantsStandIn t = false by simpa using List.all_eq_true.1 hall t hm)⟩)
    goesBy3
end Go.Proofs.YtoiipnendgggoaaGreatDoor
