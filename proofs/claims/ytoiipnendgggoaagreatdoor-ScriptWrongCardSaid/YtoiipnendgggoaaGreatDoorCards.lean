/-
  DERIVED. GIVEN WITH THE SEED: THE CARDS: each row of YtoiipnendgggoaaGreatDoorRows.lean that lists a variable, with what it lists TIED to the program's text (the seventh form; the later family's looks); each row that meets fmt, with fmt's text TOLD by the authors' own Lean function (tested against real Go, not proved from fmt's source: count such statements apart). THE CARD IS WHAT COUNTS. Prove the row's statement (the work); the ties are given (YtoiipnendgggoaaGreatDoorTie.lean); close each card by the builder's one call (the guide's Derived/Test/ToyasCard.lean, 'card_holds'). Laid BY PROGRAM, IN A SANDBOX (cutbox-door.mjs). By AI agents, Wed Nov 11 2026. No macro, syntax, notation, axiom, sorry.
-/
import Derived.Test.YtoiipnendgggoaaGreatDoorRows
import GoSem.ClaimSeven
namespace Go.Proofs.YtoiipnendgggoaaGreatDoor
namespace Rows

/-- THE TIED CARD OF 'pasternlaw29.ScriptWrong'. -/
def scriptWrongCard : Claim7 := { stood := { row := scriptWrongRow, standIns := [], harness := (true, "b50148422035b38e3a3401906374918d2e5e4502e52001aa56104123f89cb162"), looks := true }, kinds := [], alts := [], laidByText := true, laidKinds := [.data, .data, .data, .data, .handle, .sentinel, .sentinel, .pinned], laidTests := true, laidLooks := .later }
def ScriptWrongCardSaid : Prop := Claim7.holds Tryz.pinned (.plain (OpenSpec.ofChange scriptWrongSpec)) scriptWrongCard

/-- THE SECOND FORM's CARD OF 'pasternlaw29.ScriptWrong'. -/
def scriptWrongUptoCard : Claim7 := { stood := { row := scriptWrongUptoRow, standIns := [], harness := (true, "b50148422035b38e3a3401906374918d2e5e4502e52001aa56104123f89cb162"), looks := true }, kinds := [], alts := [], laidByText := true, laidKinds := [.data, .data, .data, .data, .handle, .sentinel, .sentinel, .pinned], laidTests := true, laidLooks := .later }
def ScriptWrongUptoCardSaid : Prop := Claim7.holds Tryz.pinned (.plain (OpenSpec.upto scriptWrongSpec)) scriptWrongUptoCard
end Rows
end Go.Proofs.YtoiipnendgggoaaGreatDoor
