/- A part of the proof of the claim of this folder (LawH). -/
import Derived.Test.YtoiipnendgggoaaGreatDoorRows
import Derived.JoinedOf
import Derived.KernelRfl
import Derived.Test.YtoiipnendgggoaaGreatDoorLawG
set_option autoImplicit true
set_option relaxedAutoImplicit true
set_option linter.all false
set_option linter.deprecated false
set_option linter.unnecessarySimpa false
set_option linter.unusedSectionVars false
set_option linter.unusedSimpArgs false
set_option linter.unusedVariables false
namespace Go.Proofs.YtoiipnendgggoaaGreatDoor
open Go Go.Proofs.Law
theorem row0 : (List.range' 0 130).all (rowFine Tryz.prog) = true := by kernel_rfl
theorem row1 : (List.range' 130 130).all (rowFine Tryz.prog) = true := by kernel_rfl
theorem row2 : (List.range' 260 130).all (rowFine Tryz.prog) = true := by kernel_rfl
theorem row3 : (List.range' 390 130).all (rowFine Tryz.prog) = true := by kernel_rfl
theorem row4 : (List.range' 520 121).all (rowFine Tryz.prog) = true := by kernel_rfl
theorem row5 : (List.range' 641 121).all (rowFine Tryz.prog) = true := by kernel_rfl
theorem sizeTy : Tryz.prog.types.size = 762 := by kernel_rfl
theorem ck_glob : (Tryz.prog.globals.all fun g => decide (g.type < Tryz.prog.types.size)) = true := by kernel_rfl
theorem ck_par : (Tryz.prog.funcs.all fun f => f.params.all fun t => decide (t < Tryz.prog.types.size)) = true := by
  rw [sizeTy]
  kernel_rfl
theorem in_row {t a n : Nat} (h : (List.range' a n).all (rowFine Tryz.prog) = true) (h1 : a ≤ t) (h2 : t < a + n) : rowFine Tryz.prog t = true :=
  List.all_eq_true.1 h t (List.mem_range'_1.2 ⟨h1, h2⟩)
theorem ck_laidOut : laidOutB Tryz.prog = true := by
  unfold laidOutB
  rw [ck_glob, ck_par, Bool.and_true, Bool.and_true]
  refine List.all_eq_true.2 fun t ht => ?_
  rw [sizeTy] at ht
  have ht := List.mem_range.1 ht
  by_cases h0 : t < 130
  · exact in_row row0 (by omega) h0
  by_cases h1 : t < 260
  · exact in_row row1 (by omega) h1
  by_cases h2 : t < 390
  · exact in_row row2 (by omega) h2
  by_cases h3 : t < 520
  · exact in_row row3 (by omega) h3
  by_cases h4 : t < 641
  · exact in_row row4 (by omega) h4
  exact in_row row5 (by omega) (by omega)
theorem ck_mapsRowed : mapsRowed Tryz.prog = true := by kernel_rfl
theorem ck_readable : Tryz.f3.params.all (Tryz.prog.readableRec ·) = true := by kernel_rfl
theorem ck_maps : (Rows.scriptWrongRow.maps == (Tryz.f3.params.toList ++ Rows.scriptWrongSpec.plain.varTypes Tryz.prog).any (Tryz.prog.mapsRec ·)) = true := by kernel_rfl
theorem ck_plainKeys : (Rows.scriptWrongRow.plainKeys == Tryz.prog.plainKeys) = true := by kernel_rfl
theorem ck_stopsHeard : Tryz.prog.stopsHeard = true := by kernel_rfl
theorem ck_mayEnter : Tryz.prog.mayEnter = true := by kernel_rfl
theorem ck_lifts : (Rows.scriptWrongRow.lifted == Tryz.prog.liftsFinal) = true := by kernel_rfl
theorem ck_stops : (Tryz.prog.stops == []) = true := by kernel_rfl
theorem ck_knobs : (Tryz.prog.stopKnobs == []) = true := by kernel_rfl
theorem ck_veiled : (Rows.scriptWrongRow.veiled == (Tryz.f3.params.toList ++ Rows.scriptWrongSpec.plain.varTypes Tryz.prog ++ Tryz.f3.resultTypes.toList).any (Tryz.prog.veiledRec ·)) = true := by kernel_rfl
theorem ck_make : (Tryz.prog.make == some Rows.scriptWrongRow.make) = true := by kernel_rfl
theorem closed : joinedFacts Tryz.pinned.checked.prog 3 Tryz.f3 Rows.scriptWrongSpec Rows.scriptWrongRow = true := by
  show joinedFacts Tryz.prog 3 Tryz.f3 Rows.scriptWrongSpec Rows.scriptWrongRow = true
  unfold joinedFacts
  rw [← inp3, unf3, rec3, ← nam3, ck_laidOut, ck_mapsRowed, ck_stops, ck_knobs, ck_plainKeys, ck_stopsHeard, ck_mayEnter, ck_lifts, ck_make]
  kernel_rfl
end Go.Proofs.YtoiipnendgggoaaGreatDoor
