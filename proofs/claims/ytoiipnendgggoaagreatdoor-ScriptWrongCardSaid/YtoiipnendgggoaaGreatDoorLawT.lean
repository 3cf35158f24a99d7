/- A part of the proof of the claim of this folder (LawT). -/
import Derived.Test.YtoiipnendgggoaaGreatDoorRows
import Derived.LaidByTextLater
import Derived.SevenTiedAt
set_option autoImplicit true
set_option relaxedAutoImplicit true
set_option linter.all false
set_option linter.deprecated false
set_option linter.unnecessarySimpa false
set_option linter.unusedSectionVars false
set_option linter.unusedSimpArgs false
set_option linter.unusedVariables false
/-! The row's tie, fact by fact. -/
namespace Go.Proofs.YtoiipnendgggoaaGreatDoor
open Go
namespace Own
abbrev L7 : List (String × DataW Unit) := [("math/bits.deBruijn32tab", Rows.laid_math_bits_deBruijn32tab), ("math/bits.deBruijn64tab", Rows.laid_math_bits_deBruijn64tab), ("internal/strconv.uint64pow10", Rows.laid_internal_strconv_uint64pow10), ("unicode/utf8.acceptRanges", Rows.laid_unicode_utf8_acceptRanges), ("errors.errorType", Rows.laid_errors_errorType), ("strconv.ErrRange", Rows.laid_strconv_ErrRange), ("strconv.ErrSyntax", Rows.laid_strconv_ErrSyntax)]
abbrev K7 : List LaidKind := [.data, .data, .data, .data, .handle, .sentinel, .sentinel]
noncomputable abbrev P := Tryz.prog
theorem u1 : P.worded (varsWordLater true) = true := by kernel_rfl
theorem u2 : P.worded (varsWordLater !true) = false := by kernel_rfl
theorem u3 : P.worded rootWordLater = true := by kernel_rfl
theorem u4 : L7.map (fun x => P.kindOfLater x.1) = K7.map some := by kernel_rfl
theorem u5 : (P.funcNamed "gosem.cut.vars").isSome = true := by kernel_rfl
theorem u6 : varsNamedLaterB P (varsId P) L7 = true := by kernel_rfl
theorem u7 : ∀ os tape, varsDone P 400 (varsId P) os tape = true := fun _ _ => by kernel_rfl
theorem u8 : ∀ os tape, (DataW.laidRun P (varsWorld P 400 (varsId P) os tape).memory 8 ((L7.filter fun x => x.2.handleName?.isNone).map (·.1))).map (·.1) = some (L7.filter fun x => x.2.handleName?.isNone) := fun _ _ => by kernel_rfl
theorem u9 : ∀ os tape, (DataW.laidRun P (varsWorld P 400 (varsId P) os tape).memory 8 ((L7.filter fun x => x.2.handleName?.isNone).map (·.1))).map (fun x => decide x.2.Nodup && laidRowsB P (varsWorld P 400 (varsId P) os tape).memory x.2) = some true := fun _ _ => by kernel_rfl
theorem u10 : ∀ os tape, (L7.filter fun x => x.2.handleName?.isSome).all (handleAtB P (varsWorld P 400 (varsId P) os tape).memory) = true := fun _ _ => by kernel_rfl
theorem tie : P.laidByTextLater L7 K7 true := Program.laidByTextLater_by_run_h 400 8 u1 u2 u3 u4 u5 u6 u7 u8 u9 u10
theorem pin_laid_unicode_utf8_first : Tryz.pinned.checked.prog.pinnedFits "unicode/utf8.first" = true := by kernel_rfl
theorem noOwnUnsafe : Tryz.pinned.checked.prog.headLifts.contains "ownunsafe" = false := by kernel_rfl
theorem fits1 : Tryz.pinned.checked.prog.listedFits [("math/bits.deBruijn32tab", Rows.laid_math_bits_deBruijn32tab), ("math/bits.deBruijn64tab", Rows.laid_math_bits_deBruijn64tab), ("internal/strconv.uint64pow10", Rows.laid_internal_strconv_uint64pow10), ("unicode/utf8.acceptRanges", Rows.laid_unicode_utf8_acceptRanges), ("errors.errorType", Rows.laid_errors_errorType), ("strconv.ErrRange", Rows.laid_strconv_ErrRange), ("strconv.ErrSyntax", Rows.laid_strconv_ErrSyntax), ("unicode/utf8.first", Rows.laid_unicode_utf8_first)] = true := by
  unfold Program.listedFits
  rw [noOwnUnsafe]
  kernel_rfl
theorem scriptWrong_row_tie : Rows.scriptWrongRow.laidByTextAt .later Tryz.pinned [.data, .data, .data, .data, .handle, .sentinel, .sentinel, .pinned] true :=
  OpenClaim.laidByTextAt_pinned rfl rfl tie rfl rfl rfl rfl (fun y hy _e => by
    simp only [Rows.scriptWrongRow, List.zip_cons_cons, List.zip_nil_right, List.mem_cons, List.mem_nil_iff, or_false] at hy
    rcases hy with rfl | rfl | rfl | rfl | rfl | rfl | rfl | rfl
    · cases _e
    · cases _e
    · cases _e
    · cases _e
    · cases _e
    · cases _e
    · cases _e
    · exact ⟨pin_laid_unicode_utf8_first, by kernel_rfl⟩) fits1
end Own
end Go.Proofs.YtoiipnendgggoaaGreatDoor
