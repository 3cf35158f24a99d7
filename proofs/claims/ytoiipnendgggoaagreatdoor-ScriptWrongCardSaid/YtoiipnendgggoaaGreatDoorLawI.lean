/- A part of the proof of the claim of this folder (LawI). -/
import Derived.Test.YtoiipnendgggoaaGreatDoorLawF
import Derived.Test.YtoiipnendgggoaaGreatDoorLawG
import Derived.ProofKit
import Derived.LaidMore
import Derived.OpenShut
import Derived.Stop.Joined
import Derived.Stop.LaidErr
import Derived.Lib.LaidTab
set_option autoImplicit true
set_option relaxedAutoImplicit true
set_option linter.all false
set_option linter.deprecated false
set_option linter.unnecessarySimpa false
set_option linter.unusedSectionVars false
set_option linter.unusedSimpArgs false
set_option linter.unusedVariables false
namespace Go.Proofs.YtoiipnendgggoaaGreatDoor
open Go.ChangeShapes Go.WideShapes Go.ChangeAt Go.RowKit Go.Proofs.Law Go.AM

abbrev laidL : List (String × DataW Unit) := Rows.scriptWrongRow.laid

theorem own : ownKnob Tryz.prog.godebug = none := by kernel_rfl
theorem rt : (Tryz.prog.cutTypes.find? (·.1 == "internal/reflectlite.rtype")).map (·.2) = some 125 := by kernel_rfl
theorem sizeT : Tryz.prog.types.size = 762 := by kernel_rfl
theorem oneRow : ((List.range 762).filter fun t => Tryz.prog.rowNamed t [101, 114, 114, 111, 114]) = [32] := by kernel_rfl
theorem handleE : typeHandle Tryz.prog 32 = .pointer (some ⟨9, 32, none⟩) := by kernel_rfl

theorem star : "*" ++ "errors.errorString" = "*errors.errorString" := by decide
theorem rowE (u : TypeId) (h : Tryz.prog.typeName? 3 u = some "*errors.errorString") : u = 542 :=
  typeName_ptr_named (nm := "errors.errorString") (by rw [star]; kernel_rfl) (by kernel_rfl) (by decide) u (by rw [star]; exact h)
theorem cellsE : Tryz.prog.cellsOf 544 = 1 := by kernel_rfl
theorem cellsS : Tryz.prog.cellsOf 9 = 1 := by kernel_rfl
theorem gt5 : (Tryz.prog.globals[5]?).map (·.type) = some 32 := by kernel_rfl
theorem gt6 : (Tryz.prog.globals[6]?).map (·.type) = some 32 := by kernel_rfl
theorem gt4 : (Tryz.prog.globals[4]?).map (·.type) = some 344 := by kernel_rfl

set_option maxRecDepth 1000000 in
theorem of_laid {W : World} (h : laidMetH Tryz.prog laidL W) : Laid W := by
  have h' : laidMet Tryz.prog [("math/bits.deBruijn32tab", Rows.laid_math_bits_deBruijn32tab), ("math/bits.deBruijn64tab", Rows.laid_math_bits_deBruijn64tab), ("internal/strconv.uint64pow10", Rows.laid_internal_strconv_uint64pow10), ("unicode/utf8.acceptRanges", Rows.laid_unicode_utf8_acceptRanges), ("strconv.ErrRange", Rows.laid_strconv_ErrRange), ("strconv.ErrSyntax", Rows.laid_strconv_ErrSyntax), ("unicode/utf8.first", Rows.laid_unicode_utf8_first)] W ∧ handlesMet Tryz.prog [("errors.errorType", Rows.laid_errors_errorType)] W := h
  obtain ⟨hl, hh⟩ := h'
  refine ⟨?_, ?_, ?_, ?_⟩
  · exact Lib.tabIs_of_head (zs := Lib.pow10Tab) g4 gt4 Tryz.underlying344 Tryz.underlying257 (by kernel_rfl) (by kernel_rfl) hl.tail.tail
  · obtain ⟨a, s, e1, -⟩ := laid_sentinel hl.tail.tail.tail.tail.tail g5 gt5 Tryz.underlying32 rowE Tryz.underlying542 Tryz.underlying544 rfl rfl Tryz.underlying9 cellsE cellsS
    exact ⟨_, _, e1⟩
  · obtain ⟨a, s, e1, -⟩ := laid_sentinel hl.tail.tail.tail.tail g6 gt6 Tryz.underlying32 rowE Tryz.underlying542 Tryz.underlying544 rfl rfl Tryz.underlying9 cellsE cellsS
    exact ⟨_, _, e1⟩
  · obtain ⟨name, u, ty, e1, e2, e3, e4, e5⟩ := hh _ (List.mem_singleton.2 rfl)
    have en : name = [101, 114, 114, 111, 114] := (Option.some.inj e1).symm
    subst en
    obtain rfl := Option.some.inj (rt.symm.trans e2)
    have hm : ty ∈ (List.range 762).filter fun t => Tryz.prog.rowNamed t [101, 114, 114, 111, 114] := List.mem_filter.2 ⟨List.mem_range.2 (by rw [← sizeT]; exact e3), e4⟩
    rw [oneRow] at hm
    obtain rfl := List.mem_singleton.1 hm
    rw [handleE] at e5
    exact e5
end Go.Proofs.YtoiipnendgggoaaGreatDoor
