/- A part of the proof of the claim of this folder (LawB). -/
import Derived.Test.YtoiipnendgggoaaGreatDoorLawA
set_option autoImplicit true
set_option relaxedAutoImplicit true
set_option linter.all false
set_option linter.deprecated false
set_option linter.unnecessarySimpa false
set_option linter.unusedSectionVars false
set_option linter.unusedSimpArgs false
set_option linter.unusedVariables false
namespace Go.Proofs.Law
open Go.AM
set_option maxRecDepth 1000000 in
theorem knownB : isT (runK E1 100000 4 [] H0 fun v h => some (v, h)) = true := by decide +kernel
end Go.Proofs.Law
