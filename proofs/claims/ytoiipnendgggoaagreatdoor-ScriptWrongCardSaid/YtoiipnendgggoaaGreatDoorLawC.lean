/- A part of the proof of the claim of this folder (LawC). -/
import Derived.Test.YtoiipnendgggoaaGreatDoorLawA
set_option autoImplicit true
set_option relaxedAutoImplicit true
set_option linter.all false
set_option linter.deprecated false
set_option linter.unnecessarySimpa false
set_option linter.unusedSectionVars false
set_option linter.unusedSimpArgs false
set_option linter.unusedVariables false
namespace Go.Proofs.Law
open Go.AM
set_option maxRecDepth 1000000 in
theorem lawB1 : (List.range 256).all (fun n => Nat.ble 6 (n % 11) || isT (runTop E2 100000 3 [.int .u8 (Int.ofNat n)] H0 fun v h => some (v, h))) = true := by decide +kernel
set_option maxRecDepth 1000000 in
theorem lawB2 : (List.range 256).all (fun n => Nat.ble (n % 11) 5 || isT (runTop E2 100000 3 [.int .u8 (Int.ofNat n)] H0 fun v h => some (v, h))) = true := by decide +kernel
theorem lawB (n : Nat) (hn : n < 256) : isT (runTop E2 100000 3 [.int .u8 (Int.ofNat n)] H0 fun v h => some (v, h)) = true := by
  have h1 := List.all_eq_true.1 lawB1 n (List.mem_range.2 hn)
  have h2 := List.all_eq_true.1 lawB2 n (List.mem_range.2 hn)
  rw [Bool.or_eq_true] at h1 h2
  rcases h1 with h1 | h1
  · rcases h2 with h2 | h2
    · have a := Nat.le_of_ble_eq_true h1
      have b := Nat.le_of_ble_eq_true h2
      omega
    · exact h2
  · exact h1
end Go.Proofs.Law
