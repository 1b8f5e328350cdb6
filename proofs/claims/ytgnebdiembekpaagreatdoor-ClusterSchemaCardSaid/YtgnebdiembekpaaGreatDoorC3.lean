import Derived.Test.YtgnebdiembekpaaGreatDoorA6
import Derived.KernelRfl
/- Part of the proof: the abstract evaluator, its soundness, its runs: AeKc2 -/
set_option linter.unusedSectionVars false
set_option linter.unusedSimpArgs false
set_option linter.unusedVariables false
set_option linter.unnecessarySimpa false
namespace Go.AE.Tb
open Go.AE
theorem cs_2_0_0 (et : Nat) : fsays tabC 100000 3 [.cls 5 2, .cls 3 0, .cls 3 0] (A0 et) true = true := by kernel_rfl
theorem cs_2_0_1 (et : Nat) : fsays tabC 100000 3 [.cls 5 2, .cls 3 0, .cls 3 1] (A0 et) true = true := by kernel_rfl
theorem cs_2_0_2 (et : Nat) : fsays tabC 100000 3 [.cls 5 2, .cls 3 0, .cls 3 2] (A0 et) true = true := by kernel_rfl
theorem cs_2_1_0 (et : Nat) : fsays tabC 100000 3 [.cls 5 2, .cls 3 1, .cls 3 0] (A0 et) true = true := by kernel_rfl
theorem cs_2_1_1 (et : Nat) : fsays tabC 100000 3 [.cls 5 2, .cls 3 1, .cls 3 1] (A0 et) true = true := by kernel_rfl
theorem cs_2_1_2 (et : Nat) : fsays tabC 100000 3 [.cls 5 2, .cls 3 1, .cls 3 2] (A0 et) true = true := by kernel_rfl
theorem cs_2_2_0 (et : Nat) : fsays tabC 100000 3 [.cls 5 2, .cls 3 2, .cls 3 0] (A0 et) true = true := by kernel_rfl
theorem cs_2_2_1 (et : Nat) : fsays tabC 100000 3 [.cls 5 2, .cls 3 2, .cls 3 1] (A0 et) true = true := by kernel_rfl
theorem cs_2_2_2 (et : Nat) : fsays tabC 100000 3 [.cls 5 2, .cls 3 2, .cls 3 2] (A0 et) true = true := by kernel_rfl
end Go.AE.Tb
