import Derived.Test.YtgnebdiembekpaaGreatDoorA6
import Derived.KernelRfl
/- Part of the proof: the abstract evaluator, its soundness, its runs: AeKc3 -/
set_option linter.unusedSectionVars false
set_option linter.unusedSimpArgs false
set_option linter.unusedVariables false
set_option linter.unnecessarySimpa false
namespace Go.AE.Tb
open Go.AE
theorem cs_3_0_0 (et : Nat) : fsays tabC 100000 3 [.cls 5 3, .cls 4 0, .cls 4 0] (A0 et) true = true := by kernel_rfl
theorem cs_3_0_1 (et : Nat) : fsays tabC 100000 3 [.cls 5 3, .cls 4 0, .cls 4 1] (A0 et) true = true := by kernel_rfl
theorem cs_3_0_2 (et : Nat) : fsays tabC 100000 3 [.cls 5 3, .cls 4 0, .cls 4 2] (A0 et) true = true := by kernel_rfl
theorem cs_3_0_3 (et : Nat) : fsays tabC 100000 3 [.cls 5 3, .cls 4 0, .cls 4 3] (A0 et) true = true := by kernel_rfl
theorem cs_3_1_0 (et : Nat) : fsays tabC 100000 3 [.cls 5 3, .cls 4 1, .cls 4 0] (A0 et) true = true := by kernel_rfl
theorem cs_3_1_1 (et : Nat) : fsays tabC 100000 3 [.cls 5 3, .cls 4 1, .cls 4 1] (A0 et) true = true := by kernel_rfl
theorem cs_3_1_2 (et : Nat) : fsays tabC 100000 3 [.cls 5 3, .cls 4 1, .cls 4 2] (A0 et) true = true := by kernel_rfl
theorem cs_3_1_3 (et : Nat) : fsays tabC 100000 3 [.cls 5 3, .cls 4 1, .cls 4 3] (A0 et) true = true := by kernel_rfl
theorem cs_3_2_0 (et : Nat) : fsays tabC 100000 3 [.cls 5 3, .cls 4 2, .cls 4 0] (A0 et) true = true := by kernel_rfl
theorem cs_3_2_1 (et : Nat) : fsays tabC 100000 3 [.cls 5 3, .cls 4 2, .cls 4 1] (A0 et) true = true := by kernel_rfl
theorem cs_3_2_2 (et : Nat) : fsays tabC 100000 3 [.cls 5 3, .cls 4 2, .cls 4 2] (A0 et) true = true := by kernel_rfl
theorem cs_3_2_3 (et : Nat) : fsays tabC 100000 3 [.cls 5 3, .cls 4 2, .cls 4 3] (A0 et) true = true := by kernel_rfl
theorem cs_3_3_0 (et : Nat) : fsays tabC 100000 3 [.cls 5 3, .cls 4 3, .cls 4 0] (A0 et) true = true := by kernel_rfl
theorem cs_3_3_1 (et : Nat) : fsays tabC 100000 3 [.cls 5 3, .cls 4 3, .cls 4 1] (A0 et) true = true := by kernel_rfl
theorem cs_3_3_2 (et : Nat) : fsays tabC 100000 3 [.cls 5 3, .cls 4 3, .cls 4 2] (A0 et) true = true := by kernel_rfl
theorem cs_3_3_3 (et : Nat) : fsays tabC 100000 3 [.cls 5 3, .cls 4 3, .cls 4 3] (A0 et) true = true := by kernel_rfl
end Go.AE.Tb
