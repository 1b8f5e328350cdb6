import Derived.Test.YtgnebdiembekpaaGreatDoorA6
import Derived.KernelRfl
/- Part of the proof: the abstract evaluator, its soundness, its runs: AeKc4 -/
set_option linter.unusedSectionVars false
set_option linter.unusedSimpArgs false
set_option linter.unusedVariables false
set_option linter.unnecessarySimpa false
namespace Go.AE.Tb
open Go.AE
theorem cs_4_0_0 (et : Nat) : fsays tabC 100000 3 [.cls 5 4, .cls 5 0, .cls 5 0] (A0 et) true = true := by kernel_rfl
theorem cs_4_0_1 (et : Nat) : fsays tabC 100000 3 [.cls 5 4, .cls 5 0, .cls 5 1] (A0 et) true = true := by kernel_rfl
theorem cs_4_0_2 (et : Nat) : fsays tabC 100000 3 [.cls 5 4, .cls 5 0, .cls 5 2] (A0 et) true = true := by kernel_rfl
theorem cs_4_0_3 (et : Nat) : fsays tabC 100000 3 [.cls 5 4, .cls 5 0, .cls 5 3] (A0 et) true = true := by kernel_rfl
theorem cs_4_0_4 (et : Nat) : fsays tabC 100000 3 [.cls 5 4, .cls 5 0, .cls 5 4] (A0 et) true = true := by kernel_rfl
theorem cs_4_1_0 (et : Nat) : fsays tabC 100000 3 [.cls 5 4, .cls 5 1, .cls 5 0] (A0 et) true = true := by kernel_rfl
theorem cs_4_1_1 (et : Nat) : fsays tabC 100000 3 [.cls 5 4, .cls 5 1, .cls 5 1] (A0 et) true = true := by kernel_rfl
theorem cs_4_1_2 (et : Nat) : fsays tabC 100000 3 [.cls 5 4, .cls 5 1, .cls 5 2] (A0 et) true = true := by kernel_rfl
theorem cs_4_1_3 (et : Nat) : fsays tabC 100000 3 [.cls 5 4, .cls 5 1, .cls 5 3] (A0 et) true = true := by kernel_rfl
theorem cs_4_1_4 (et : Nat) : fsays tabC 100000 3 [.cls 5 4, .cls 5 1, .cls 5 4] (A0 et) true = true := by kernel_rfl
theorem cs_4_2_0 (et : Nat) : fsays tabC 100000 3 [.cls 5 4, .cls 5 2, .cls 5 0] (A0 et) true = true := by kernel_rfl
theorem cs_4_2_1 (et : Nat) : fsays tabC 100000 3 [.cls 5 4, .cls 5 2, .cls 5 1] (A0 et) true = true := by kernel_rfl
theorem cs_4_2_2 (et : Nat) : fsays tabC 100000 3 [.cls 5 4, .cls 5 2, .cls 5 2] (A0 et) true = true := by kernel_rfl
theorem cs_4_2_3 (et : Nat) : fsays tabC 100000 3 [.cls 5 4, .cls 5 2, .cls 5 3] (A0 et) true = true := by kernel_rfl
theorem cs_4_2_4 (et : Nat) : fsays tabC 100000 3 [.cls 5 4, .cls 5 2, .cls 5 4] (A0 et) true = true := by kernel_rfl
theorem cs_4_3_0 (et : Nat) : fsays tabC 100000 3 [.cls 5 4, .cls 5 3, .cls 5 0] (A0 et) true = true := by kernel_rfl
theorem cs_4_3_1 (et : Nat) : fsays tabC 100000 3 [.cls 5 4, .cls 5 3, .cls 5 1] (A0 et) true = true := by kernel_rfl
theorem cs_4_3_2 (et : Nat) : fsays tabC 100000 3 [.cls 5 4, .cls 5 3, .cls 5 2] (A0 et) true = true := by kernel_rfl
theorem cs_4_3_3 (et : Nat) : fsays tabC 100000 3 [.cls 5 4, .cls 5 3, .cls 5 3] (A0 et) true = true := by kernel_rfl
theorem cs_4_3_4 (et : Nat) : fsays tabC 100000 3 [.cls 5 4, .cls 5 3, .cls 5 4] (A0 et) true = true := by kernel_rfl
theorem cs_4_4_0 (et : Nat) : fsays tabC 100000 3 [.cls 5 4, .cls 5 4, .cls 5 0] (A0 et) true = true := by kernel_rfl
theorem cs_4_4_1 (et : Nat) : fsays tabC 100000 3 [.cls 5 4, .cls 5 4, .cls 5 1] (A0 et) true = true := by kernel_rfl
theorem cs_4_4_2 (et : Nat) : fsays tabC 100000 3 [.cls 5 4, .cls 5 4, .cls 5 2] (A0 et) true = true := by kernel_rfl
theorem cs_4_4_3 (et : Nat) : fsays tabC 100000 3 [.cls 5 4, .cls 5 4, .cls 5 3] (A0 et) true = true := by kernel_rfl
theorem cs_4_4_4 (et : Nat) : fsays tabC 100000 3 [.cls 5 4, .cls 5 4, .cls 5 4] (A0 et) true = true := by kernel_rfl
end Go.AE.Tb
