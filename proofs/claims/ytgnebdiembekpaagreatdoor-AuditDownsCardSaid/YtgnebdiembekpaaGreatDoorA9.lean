import Derived.Test.YtgnebdiembekpaaGreatDoorA6
import Derived.KernelRfl
/- Part of the proof: the abstract evaluator, its soundness, its runs: AeKa0 -/
set_option linter.unusedSectionVars false
set_option linter.unusedSimpArgs false
set_option linter.unusedVariables false
set_option linter.unnecessarySimpa false
namespace Go.AE.Tb
open Go.AE
theorem ad_0_0_t (et : Nat) : fsays tabC 100000 4 [.cls 4 0, .cls 2 0, .bool true] (A0 et) true = true := by kernel_rfl
theorem ad_0_0_f (et : Nat) : fsays tabC 100000 4 [.cls 4 0, .cls 2 0, .bool false] (A0 et) true = true := by kernel_rfl
theorem ad_0_1_t (et : Nat) : fsays tabC 100000 4 [.cls 4 0, .cls 2 1, .bool true] (A0 et) true = true := by kernel_rfl
theorem ad_0_1_f (et : Nat) : fsays tabC 100000 4 [.cls 4 0, .cls 2 1, .bool false] (A0 et) true = true := by kernel_rfl
theorem ad_1_0_t (et : Nat) : fsays tabC 100000 4 [.cls 4 1, .cls 3 0, .bool true] (A0 et) true = true := by kernel_rfl
theorem ad_1_0_f (et : Nat) : fsays tabC 100000 4 [.cls 4 1, .cls 3 0, .bool false] (A0 et) true = true := by kernel_rfl
theorem ad_1_1_t (et : Nat) : fsays tabC 100000 4 [.cls 4 1, .cls 3 1, .bool true] (A0 et) true = true := by kernel_rfl
theorem ad_1_1_f (et : Nat) : fsays tabC 100000 4 [.cls 4 1, .cls 3 1, .bool false] (A0 et) true = true := by kernel_rfl
theorem ad_1_2_t (et : Nat) : fsays tabC 100000 4 [.cls 4 1, .cls 3 2, .bool true] (A0 et) true = true := by kernel_rfl
theorem ad_1_2_f (et : Nat) : fsays tabC 100000 4 [.cls 4 1, .cls 3 2, .bool false] (A0 et) true = true := by kernel_rfl
theorem ad_2_0_t (et : Nat) : fsays tabC 100000 4 [.cls 4 2, .cls 4 0, .bool true] (A0 et) true = true := by kernel_rfl
theorem ad_2_0_f (et : Nat) : fsays tabC 100000 4 [.cls 4 2, .cls 4 0, .bool false] (A0 et) true = true := by kernel_rfl
theorem ad_2_1_t (et : Nat) : fsays tabC 100000 4 [.cls 4 2, .cls 4 1, .bool true] (A0 et) true = true := by kernel_rfl
theorem ad_2_1_f (et : Nat) : fsays tabC 100000 4 [.cls 4 2, .cls 4 1, .bool false] (A0 et) true = true := by kernel_rfl
theorem ad_2_2_t (et : Nat) : fsays tabC 100000 4 [.cls 4 2, .cls 4 2, .bool true] (A0 et) true = true := by kernel_rfl
theorem ad_2_2_f (et : Nat) : fsays tabC 100000 4 [.cls 4 2, .cls 4 2, .bool false] (A0 et) true = true := by kernel_rfl
theorem ad_2_3_t (et : Nat) : fsays tabC 100000 4 [.cls 4 2, .cls 4 3, .bool true] (A0 et) true = true := by kernel_rfl
theorem ad_2_3_f (et : Nat) : fsays tabC 100000 4 [.cls 4 2, .cls 4 3, .bool false] (A0 et) true = true := by kernel_rfl
theorem ad_3_0_t (et : Nat) : fsays tabC 100000 4 [.cls 4 3, .cls 5 0, .bool true] (A0 et) true = true := by kernel_rfl
theorem ad_3_0_f (et : Nat) : fsays tabC 100000 4 [.cls 4 3, .cls 5 0, .bool false] (A0 et) true = true := by kernel_rfl
theorem ad_3_1_t (et : Nat) : fsays tabC 100000 4 [.cls 4 3, .cls 5 1, .bool true] (A0 et) true = true := by kernel_rfl
theorem ad_3_1_f (et : Nat) : fsays tabC 100000 4 [.cls 4 3, .cls 5 1, .bool false] (A0 et) true = true := by kernel_rfl
theorem ad_3_2_t (et : Nat) : fsays tabC 100000 4 [.cls 4 3, .cls 5 2, .bool true] (A0 et) true = true := by kernel_rfl
theorem ad_3_2_f (et : Nat) : fsays tabC 100000 4 [.cls 4 3, .cls 5 2, .bool false] (A0 et) true = true := by kernel_rfl
theorem ad_3_3_t (et : Nat) : fsays tabC 100000 4 [.cls 4 3, .cls 5 3, .bool true] (A0 et) true = true := by kernel_rfl
theorem ad_3_3_f (et : Nat) : fsays tabC 100000 4 [.cls 4 3, .cls 5 3, .bool false] (A0 et) true = true := by kernel_rfl
theorem ad_3_4_t (et : Nat) : fsays tabC 100000 4 [.cls 4 3, .cls 5 4, .bool true] (A0 et) true = true := by kernel_rfl
theorem ad_3_4_f (et : Nat) : fsays tabC 100000 4 [.cls 4 3, .cls 5 4, .bool false] (A0 et) true = true := by kernel_rfl
end Go.AE.Tb
