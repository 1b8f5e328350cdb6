import Derived.Test.YtgnebdiembekpaaGreatDoorA6
import Derived.KernelRfl
/- Part of the proof: the abstract evaluator, its soundness, its runs: AeKm0 -/
set_option linter.unusedSectionVars false
set_option linter.unusedSimpArgs false
set_option linter.unusedVariables false
set_option linter.unnecessarySimpa false
namespace Go.AE.Tb
open Go.AE
theorem memo_a (et : Nat) : fsays tabI 100000 430 [.str [n97]] (A0 et) false = true := by kernel_rfl
theorem memo_b (et : Nat) : fsays tabI 100000 430 [.str [n98]] (A0 et) false = true := by kernel_rfl
theorem memo_c (et : Nat) : fsays tabI 100000 430 [.str [n99]] (A0 et) false = true := by kernel_rfl
theorem memo_d (et : Nat) : fsays tabI 100000 430 [.str [n100]] (A0 et) false = true := by kernel_rfl
theorem memo_k (et : Nat) : fsays tabI 100000 430 [.str [n107]] (A0 et) false = true := by kernel_rfl
theorem memo_p (et : Nat) : fsays tabI 100000 430 [.str [n112]] (A0 et) false = true := by kernel_rfl
theorem memo_t (et : Nat) : fsays tabI 100000 430 [.str [n116]] (A0 et) false = true := by kernel_rfl
end Go.AE.Tb
