import Derived.Test.YtgnebdiembekpaaGreatDoorA6
import Derived.KernelRfl
/- Part of the proof: the abstract evaluator, its soundness, its runs: AeKc0 -/
set_option linter.unusedSectionVars false
set_option linter.unusedSimpArgs false
set_option linter.unusedVariables false
set_option linter.unnecessarySimpa false
namespace Go.AE.Tb
open Go.AE
theorem cs_0_0_0 (et : Nat) : fsays tabC 100000 3 [.cls 5 0, .cls 1 0, .cls 1 0] (A0 et) true = true := by kernel_rfl
end Go.AE.Tb
