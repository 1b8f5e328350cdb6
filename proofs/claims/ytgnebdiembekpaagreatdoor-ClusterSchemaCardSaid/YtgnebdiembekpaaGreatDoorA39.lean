import Derived.Test.YtgnebdiembekpaaGreatDoorA33
/- Part of the proof: the abstract evaluator, its soundness, its runs: AeY0 -/
set_option linter.unusedSectionVars false
set_option linter.unusedSimpArgs false
set_option linter.unusedVariables false
set_option linter.unnecessarySimpa false
namespace Go.Proofs.YtgnebdiembekpaaGreatDoor
open Go
set_option maxRecDepth 100000
theorem tie_w : Tryz.prog.worded (varsWordLater true) = true := by kernel_rfl
theorem tie_w' : Tryz.prog.worded (varsWordLater !true) = false := by kernel_rfl
theorem tie_root : Tryz.prog.worded rootWordLater = true := by kernel_rfl
end Go.Proofs.YtgnebdiembekpaaGreatDoor
