import Derived.Test.YtgnebdiembekpaaGreatDoorA33
/- Part of the proof: the abstract evaluator, its soundness, its runs: AeY5 -/
set_option linter.unusedSectionVars false
set_option linter.unusedSimpArgs false
set_option linter.unusedVariables false
set_option linter.unnecessarySimpa false
namespace Go.Proofs.YtgnebdiembekpaaGreatDoor
open Go
set_option maxRecDepth 100000
theorem tie_pin : Tryz.pinned.checked.prog.pinnedFits "unicode/utf8.first" = true := by kernel_rfl
end Go.Proofs.YtgnebdiembekpaaGreatDoor
