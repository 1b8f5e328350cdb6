import Derived.Test.YtgnebdiembekpaaGreatDoorA33
/- Part of the proof: the abstract evaluator, its soundness, its runs: AeY3 -/
set_option linter.unusedSectionVars false
set_option linter.unusedSimpArgs false
set_option linter.unusedVariables false
set_option linter.unnecessarySimpa false
namespace Go.Proofs.YtgnebdiembekpaaGreatDoor
open Go
set_option maxRecDepth 100000
theorem tie_n : varsNamedLaterB Tryz.prog (varsId Tryz.prog) tiedLaid = true := by kernel_rfl
end Go.Proofs.YtgnebdiembekpaaGreatDoor
