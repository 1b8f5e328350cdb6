import Derived.Test.YtgnebdiembekpaaGreatDoorA33
/- Part of the proof: the abstract evaluator, its soundness, its runs: AeY4 -/
set_option linter.unusedSectionVars false
set_option linter.unusedSimpArgs false
set_option linter.unusedVariables false
set_option linter.unnecessarySimpa false
namespace Go.Proofs.YtgnebdiembekpaaGreatDoor
open Go
set_option maxRecDepth 100000
theorem tie_run (os : Os) (tape : Tape) : doorLeaves Tryz.prog 96 8 257 tiedLaid os tape = some (tiedLaid.filter fun x => x.2.handleName?.isNone, (funcsListed tiedLaid).map (·.2.funcsOut)) := by kernel_rfl
end Go.Proofs.YtgnebdiembekpaaGreatDoor
