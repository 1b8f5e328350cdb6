import Derived.Test.YtgnebdiembekpaaGreatDoorA33
/- Part of the proof: the abstract evaluator, its soundness, its runs: AeY1 -/
set_option linter.unusedSectionVars false
set_option linter.unusedSimpArgs false
set_option linter.unusedVariables false
set_option linter.unnecessarySimpa false
namespace Go.Proofs.YtgnebdiembekpaaGreatDoor
open Go
set_option maxRecDepth 100000
theorem tie_k : tiedLaid.map (fun x => Tryz.prog.kindOfLater x.1) = ([.data, .data, .listed, .data, .data, .data, .sentinel, .sentinel] : List LaidKind).map some := by kernel_rfl
end Go.Proofs.YtgnebdiembekpaaGreatDoor
