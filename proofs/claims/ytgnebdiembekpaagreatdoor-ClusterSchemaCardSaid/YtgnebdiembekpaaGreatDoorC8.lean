import Derived.Test.YtgnebdiembekpaaGreatDoorA32
import Derived.Test.YtgnebdiembekpaaGreatDoorRows
import Derived.ProofKit
import Derived.OpenShut
import Derived.LaidMore
import Derived.Lay
import Derived.SevenTiedAt
import Derived.Stop.Joined
/- Part of the proof: the abstract evaluator, its soundness, its runs: AeWjc -/
set_option linter.unusedSectionVars false
set_option linter.unusedSimpArgs false
set_option linter.unusedVariables false
set_option linter.unnecessarySimpa false
namespace Go.Proofs.YtgnebdiembekpaaGreatDoor
open Go.ChangeShapes Go.WideShapes Go.ChangeAt Go.RowKit
set_option maxRecDepth 100000
theorem clusterSchema_j0 : (Rows.clusterSchemaRow.wf (OpenSpec.ofChange Rows.clusterSchemaSpec)) = true := by kernel_rfl
theorem clusterSchema_j1 : (laidOutB Tryz.prog) = true := Go.AE.laidOut_true
theorem clusterSchema_j2 : (mapsRowed Tryz.prog) = true := by kernel_rfl
theorem clusterSchema_j3 : (Tryz.f3.params.all (Tryz.prog.readableRec ·)) = true := by kernel_rfl
theorem clusterSchema_j4 : (namedTie Tryz.prog Rows.clusterSchemaRow.named Rows.clusterSchemaSpec.vars) = true := by kernel_rfl
theorem clusterSchema_j5 : ((Rows.clusterSchemaRow.stops == [])) = true := by kernel_rfl
theorem clusterSchema_j6 : ((Tryz.prog.stops == [])) = true := by kernel_rfl
theorem clusterSchema_j7 : ((Rows.clusterSchemaRow.knobs == [])) = true := by kernel_rfl
theorem clusterSchema_j8 : ((Tryz.prog.stopKnobs == [])) = true := by kernel_rfl
theorem clusterSchema_j9 : ((Rows.clusterSchemaRow.inPlace == Tryz.prog.inPlace 3)) = true := by
  rw [Go.AE.inPlace_of Go.AE.allMets Go.AE.closure3 Go.AE.below3]
  kernel_rfl
theorem clusterSchema_j10 : ((Rows.clusterSchemaRow.unfollowed == Tryz.prog.unfollowed 3)) = true := by
  rw [Go.AE.unf3]
  rfl
theorem clusterSchema_j11 : ((Rows.clusterSchemaRow.recurses == Tryz.prog.recurses 3)) = true := by
  rw [Go.AE.recurses_of Go.AE.unf3]
  rfl
theorem clusterSchema_j12 : ((Rows.clusterSchemaRow.named == Tryz.prog.varsNamed 3)) = true := by
  rw [Go.AE.varsNamed_of Go.AE.allMets Go.AE.closure3 Go.AE.below3]
  kernel_rfl
theorem clusterSchema_j13 : ((Rows.clusterSchemaRow.maps == (Tryz.f3.params.toList ++ Rows.clusterSchemaSpec.plain.varTypes Tryz.prog).any (Tryz.prog.mapsRec ·))) = true := by kernel_rfl
theorem clusterSchema_j14 : ((Rows.clusterSchemaRow.ifaces == (Tryz.f3.params.toList ++ Rows.clusterSchemaSpec.plain.varTypes Tryz.prog).any (Tryz.prog.ifacesRec ·))) = true := by kernel_rfl
theorem clusterSchema_j15 : ((Rows.clusterSchemaRow.mapsOut == Tryz.prog.mapsAmong Tryz.f3.resultTypes.toList)) = true := by kernel_rfl
theorem clusterSchema_j16 : ((Rows.clusterSchemaRow.loops == (Tryz.f3.params.toList ++ Rows.clusterSchemaSpec.plain.varTypes Tryz.prog).any (Tryz.prog.loopsFrom ·))) = true := by kernel_rfl
theorem clusterSchema_j17 : ((Rows.clusterSchemaRow.wideKeys == (Tryz.f3.params.toList ++ Rows.clusterSchemaSpec.plain.varTypes Tryz.prog ++ Tryz.f3.resultTypes.toList).any (Tryz.prog.wideKeysFrom ·))) = true := by kernel_rfl
theorem clusterSchema_j18 : (Rows.clusterSchemaSpec.vars.all (Tryz.prog.varReadable ·)) = true := by kernel_rfl
theorem clusterSchema_j19 : (Tryz.f3.resultTypes.all (fun t => Tryz.prog.readableRec t && decide (t < Tryz.prog.types.size))) = true := by kernel_rfl
theorem clusterSchema_j20 : ((Rows.clusterSchemaRow.ifacesOut == Tryz.f3.resultTypes.toList.any (Tryz.prog.ifacesRec ·))) = true := by kernel_rfl
theorem clusterSchema_j21 : ((Rows.clusterSchemaRow.loopsOut == Tryz.f3.resultTypes.toList.any (Tryz.prog.loopsFrom ·))) = true := by kernel_rfl
theorem clusterSchema_j22 : ((Rows.clusterSchemaRow.plainKeys == Tryz.prog.plainKeys)) = true := by kernel_rfl
theorem clusterSchema_j23 : (Rows.clusterSchemaRow.shortTexts.isNone) = true := by kernel_rfl
theorem clusterSchema_j24 : (Tryz.prog.stopsHeard) = true := by kernel_rfl
theorem clusterSchema_j25 : (Tryz.prog.mayEnter) = true := by kernel_rfl
theorem clusterSchema_j26 : ((Rows.clusterSchemaRow.lifted == Tryz.prog.liftsFinal)) = true := by kernel_rfl
theorem clusterSchema_j27 : ((Tryz.prog.make == some Rows.clusterSchemaRow.make)) = true := by kernel_rfl
theorem clusterSchema_j28 : ((Rows.clusterSchemaRow.kinds == (if Rows.clusterSchemaRow.domain.isEmpty then [] else Tryz.f3.params.toList.map fun t => match Tryz.prog.underlying t with | some (.int k) => some k | _ => none))) = true := by kernel_rfl
theorem clusterSchema_j29 : ((Rows.clusterSchemaRow.pinned == Rows.clusterSchemaRow.pinnedBy)) = true := by kernel_rfl
theorem clusterSchema_j30 : ((Rows.clusterSchemaRow.veiled == (Tryz.f3.params.toList ++ Rows.clusterSchemaSpec.plain.varTypes Tryz.prog ++ Tryz.f3.resultTypes.toList).any (Tryz.prog.veiledRec ·))) = true := by kernel_rfl
theorem clusterSchema_j31 : (Rows.clusterSchemaRow.veiledFits Tryz.prog Tryz.f3.params.toList (Tryz.f3.params.toList ++ Rows.clusterSchemaSpec.plain.varTypes Tryz.prog ++ Tryz.f3.resultTypes.toList)) = true := by kernel_rfl
end Go.Proofs.YtgnebdiembekpaaGreatDoor
