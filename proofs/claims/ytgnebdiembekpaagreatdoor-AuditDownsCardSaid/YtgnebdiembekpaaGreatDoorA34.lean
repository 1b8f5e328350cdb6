import Derived.Test.YtgnebdiembekpaaGreatDoorA32
import Derived.Test.YtgnebdiembekpaaGreatDoorRows
import Derived.ProofKit
import Derived.OpenShut
import Derived.LaidMore
import Derived.Lay
import Derived.SevenTiedAt
import Derived.Stop.Joined
/- Part of the proof: the abstract evaluator, its soundness, its runs: AeWja -/
set_option linter.unusedSectionVars false
set_option linter.unusedSimpArgs false
set_option linter.unusedVariables false
set_option linter.unnecessarySimpa false
namespace Go.Proofs.YtgnebdiembekpaaGreatDoor
open Go.ChangeShapes Go.WideShapes Go.ChangeAt Go.RowKit
set_option maxRecDepth 100000
theorem auditDowns_j0 : (Rows.auditDownsRow.wf (OpenSpec.ofChange Rows.auditDownsSpec)) = true := by kernel_rfl
theorem auditDowns_j1 : (laidOutB Tryz.prog) = true := Go.AE.laidOut_true
theorem auditDowns_j2 : (mapsRowed Tryz.prog) = true := by kernel_rfl
theorem auditDowns_j3 : (Tryz.f4.params.all (Tryz.prog.readableRec ·)) = true := by kernel_rfl
theorem auditDowns_j4 : (namedTie Tryz.prog Rows.auditDownsRow.named Rows.auditDownsSpec.vars) = true := by kernel_rfl
theorem auditDowns_j5 : ((Rows.auditDownsRow.stops == [])) = true := by kernel_rfl
theorem auditDowns_j6 : ((Tryz.prog.stops == [])) = true := by kernel_rfl
theorem auditDowns_j7 : ((Rows.auditDownsRow.knobs == [])) = true := by kernel_rfl
theorem auditDowns_j8 : ((Tryz.prog.stopKnobs == [])) = true := by kernel_rfl
theorem auditDowns_j9 : ((Rows.auditDownsRow.inPlace == Tryz.prog.inPlace 4)) = true := by
  rw [Go.AE.inPlace_of Go.AE.allMets Go.AE.closure4 Go.AE.below4]
  kernel_rfl
theorem auditDowns_j10 : ((Rows.auditDownsRow.unfollowed == Tryz.prog.unfollowed 4)) = true := by
  rw [Go.AE.unf4]
  rfl
theorem auditDowns_j11 : ((Rows.auditDownsRow.recurses == Tryz.prog.recurses 4)) = true := by
  rw [Go.AE.recurses_of Go.AE.unf4]
  rfl
theorem auditDowns_j12 : ((Rows.auditDownsRow.named == Tryz.prog.varsNamed 4)) = true := by
  rw [Go.AE.varsNamed_of Go.AE.allMets Go.AE.closure4 Go.AE.below4]
  kernel_rfl
theorem auditDowns_j13 : ((Rows.auditDownsRow.maps == (Tryz.f4.params.toList ++ Rows.auditDownsSpec.plain.varTypes Tryz.prog).any (Tryz.prog.mapsRec ·))) = true := by kernel_rfl
theorem auditDowns_j14 : ((Rows.auditDownsRow.ifaces == (Tryz.f4.params.toList ++ Rows.auditDownsSpec.plain.varTypes Tryz.prog).any (Tryz.prog.ifacesRec ·))) = true := by kernel_rfl
theorem auditDowns_j15 : ((Rows.auditDownsRow.mapsOut == Tryz.prog.mapsAmong Tryz.f4.resultTypes.toList)) = true := by kernel_rfl
theorem auditDowns_j16 : ((Rows.auditDownsRow.loops == (Tryz.f4.params.toList ++ Rows.auditDownsSpec.plain.varTypes Tryz.prog).any (Tryz.prog.loopsFrom ·))) = true := by kernel_rfl
theorem auditDowns_j17 : ((Rows.auditDownsRow.wideKeys == (Tryz.f4.params.toList ++ Rows.auditDownsSpec.plain.varTypes Tryz.prog ++ Tryz.f4.resultTypes.toList).any (Tryz.prog.wideKeysFrom ·))) = true := by kernel_rfl
theorem auditDowns_j18 : (Rows.auditDownsSpec.vars.all (Tryz.prog.varReadable ·)) = true := by kernel_rfl
theorem auditDowns_j19 : (Tryz.f4.resultTypes.all (fun t => Tryz.prog.readableRec t && decide (t < Tryz.prog.types.size))) = true := by kernel_rfl
theorem auditDowns_j20 : ((Rows.auditDownsRow.ifacesOut == Tryz.f4.resultTypes.toList.any (Tryz.prog.ifacesRec ·))) = true := by kernel_rfl
theorem auditDowns_j21 : ((Rows.auditDownsRow.loopsOut == Tryz.f4.resultTypes.toList.any (Tryz.prog.loopsFrom ·))) = true := by kernel_rfl
theorem auditDowns_j22 : ((Rows.auditDownsRow.plainKeys == Tryz.prog.plainKeys)) = true := by kernel_rfl
theorem auditDowns_j23 : (Rows.auditDownsRow.shortTexts.isNone) = true := by kernel_rfl
theorem auditDowns_j24 : (Tryz.prog.stopsHeard) = true := by kernel_rfl
theorem auditDowns_j25 : (Tryz.prog.mayEnter) = true := by kernel_rfl
theorem auditDowns_j26 : ((Rows.auditDownsRow.lifted == Tryz.prog.liftsFinal)) = true := by kernel_rfl
theorem auditDowns_j27 : ((Tryz.prog.make == some Rows.auditDownsRow.make)) = true := by kernel_rfl
theorem auditDowns_j28 : ((Rows.auditDownsRow.kinds == (if Rows.auditDownsRow.domain.isEmpty then [] else Tryz.f4.params.toList.map fun t => match Tryz.prog.underlying t with | some (.int k) => some k | _ => none))) = true := by kernel_rfl
theorem auditDowns_j29 : ((Rows.auditDownsRow.pinned == Rows.auditDownsRow.pinnedBy)) = true := by kernel_rfl
theorem auditDowns_j30 : ((Rows.auditDownsRow.veiled == (Tryz.f4.params.toList ++ Rows.auditDownsSpec.plain.varTypes Tryz.prog ++ Tryz.f4.resultTypes.toList).any (Tryz.prog.veiledRec ·))) = true := by kernel_rfl
theorem auditDowns_j31 : (Rows.auditDownsRow.veiledFits Tryz.prog Tryz.f4.params.toList (Tryz.f4.params.toList ++ Rows.auditDownsSpec.plain.varTypes Tryz.prog ++ Tryz.f4.resultTypes.toList)) = true := by kernel_rfl
end Go.Proofs.YtgnebdiembekpaaGreatDoor
