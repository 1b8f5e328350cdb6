import Derived.Test.YtgnebdiembekpaaGreatDoorA6
import Derived.KernelRfl
/- Part of the proof: the abstract evaluator, its soundness, its runs: AeKm1 -/
set_option linter.unusedSectionVars false
set_option linter.unusedSimpArgs false
set_option linter.unusedVariables false
set_option linter.unnecessarySimpa false
namespace Go.AE.Tb
open Go.AE
theorem text_0 (et : Nat) : fresOk tabA 100000 108 [.str ps0] (A0 et) x6 pn0 pv0 po0 = true := by kernel_rfl
theorem text_1 (et : Nat) : fresOk tabA 100000 108 [.str ps1] (A0 et) x6 pn1 pv1 po1 = true := by kernel_rfl
theorem text_2 (et : Nat) : fresOk tabA 100000 108 [.str ps2] (A0 et) x6 pn2 pv2 po2 = true := by kernel_rfl
theorem text_3 (et : Nat) : fresOk tabA 100000 108 [.str ps3] (A0 et) x6 pn3 pv3 po3 = true := by kernel_rfl
end Go.AE.Tb
