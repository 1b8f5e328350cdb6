import Derived.Test.YtgnebdiembekpaaGreatDoorA6
import Derived.Test.YtgnebdiembekpaaGreatDoorA18
import Derived.Test.YtgnebdiembekpaaGreatDoorProg
import Derived.KernelRfl
/- Part of the proof: the abstract evaluator, its soundness, its runs: AeP1a -/
set_option linter.unusedSectionVars false
set_option linter.unusedSimpArgs false
set_option linter.unusedVariables false
set_option linter.unnecessarySimpa false
namespace Go.AE.Tb
open Go.AE Go.Proofs
theorem ok3 : irOf Tryz.prog 3 = some ir3 := by kernel_rfl
theorem ok4 : irOf Tryz.prog 4 = some ir4 := by kernel_rfl
theorem ok5 : irOf Tryz.prog 5 = some ir5 := by kernel_rfl
theorem ok6 : irOf Tryz.prog 6 = some ir6 := by kernel_rfl
theorem ok8 : irOf Tryz.prog 8 = some ir8 := by kernel_rfl
theorem ok9 : irOf Tryz.prog 9 = some ir9 := by kernel_rfl
theorem ok10 : irOf Tryz.prog 10 = some ir10 := by kernel_rfl
theorem ok11 : irOf Tryz.prog 11 = some ir11 := by kernel_rfl
theorem ok12 : irOf Tryz.prog 12 = some ir12 := by kernel_rfl
theorem ok13 : irOf Tryz.prog 13 = some ir13 := by kernel_rfl
theorem ok14 : irOf Tryz.prog 14 = some ir14 := by kernel_rfl
theorem ok15 : irOf Tryz.prog 15 = some ir15 := by kernel_rfl
theorem ok16 : irOf Tryz.prog 16 = some ir16 := by kernel_rfl
theorem ok17 : irOf Tryz.prog 17 = some ir17 := by kernel_rfl
theorem ok18 : irOf Tryz.prog 18 = some ir18 := by kernel_rfl
theorem ok19 : irOf Tryz.prog 19 = some ir19 := by kernel_rfl
theorem ok20 : irOf Tryz.prog 20 = some ir20 := by kernel_rfl
theorem ok21 : irOf Tryz.prog 21 = some ir21 := by kernel_rfl
theorem ok22 : irOf Tryz.prog 22 = some ir22 := by kernel_rfl
theorem ok23 : irOf Tryz.prog 23 = some ir23 := by kernel_rfl
theorem ok24 : irOf Tryz.prog 24 = some ir24 := by kernel_rfl
theorem ok28 : irOf Tryz.prog 28 = some ir28 := by kernel_rfl
theorem ok29 : irOf Tryz.prog 29 = some ir29 := by kernel_rfl
theorem ok30 : irOf Tryz.prog 30 = some ir30 := by kernel_rfl
theorem ok31 : irOf Tryz.prog 31 = some ir31 := by kernel_rfl
theorem ok32 : irOf Tryz.prog 32 = some ir32 := by kernel_rfl
theorem ok33 : irOf Tryz.prog 33 = some ir33 := by kernel_rfl
theorem ok34 : irOf Tryz.prog 34 = some ir34 := by kernel_rfl
theorem ok35 : irOf Tryz.prog 35 = some ir35 := by kernel_rfl
theorem ok36 : irOf Tryz.prog 36 = some ir36 := by kernel_rfl
theorem ok41 : irOf Tryz.prog 41 = some ir41 := by kernel_rfl
theorem ok42 : irOf Tryz.prog 42 = some ir42 := by kernel_rfl
theorem ok45 : irOf Tryz.prog 45 = some ir45 := by kernel_rfl
theorem ok46 : irOf Tryz.prog 46 = some ir46 := by kernel_rfl
theorem ok51 : irOf Tryz.prog 51 = some ir51 := by kernel_rfl
theorem ok55 : irOf Tryz.prog 55 = some ir55 := by kernel_rfl
theorem ok59 : irOf Tryz.prog 59 = some ir59 := by kernel_rfl
theorem ok60 : irOf Tryz.prog 60 = some ir60 := by kernel_rfl
theorem ok61 : irOf Tryz.prog 61 = some ir61 := by kernel_rfl
theorem ok67 : irOf Tryz.prog 67 = some ir67 := by kernel_rfl
theorem ok68 : irOf Tryz.prog 68 = some ir68 := by kernel_rfl
theorem ok69 : irOf Tryz.prog 69 = some ir69 := by kernel_rfl
theorem ok71 : irOf Tryz.prog 71 = some ir71 := by kernel_rfl
theorem ok79 : irOf Tryz.prog 79 = some ir79 := by kernel_rfl
theorem ok84 : irOf Tryz.prog 84 = some ir84 := by kernel_rfl
theorem ok89 : irOf Tryz.prog 89 = some ir89 := by kernel_rfl
theorem ok95 : irOf Tryz.prog 95 = some ir95 := by kernel_rfl
theorem ok96 : irOf Tryz.prog 96 = some ir96 := by kernel_rfl
theorem ok108 : irOf Tryz.prog 108 = some ir108 := by kernel_rfl
theorem ok109 : irOf Tryz.prog 109 = some ir109 := by kernel_rfl
theorem ok110 : irOf Tryz.prog 110 = some ir110 := by kernel_rfl
theorem ok111 : irOf Tryz.prog 111 = some ir111 := by kernel_rfl
theorem ok112 : irOf Tryz.prog 112 = some ir112 := by kernel_rfl
theorem ok113 : irOf Tryz.prog 113 = some ir113 := by kernel_rfl
theorem ok114 : irOf Tryz.prog 114 = some ir114 := by kernel_rfl
theorem ok115 : irOf Tryz.prog 115 = some ir115 := by kernel_rfl
theorem ok116 : irOf Tryz.prog 116 = some ir116 := by kernel_rfl
theorem ok117 : irOf Tryz.prog 117 = some ir117 := by kernel_rfl
theorem ok121 : irOf Tryz.prog 121 = some ir121 := by kernel_rfl
theorem ok131 : irOf Tryz.prog 131 = some ir131 := by kernel_rfl
theorem ok132 : irOf Tryz.prog 132 = some ir132 := by kernel_rfl
end Go.AE.Tb
