import Derived.Test.YtgnebdiembekpaaGreatDoorA6
import Derived.Test.YtgnebdiembekpaaGreatDoorA18
import Derived.Test.YtgnebdiembekpaaGreatDoorProg
import Derived.KernelRfl
/- Part of the proof: the abstract evaluator, its soundness, its runs: AeP1c -/
set_option linter.unusedSectionVars false
set_option linter.unusedSimpArgs false
set_option linter.unusedVariables false
set_option linter.unnecessarySimpa false
namespace Go.AE.Tb
open Go.AE Go.Proofs
theorem ok314 : irOf Tryz.prog 314 = some ir314 := by kernel_rfl
theorem ok315 : irOf Tryz.prog 315 = some ir315 := by kernel_rfl
theorem ok318 : irOf Tryz.prog 318 = some ir318 := by kernel_rfl
theorem ok319 : irOf Tryz.prog 319 = some ir319 := by kernel_rfl
theorem ok320 : irOf Tryz.prog 320 = some ir320 := by kernel_rfl
theorem ok321 : irOf Tryz.prog 321 = some ir321 := by kernel_rfl
theorem ok322 : irOf Tryz.prog 322 = some ir322 := by kernel_rfl
theorem ok323 : irOf Tryz.prog 323 = some ir323 := by kernel_rfl
theorem ok336 : irOf Tryz.prog 336 = some ir336 := by kernel_rfl
theorem ok339 : irOf Tryz.prog 339 = some ir339 := by kernel_rfl
theorem ok355 : irOf Tryz.prog 355 = some ir355 := by kernel_rfl
theorem ok356 : irOf Tryz.prog 356 = some ir356 := by kernel_rfl
theorem ok360 : irOf Tryz.prog 360 = some ir360 := by kernel_rfl
theorem ok371 : irOf Tryz.prog 371 = some ir371 := by kernel_rfl
theorem ok372 : irOf Tryz.prog 372 = some ir372 := by kernel_rfl
theorem ok373 : irOf Tryz.prog 373 = some ir373 := by kernel_rfl
theorem ok374 : irOf Tryz.prog 374 = some ir374 := by kernel_rfl
theorem ok379 : irOf Tryz.prog 379 = some ir379 := by kernel_rfl
theorem ok382 : irOf Tryz.prog 382 = some ir382 := by kernel_rfl
theorem ok395 : irOf Tryz.prog 395 = some ir395 := by kernel_rfl
theorem ok412 : irOf Tryz.prog 412 = some ir412 := by kernel_rfl
theorem ok415 : irOf Tryz.prog 415 = some ir415 := by kernel_rfl
theorem ok416 : irOf Tryz.prog 416 = some ir416 := by kernel_rfl
theorem ok417 : irOf Tryz.prog 417 = some ir417 := by kernel_rfl
theorem ok418 : irOf Tryz.prog 418 = some ir418 := by kernel_rfl
theorem ok420 : irOf Tryz.prog 420 = some ir420 := by kernel_rfl
theorem ok421 : irOf Tryz.prog 421 = some ir421 := by kernel_rfl
theorem ok423 : irOf Tryz.prog 423 = some ir423 := by kernel_rfl
theorem ok424 : irOf Tryz.prog 424 = some ir424 := by kernel_rfl
theorem ok425 : irOf Tryz.prog 425 = some ir425 := by kernel_rfl
theorem ok426 : irOf Tryz.prog 426 = some ir426 := by kernel_rfl
theorem ok427 : irOf Tryz.prog 427 = some ir427 := by kernel_rfl
theorem ok429 : irOf Tryz.prog 429 = some ir429 := by kernel_rfl
theorem ok430 : irOf Tryz.prog 430 = some ir430 := by kernel_rfl
theorem ok431 : irOf Tryz.prog 431 = some ir431 := by kernel_rfl
theorem ok432 : irOf Tryz.prog 432 = some ir432 := by kernel_rfl
theorem ok433 : irOf Tryz.prog 433 = some ir433 := by kernel_rfl
theorem ok436 : irOf Tryz.prog 436 = some ir436 := by kernel_rfl
theorem ok437 : irOf Tryz.prog 437 = some ir437 := by kernel_rfl
theorem ok439 : irOf Tryz.prog 439 = some ir439 := by kernel_rfl
theorem ok440 : irOf Tryz.prog 440 = some ir440 := by kernel_rfl
theorem ok441 : irOf Tryz.prog 441 = some ir441 := by kernel_rfl
theorem ok442 : irOf Tryz.prog 442 = some ir442 := by kernel_rfl
theorem ok443 : irOf Tryz.prog 443 = some ir443 := by kernel_rfl
theorem ok465 : irOf Tryz.prog 465 = some ir465 := by kernel_rfl
theorem ok475 : irOf Tryz.prog 475 = some ir475 := by kernel_rfl
theorem ok489 : irOf Tryz.prog 489 = some ir489 := by kernel_rfl
theorem ok505 : irOf Tryz.prog 505 = some ir505 := by kernel_rfl
theorem ok506 : irOf Tryz.prog 506 = some ir506 := by kernel_rfl
theorem ok507 : irOf Tryz.prog 507 = some ir507 := by kernel_rfl
theorem ok508 : irOf Tryz.prog 508 = some ir508 := by kernel_rfl
theorem ok509 : irOf Tryz.prog 509 = some ir509 := by kernel_rfl
theorem ok510 : irOf Tryz.prog 510 = some ir510 := by kernel_rfl
theorem ok511 : irOf Tryz.prog 511 = some ir511 := by kernel_rfl
theorem ok512 : irOf Tryz.prog 512 = some ir512 := by kernel_rfl
theorem ok513 : irOf Tryz.prog 513 = some ir513 := by kernel_rfl
theorem ok559 : irOf Tryz.prog 559 = some ir559 := by kernel_rfl
theorem ok560 : irOf Tryz.prog 560 = some ir560 := by kernel_rfl
theorem ok592 : irOf Tryz.prog 592 = some ir592 := by kernel_rfl
theorem ok645 : irOf Tryz.prog 645 = some ir645 := by kernel_rfl
theorem ok662 : irOf Tryz.prog 662 = some ir662 := by kernel_rfl
end Go.AE.Tb
