import Derived.Test.YtgnebdiembekpaaGreatDoorCards
import Derived.Test.YtgnebdiembekpaaGreatDoorA46
import Derived.Test.YtgnebdiembekpaaGreatDoorA39
import Derived.Test.YtgnebdiembekpaaGreatDoorA40
import Derived.Test.YtgnebdiembekpaaGreatDoorA41
import Derived.Test.YtgnebdiembekpaaGreatDoorA42
import Derived.Test.YtgnebdiembekpaaGreatDoorA43
import Derived.Test.YtgnebdiembekpaaGreatDoorA44
import Derived.Test.YtgnebdiembekpaaGreatDoorA45
/- Part of the proof: the abstract evaluator, its soundness, its runs: AeZa -/
set_option linter.unusedSectionVars false
set_option linter.unusedSimpArgs false
set_option linter.unusedVariables false
set_option linter.unnecessarySimpa false
namespace Go.Proofs.YtgnebdiembekpaaGreatDoor
open Go
set_option maxRecDepth 100000
theorem tie_all : Tryz.prog.laidByTextLater [("unicode/utf8.acceptRanges", Rows.laid_unicode_utf8_acceptRanges), ("strings.asciiSpace", Rows.laid_strings_asciiSpace), ("unicode.White_Space", Rows.laid_unicode_White_Space), ("internal/strconv.uint64pow10", Rows.laid_internal_strconv_uint64pow10), ("math/bits.deBruijn32tab", Rows.laid_math_bits_deBruijn32tab), ("math/bits.deBruijn64tab", Rows.laid_math_bits_deBruijn64tab), ("strconv.ErrSyntax", Rows.laid_strconv_ErrSyntax), ("strconv.ErrRange", Rows.laid_strconv_ErrRange)] [.data, .data, .listed, .data, .data, .data, .sentinel, .sentinel] true :=
  Program.laidByTextLater_by_one 96 8 257 tie_w tie_w' tie_root tie_k tie_g tie_n tie_run
theorem auditDowns_row_tie : Rows.auditDownsRow.laidByTextAt .later Tryz.pinned [.pinned, .data, .data, .listed, .data, .data, .data, .sentinel, .sentinel] true :=
  OpenClaim.laidByTextAt_pinned rfl rfl tie_all rfl rfl rfl rfl (fun y hy _e => by
    simp only [Rows.auditDownsRow, List.zip_cons_cons, List.zip_nil_right, List.mem_cons, List.mem_nil_iff, or_false] at hy
    rcases hy with rfl | rfl | rfl | rfl | rfl | rfl | rfl | rfl | rfl
    · exact ⟨tie_pin, by kernel_rfl⟩
    · cases _e
    · cases _e
    · cases _e
    · cases _e
    · cases _e
    · cases _e
    · cases _e
    · cases _e) tie_fits
theorem auditDowns_wf : Rows.auditDownsRow.wfByText (OpenSpec.ofChange Rows.auditDownsSpec) = true := by kernel_rfl
theorem auditDowns_main : Tryz.pinned.checked.prog.mainIs = some (true, (true, "183a4b0e0c60fea778db278436422423009602d5d61ea68ce79f74a1b6fa4fed").2.toList) := by kernel_rfl
theorem auditDowns_looks : true = Tryz.pinned.checked.prog.looks [] := by kernel_rfl
theorem auditDowns_named : Tryz.pinned.checked.prog.funcNamed "clerestory/clerestorylaw26.AuditDowns" = some 4 := by kernel_rfl
theorem auditDowns_goes : false = Rows.auditDownsRow.goesBy Tryz.pinned.checked.prog := by
  show false = (((Tryz.pinned.checked.prog.funcNamed "clerestory/clerestorylaw26.AuditDowns").any Tryz.pinned.checked.prog.goes) || false)
  rw [auditDowns_named, Option.any_some, Bool.or_false]
  exact (Go.AE.noGoes 4).symm
theorem auditDowns_stand : ([3, 4].all fun u => !Tryz.pinned.checked.prog.wantsStandIn u) = true := by kernel_rfl
/-- the tied card -/
theorem auditDowns_card : Rows.AuditDownsCardSaid :=
  Claim7.holds_tied_plain_at .later [] [.pinned, .data, .data, .listed, .data, .data, .data, .sentinel, .sentinel] true (true, "183a4b0e0c60fea778db278436422423009602d5d61ea68ce79f74a1b6fa4fed") true auditDowns_holds (fun _ h => by cases h) auditDowns_wf (fun _ h => by cases h) auditDowns_row_tie rfl ⟨rfl, rfl⟩ auditDowns_main rfl
    (fun f fn hf hfn => by
      obtain rfl : f = 4 := Option.some.inj (auditDowns_named.symm.trans hf) |>.symm
      obtain rfl : fn = Tryz.f4 := (Option.some.inj (Tryz.func4.symm.trans hfn)).symm
      exact ⟨auditDowns_looks, fun j t ht => by
        rw [Tryz.params4] at ht
        have hm : t ∈ [3, 4] := by simpa using Array.mem_of_getElem? ht
        exact (show Tryz.pinned.checked.prog.wantsStandIn t = false by simpa using List.all_eq_true.1 auditDowns_stand t hm)⟩)
    auditDowns_goes
#print axioms auditDowns_card
end Go.Proofs.YtgnebdiembekpaaGreatDoor
