import Derived.Test.YtgnebdiembekpaaGreatDoorCards
import Derived.Test.YtgnebdiembekpaaGreatDoorC13
import Derived.Test.YtgnebdiembekpaaGreatDoorA39
import Derived.Test.YtgnebdiembekpaaGreatDoorA40
import Derived.Test.YtgnebdiembekpaaGreatDoorA41
import Derived.Test.YtgnebdiembekpaaGreatDoorA42
import Derived.Test.YtgnebdiembekpaaGreatDoorA43
import Derived.Test.YtgnebdiembekpaaGreatDoorA44
import Derived.Test.YtgnebdiembekpaaGreatDoorA45
/- Part of the proof: the abstract evaluator, its soundness, its runs: AeZc -/
set_option linter.unusedSectionVars false
set_option linter.unusedSimpArgs false
set_option linter.unusedVariables false
set_option linter.unnecessarySimpa false
namespace Go.Proofs.YtgnebdiembekpaaGreatDoor
open Go
set_option maxRecDepth 100000
theorem tie_all : Tryz.prog.laidByTextLater [("unicode/utf8.acceptRanges", Rows.laid_unicode_utf8_acceptRanges), ("strings.asciiSpace", Rows.laid_strings_asciiSpace), ("unicode.White_Space", Rows.laid_unicode_White_Space), ("internal/strconv.uint64pow10", Rows.laid_internal_strconv_uint64pow10), ("math/bits.deBruijn32tab", Rows.laid_math_bits_deBruijn32tab), ("math/bits.deBruijn64tab", Rows.laid_math_bits_deBruijn64tab), ("strconv.ErrSyntax", Rows.laid_strconv_ErrSyntax), ("strconv.ErrRange", Rows.laid_strconv_ErrRange)] [.data, .data, .listed, .data, .data, .data, .sentinel, .sentinel] true :=
  Program.laidByTextLater_by_one 96 8 257 tie_w tie_w' tie_root tie_k tie_g tie_n tie_run
theorem clusterSchema_row_tie : Rows.clusterSchemaRow.laidByTextAt .later Tryz.pinned [.pinned, .data, .data, .listed, .data, .data, .data, .sentinel, .sentinel] true :=
  OpenClaim.laidByTextAt_pinned rfl rfl tie_all rfl rfl rfl rfl (fun y hy _e => by
    simp only [Rows.clusterSchemaRow, List.zip_cons_cons, List.zip_nil_right, List.mem_cons, List.mem_nil_iff, or_false] at hy
    rcases hy with rfl | rfl | rfl | rfl | rfl | rfl | rfl | rfl | rfl
    · exact ⟨tie_pin, by kernel_rfl⟩
    · cases _e
    · cases _e
    · cases _e
    · cases _e
    · cases _e
    · cases _e
    · cases _e
    · cases _e) tie_fits
theorem clusterSchema_wf : Rows.clusterSchemaRow.wfByText (OpenSpec.ofChange Rows.clusterSchemaSpec) = true := by kernel_rfl
theorem clusterSchema_main : Tryz.pinned.checked.prog.mainIs = some (true, (true, "183a4b0e0c60fea778db278436422423009602d5d61ea68ce79f74a1b6fa4fed").2.toList) := by kernel_rfl
theorem clusterSchema_looks : true = Tryz.pinned.checked.prog.looks [] := by kernel_rfl
theorem clusterSchema_named : Tryz.pinned.checked.prog.funcNamed "clerestory/clerestorylaw25.ClusterSchema" = some 3 := by kernel_rfl
theorem clusterSchema_goes : false = Rows.clusterSchemaRow.goesBy Tryz.pinned.checked.prog := by
  show false = (((Tryz.pinned.checked.prog.funcNamed "clerestory/clerestorylaw25.ClusterSchema").any Tryz.pinned.checked.prog.goes) || false)
  rw [clusterSchema_named, Option.any_some, Bool.or_false]
  exact (Go.AE.noGoes 3).symm
theorem clusterSchema_stand : ([3].all fun u => !Tryz.pinned.checked.prog.wantsStandIn u) = true := by kernel_rfl
/-- the tied card -/
theorem clusterSchema_card : Rows.ClusterSchemaCardSaid :=
  Claim7.holds_tied_plain_at .later [] [.pinned, .data, .data, .listed, .data, .data, .data, .sentinel, .sentinel] true (true, "183a4b0e0c60fea778db278436422423009602d5d61ea68ce79f74a1b6fa4fed") true clusterSchema_holds (fun _ h => by cases h) clusterSchema_wf (fun _ h => by cases h) clusterSchema_row_tie rfl ⟨rfl, rfl⟩ clusterSchema_main rfl
    (fun f fn hf hfn => by
      obtain rfl : f = 3 := Option.some.inj (clusterSchema_named.symm.trans hf) |>.symm
      obtain rfl : fn = Tryz.f3 := (Option.some.inj (Tryz.func3.symm.trans hfn)).symm
      exact ⟨clusterSchema_looks, fun j t ht => by
        rw [Tryz.params3] at ht
        have hm : t ∈ [3] := by simpa using Array.mem_of_getElem? ht
        exact (show Tryz.pinned.checked.prog.wantsStandIn t = false by simpa using List.all_eq_true.1 clusterSchema_stand t hm)⟩)
    clusterSchema_goes
#print axioms clusterSchema_card
end Go.Proofs.YtgnebdiembekpaaGreatDoor
