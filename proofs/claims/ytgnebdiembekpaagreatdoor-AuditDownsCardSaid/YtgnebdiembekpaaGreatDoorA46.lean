import Derived.Test.YtgnebdiembekpaaGreatDoorRows
import Derived.ProofKit
import Derived.OpenShut
import Derived.LaidMore
import Derived.Lay
import Derived.SevenTiedAt
import Derived.Stop.Joined
import Derived.Test.YtgnebdiembekpaaGreatDoorA34
import Derived.Test.YtgnebdiembekpaaGreatDoorA35
import Derived.Test.YtgnebdiembekpaaGreatDoorA36
import Derived.Test.YtgnebdiembekpaaGreatDoorA37
import Derived.Test.YtgnebdiembekpaaGreatDoorA38
import Derived.Test.YtgnebdiembekpaaGreatDoorA27
import Derived.Test.YtgnebdiembekpaaGreatDoorA28
/- Part of the proof: the abstract evaluator, its soundness, its runs: AeWa4, AeWa5, AeWa6, AeWa -/
set_option linter.unusedSectionVars false
set_option linter.unusedSimpArgs false
set_option linter.unusedVariables false
set_option linter.unnecessarySimpa false
namespace Go.Proofs.YtgnebdiembekpaaGreatDoor
open Go.ChangeShapes Go.WideShapes Go.ChangeAt Go.RowKit
set_option maxRecDepth 100000
theorem auditDowns_okw (os : Os) : Input.okWideB Tryz.prog ((World.laidAll Tryz.prog os Rows.auditDownsRow.laid).forCall (fun _ _ => 0) ⟨#[], #[.int .i64 0, .int .i64 0, .bool false], []⟩) 4 ⟨#[], #[.int .i64 0, .int .i64 0, .bool false], []⟩ = true := by kernel_rfl
end Go.Proofs.YtgnebdiembekpaaGreatDoor
namespace Go.Proofs.YtgnebdiembekpaaGreatDoor
open Go.ChangeShapes Go.WideShapes Go.ChangeAt Go.RowKit
set_option maxRecDepth 100000
theorem auditDowns_preB (os : Os) {H : Type} (enc : TypeId × Value → H) : Rows.auditDownsSpec.preB enc Tryz.prog Tryz.f4 Rows.auditDownsRow.domain false ((World.laidAll Tryz.prog os Rows.auditDownsRow.laid).forCall (fun _ _ => 0) ⟨#[], #[.int .i64 0, .int .i64 0, .bool false], []⟩).memory #[.int .i64 0, .int .i64 0, .bool false] 8 = true := by kernel_rfl
end Go.Proofs.YtgnebdiembekpaaGreatDoor
namespace Go.Proofs.YtgnebdiembekpaaGreatDoor
open Go.ChangeShapes Go.WideShapes Go.ChangeAt Go.RowKit
set_option maxRecDepth 100000
theorem auditDowns_sizedB (os : Os) {H : Type} (enc : TypeId × Value → H) : Rows.auditDownsSpec.sizedB enc Tryz.prog Tryz.f4 false ((World.laidAll Tryz.prog os Rows.auditDownsRow.laid).forCall (fun _ _ => 0) ⟨#[], #[.int .i64 0, .int .i64 0, .bool false], []⟩).memory #[.int .i64 0, .int .i64 0, .bool false] 8 = true := by kernel_rfl
end Go.Proofs.YtgnebdiembekpaaGreatDoor
namespace Go.Proofs.YtgnebdiembekpaaGreatDoor
open Go.ChangeShapes Go.WideShapes Go.ChangeAt Go.RowKit
set_option maxRecDepth 100000
theorem auditDowns_space {W : World} (h : laidMetH Tryz.prog Rows.auditDownsRow.laid W) : Go.AE.SpaceIn W := by
  have h' := h.filter (fun x => x.1 == "strings.asciiSpace")
  rw [show (Rows.auditDownsRow.laid.filter fun x => x.1 == "strings.asciiSpace") = [("strings.asciiSpace", Go.AE.spaceD)] by kernel_rfl] at h'
  exact Go.AE.space_of_laid h'
theorem auditDowns_own : ownKnob Tryz.prog.godebug = none := by kernel_rfl
theorem auditDowns_keptBut {W w' : World} (h : Go.AE.KeptAll W w') (may : MemPlace → Prop) : W.keptBut w' may := by
  refine ⟨h.os, h.output, fun i hi => ?_⟩
  rw [h.old i hi]
  cases W.heap[i]? with
  | none => rfl
  | some o => cases o with
    | cells c t fr => exact ⟨rfl, rfl, rfl, fun _ _ => rfl⟩
    | map es clock => exact .inr ⟨rfl, rfl⟩
    | _ => rfl
theorem auditDowns_lifted (os : Os) (started : os.Started) (H : Type) (enc : TypeId × Value → H) :
    ReturnsInHanded {} Tryz.checked os 4 .any (fun w args => (Rows.auditDownsSpec.pre enc Tryz.prog Tryz.f4 Rows.auditDownsRow.domain false w args ∧ laidMetH Tryz.prog Rows.auditDownsRow.laid w) ∧ sizedMet enc Tryz.prog Tryz.f4 (OpenSpec.ofChange Rows.auditDownsSpec) false w args)
      (Rows.auditDownsSpec.post enc Tryz.prog Tryz.f4 false true false false) := by
  refine returnsInHanded_of_change_and (C := Tryz.checked) (X := fun w _ => laidMetH Tryz.prog Rows.auditDownsRow.laid w) (fun _ _ _ hh h => h.of_heap hh) auditDowns_own started (by kernel_rfl) Tryz.func4
    (ChangeSpec.witness_shaped (enc := enc) (C := Tryz.checked) (os := os) (X := fun w _ => laidMetH Tryz.prog Rows.auditDownsRow.laid w) false (World.laidAll Tryz.prog os Rows.auditDownsRow.laid) #[.int .i64 0, .int .i64 0, .bool false] 8 (World.laidAll_os _ _ _)
      (World.shaped_of_ZipB (auditDowns_zip os) (auditDowns_rest os)) (auditDowns_okw os) (auditDowns_preB os enc) (auditDowns_sizedB os enc)
      (by rw [MakeChecks.laidMetH_plain _ _ _ (by kernel_rfl)]; exact laidMet_laidAll _ (auditDowns_layFits os) (auditDowns_layIfaces os))) ?_
  intro W base args ds gs before hval0 hW _ _ hL _
  have hval : ∀ (j : Nat) t v, Tryz.f4.params[j]? = some t → args[j]? = some v → Value.okWide Tryz.prog W .any base t v := hval0
  have hW' := hW
  obtain ⟨p, q, hA0, hV, rfl, _, _⟩ := hW
  have hA : DataW.TrodAll enc Tryz.prog W 0 (fun _ => true) true Tryz.f4.params.toList args.toList ds p := hA0
  rw [Tryz.params4] at hA hval
  obtain ⟨v0, v1, v2, d0, d1, d2, p0, p1, p2, rfl, rfl, rfl, h0, h1, h2⟩ := trodAll_three hA
  obtain ⟨rfl, rfl⟩ := trodVars_none hV
  obtain ⟨a, rfl, rfl, rfl, wa⟩ := open_int Tryz.underlying3 (hval 0 3 v0 rfl rfl) h0
  obtain ⟨b, rfl, rfl, rfl, wb⟩ := open_int Tryz.underlying3 (hval 1 3 v1 rfl rfl) h1
  obtain ⟨c, rfl, rfl, rfl⟩ := open_bool Tryz.underlying4 (hval 2 4 v2 rfl rfl) h2
  simp only [List.append_nil] at hW'
  refine (Go.AE.auditDowns_true a b c W (auditDowns_space hL)).mono fun e W' ⟨he, hk⟩ => ?_
  subst he
  refine ⟨_, rfl, _, _, _, [], [], [], hW', ?_, ?_, ?_, auditDowns_keptBut hk _, fun h => by cases h⟩
  · exact trodAll_mk1 (shut_bool Tryz.underlying4 true)
  · exact trodAll_cons_mk (shut_int Tryz.underlying3 wa) (trodAll_cons_mk (shut_int Tryz.underlying3 wb) (trodAll_cons_mk (shut_bool Tryz.underlying4 _) trodAll_mk0))
  · rfl
theorem auditDowns_fnamed : Tryz.pinned.checked.prog.funcNamed Rows.auditDownsRow.func = some 4 := by kernel_rfl
theorem auditDowns_closed : joinedFacts Tryz.pinned.checked.prog 4 Tryz.f4 Rows.auditDownsSpec Rows.auditDownsRow = true := by
  unfold joinedFacts
  exact (Bool.and_eq_true_iff.2 ⟨(Bool.and_eq_true_iff.2 ⟨(Bool.and_eq_true_iff.2 ⟨(Bool.and_eq_true_iff.2 ⟨(Bool.and_eq_true_iff.2 ⟨(Bool.and_eq_true_iff.2 ⟨(Bool.and_eq_true_iff.2 ⟨(Bool.and_eq_true_iff.2 ⟨(Bool.and_eq_true_iff.2 ⟨(Bool.and_eq_true_iff.2 ⟨(Bool.and_eq_true_iff.2 ⟨(Bool.and_eq_true_iff.2 ⟨(Bool.and_eq_true_iff.2 ⟨(Bool.and_eq_true_iff.2 ⟨(Bool.and_eq_true_iff.2 ⟨(Bool.and_eq_true_iff.2 ⟨(Bool.and_eq_true_iff.2 ⟨(Bool.and_eq_true_iff.2 ⟨(Bool.and_eq_true_iff.2 ⟨(Bool.and_eq_true_iff.2 ⟨(Bool.and_eq_true_iff.2 ⟨(Bool.and_eq_true_iff.2 ⟨(Bool.and_eq_true_iff.2 ⟨(Bool.and_eq_true_iff.2 ⟨(Bool.and_eq_true_iff.2 ⟨(Bool.and_eq_true_iff.2 ⟨(Bool.and_eq_true_iff.2 ⟨(Bool.and_eq_true_iff.2 ⟨(Bool.and_eq_true_iff.2 ⟨(Bool.and_eq_true_iff.2 ⟨(Bool.and_eq_true_iff.2 ⟨auditDowns_j0, auditDowns_j1⟩), auditDowns_j2⟩), auditDowns_j3⟩), auditDowns_j4⟩), auditDowns_j5⟩), auditDowns_j6⟩), auditDowns_j7⟩), auditDowns_j8⟩), auditDowns_j9⟩), auditDowns_j10⟩), auditDowns_j11⟩), auditDowns_j12⟩), auditDowns_j13⟩), auditDowns_j14⟩), auditDowns_j15⟩), auditDowns_j16⟩), auditDowns_j17⟩), auditDowns_j18⟩), auditDowns_j19⟩), auditDowns_j20⟩), auditDowns_j21⟩), auditDowns_j22⟩), auditDowns_j23⟩), auditDowns_j24⟩), auditDowns_j25⟩), auditDowns_j26⟩), auditDowns_j27⟩), auditDowns_j28⟩), auditDowns_j29⟩), auditDowns_j30⟩), auditDowns_j31⟩)
theorem auditDowns_inst : Tryz.f4.isInstance Tryz.pinned.checked.prog Rows.auditDownsRow.origin Rows.auditDownsRow.targs := of_decide_eq_true (by kernel_rfl)
theorem auditDowns_wrap : Tryz.f4.isWrapper Tryz.pinned.checked.prog Rows.auditDownsRow.wrapper Rows.auditDownsRow.mainSum := by
  unfold Func.isWrapper
  first
    | (rw [if_pos (by decide +kernel)]; kernel_rfl)
    | (rw [if_neg (by decide +kernel)]; exact ⟨rfl, rfl⟩)
theorem auditDowns_holds : Rows.AuditDownsSaid :=
  OpenClaim.holds_of_wide 4 Tryz.f4 rfl rfl rfl rfl rfl rfl rfl ⟨rfl, rfl, rfl, rfl, rfl⟩ rfl rfl rfl rfl rfl auditDowns_fnamed Tryz.func4 auditDowns_closed auditDowns_inst auditDowns_wrap
    (fun os started H enc _ => auditDowns_lifted os started H enc)
end Go.Proofs.YtgnebdiembekpaaGreatDoor
