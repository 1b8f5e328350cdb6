import Derived.Test.YtgnebdiembekpaaGreatDoorRows
import Derived.ProofKit
import Derived.OpenShut
import Derived.LaidMore
import Derived.Lay
import Derived.SevenTiedAt
import Derived.Stop.Joined
import Derived.Test.YtgnebdiembekpaaGreatDoorC8
import Derived.Test.YtgnebdiembekpaaGreatDoorC9
import Derived.Test.YtgnebdiembekpaaGreatDoorC10
import Derived.Test.YtgnebdiembekpaaGreatDoorC11
import Derived.Test.YtgnebdiembekpaaGreatDoorC12
import Derived.Test.YtgnebdiembekpaaGreatDoorC6
import Derived.Test.YtgnebdiembekpaaGreatDoorC7
/- Part of the proof: the abstract evaluator, its soundness, its runs: AeWc4, AeWc5, AeWc6, AeWc -/
set_option linter.unusedSectionVars false
set_option linter.unusedSimpArgs false
set_option linter.unusedVariables false
set_option linter.unnecessarySimpa false
namespace Go.Proofs.YtgnebdiembekpaaGreatDoor
open Go.ChangeShapes Go.WideShapes Go.ChangeAt Go.RowKit
set_option maxRecDepth 100000
theorem clusterSchema_okw (os : Os) : Input.okWideB Tryz.prog ((World.laidAll Tryz.prog os Rows.clusterSchemaRow.laid).forCall (fun _ _ => 0) ⟨#[], #[.int .i64 0, .int .i64 0, .int .i64 0], []⟩) 3 ⟨#[], #[.int .i64 0, .int .i64 0, .int .i64 0], []⟩ = true := by kernel_rfl
end Go.Proofs.YtgnebdiembekpaaGreatDoor
namespace Go.Proofs.YtgnebdiembekpaaGreatDoor
open Go.ChangeShapes Go.WideShapes Go.ChangeAt Go.RowKit
set_option maxRecDepth 100000
theorem clusterSchema_preB (os : Os) {H : Type} (enc : TypeId × Value → H) : Rows.clusterSchemaSpec.preB enc Tryz.prog Tryz.f3 Rows.clusterSchemaRow.domain false ((World.laidAll Tryz.prog os Rows.clusterSchemaRow.laid).forCall (fun _ _ => 0) ⟨#[], #[.int .i64 0, .int .i64 0, .int .i64 0], []⟩).memory #[.int .i64 0, .int .i64 0, .int .i64 0] 8 = true := by kernel_rfl
end Go.Proofs.YtgnebdiembekpaaGreatDoor
namespace Go.Proofs.YtgnebdiembekpaaGreatDoor
open Go.ChangeShapes Go.WideShapes Go.ChangeAt Go.RowKit
set_option maxRecDepth 100000
theorem clusterSchema_sizedB (os : Os) {H : Type} (enc : TypeId × Value → H) : Rows.clusterSchemaSpec.sizedB enc Tryz.prog Tryz.f3 false ((World.laidAll Tryz.prog os Rows.clusterSchemaRow.laid).forCall (fun _ _ => 0) ⟨#[], #[.int .i64 0, .int .i64 0, .int .i64 0], []⟩).memory #[.int .i64 0, .int .i64 0, .int .i64 0] 8 = true := by kernel_rfl
end Go.Proofs.YtgnebdiembekpaaGreatDoor
namespace Go.Proofs.YtgnebdiembekpaaGreatDoor
open Go.ChangeShapes Go.WideShapes Go.ChangeAt Go.RowKit
set_option maxRecDepth 100000
theorem clusterSchema_space {W : World} (h : laidMetH Tryz.prog Rows.clusterSchemaRow.laid W) : Go.AE.SpaceIn W := by
  have h' := h.filter (fun x => x.1 == "strings.asciiSpace")
  rw [show (Rows.clusterSchemaRow.laid.filter fun x => x.1 == "strings.asciiSpace") = [("strings.asciiSpace", Go.AE.spaceD)] by kernel_rfl] at h'
  exact Go.AE.space_of_laid h'
theorem clusterSchema_own : ownKnob Tryz.prog.godebug = none := by kernel_rfl
theorem clusterSchema_keptBut {W w' : World} (h : Go.AE.KeptAll W w') (may : MemPlace → Prop) : W.keptBut w' may := by
  refine ⟨h.os, h.output, fun i hi => ?_⟩
  rw [h.old i hi]
  cases W.heap[i]? with
  | none => rfl
  | some o => cases o with
    | cells c t fr => exact ⟨rfl, rfl, rfl, fun _ _ => rfl⟩
    | map es clock => exact .inr ⟨rfl, rfl⟩
    | _ => rfl
theorem clusterSchema_lifted (os : Os) (started : os.Started) (H : Type) (enc : TypeId × Value → H) :
    ReturnsInHanded {} Tryz.checked os 3 .any (fun w args => (Rows.clusterSchemaSpec.pre enc Tryz.prog Tryz.f3 Rows.clusterSchemaRow.domain false w args ∧ laidMetH Tryz.prog Rows.clusterSchemaRow.laid w) ∧ sizedMet enc Tryz.prog Tryz.f3 (OpenSpec.ofChange Rows.clusterSchemaSpec) false w args)
      (Rows.clusterSchemaSpec.post enc Tryz.prog Tryz.f3 false true false false) := by
  refine returnsInHanded_of_change_and (C := Tryz.checked) (X := fun w _ => laidMetH Tryz.prog Rows.clusterSchemaRow.laid w) (fun _ _ _ hh h => h.of_heap hh) clusterSchema_own started (by kernel_rfl) Tryz.func3
    (ChangeSpec.witness_shaped (enc := enc) (C := Tryz.checked) (os := os) (X := fun w _ => laidMetH Tryz.prog Rows.clusterSchemaRow.laid w) false (World.laidAll Tryz.prog os Rows.clusterSchemaRow.laid) #[.int .i64 0, .int .i64 0, .int .i64 0] 8 (World.laidAll_os _ _ _)
      (World.shaped_of_ZipB (clusterSchema_zip os) (clusterSchema_rest os)) (clusterSchema_okw os) (clusterSchema_preB os enc) (clusterSchema_sizedB os enc)
      (by rw [MakeChecks.laidMetH_plain _ _ _ (by kernel_rfl)]; exact laidMet_laidAll _ (clusterSchema_layFits os) (clusterSchema_layIfaces os))) ?_
  intro W base args ds gs before hval0 hW _ _ hL _
  have hval : ∀ (j : Nat) t v, Tryz.f3.params[j]? = some t → args[j]? = some v → Value.okWide Tryz.prog W .any base t v := hval0
  have hW' := hW
  obtain ⟨p, q, hA0, hV, rfl, _, _⟩ := hW
  have hA : DataW.TrodAll enc Tryz.prog W 0 (fun _ => true) true Tryz.f3.params.toList args.toList ds p := hA0
  rw [Tryz.params3] at hA hval
  obtain ⟨v0, v1, v2, d0, d1, d2, p0, p1, p2, rfl, rfl, rfl, h0, h1, h2⟩ := trodAll_three hA
  obtain ⟨rfl, rfl⟩ := trodVars_none hV
  obtain ⟨a, rfl, rfl, rfl, wa⟩ := open_int Tryz.underlying3 (hval 0 3 v0 rfl rfl) h0
  obtain ⟨b, rfl, rfl, rfl, wb⟩ := open_int Tryz.underlying3 (hval 1 3 v1 rfl rfl) h1
  obtain ⟨c, rfl, rfl, rfl, wc⟩ := open_int Tryz.underlying3 (hval 2 3 v2 rfl rfl) h2
  simp only [List.append_nil] at hW'
  refine (Go.AE.clusterSchema_true a b c W (clusterSchema_space hL)).mono fun e W' ⟨he, hk⟩ => ?_
  subst he
  refine ⟨_, rfl, _, _, _, [], [], [], hW', ?_, ?_, ?_, clusterSchema_keptBut hk _, fun h => by cases h⟩
  · exact trodAll_mk1 (shut_bool Tryz.underlying4 true)
  · exact trodAll_cons_mk (shut_int Tryz.underlying3 wa) (trodAll_cons_mk (shut_int Tryz.underlying3 wb) (trodAll_cons_mk (shut_int Tryz.underlying3 wc) trodAll_mk0))
  · rfl
theorem clusterSchema_fnamed : Tryz.pinned.checked.prog.funcNamed Rows.clusterSchemaRow.func = some 3 := by kernel_rfl
theorem clusterSchema_closed : joinedFacts Tryz.pinned.checked.prog 3 Tryz.f3 Rows.clusterSchemaSpec Rows.clusterSchemaRow = true := by
  unfold joinedFacts
  exact (Bool.and_eq_true_iff.2 ⟨(Bool.and_eq_true_iff.2 ⟨(Bool.and_eq_true_iff.2 ⟨(Bool.and_eq_true_iff.2 ⟨(Bool.and_eq_true_iff.2 ⟨(Bool.and_eq_true_iff.2 ⟨(Bool.and_eq_true_iff.2 ⟨(Bool.and_eq_true_iff.2 ⟨(Bool.and_eq_true_iff.2 ⟨(Bool.and_eq_true_iff.2 ⟨(Bool.and_eq_true_iff.2 ⟨(Bool.and_eq_true_iff.2 ⟨(Bool.and_eq_true_iff.2 ⟨(Bool.and_eq_true_iff.2 ⟨(Bool.and_eq_true_iff.2 ⟨(Bool.and_eq_true_iff.2 ⟨(Bool.and_eq_true_iff.2 ⟨(Bool.and_eq_true_iff.2 ⟨(Bool.and_eq_true_iff.2 ⟨(Bool.and_eq_true_iff.2 ⟨(Bool.and_eq_true_iff.2 ⟨(Bool.and_eq_true_iff.2 ⟨(Bool.and_eq_true_iff.2 ⟨(Bool.and_eq_true_iff.2 ⟨(Bool.and_eq_true_iff.2 ⟨(Bool.and_eq_true_iff.2 ⟨(Bool.and_eq_true_iff.2 ⟨(Bool.and_eq_true_iff.2 ⟨(Bool.and_eq_true_iff.2 ⟨(Bool.and_eq_true_iff.2 ⟨(Bool.and_eq_true_iff.2 ⟨clusterSchema_j0, clusterSchema_j1⟩), clusterSchema_j2⟩), clusterSchema_j3⟩), clusterSchema_j4⟩), clusterSchema_j5⟩), clusterSchema_j6⟩), clusterSchema_j7⟩), clusterSchema_j8⟩), clusterSchema_j9⟩), clusterSchema_j10⟩), clusterSchema_j11⟩), clusterSchema_j12⟩), clusterSchema_j13⟩), clusterSchema_j14⟩), clusterSchema_j15⟩), clusterSchema_j16⟩), clusterSchema_j17⟩), clusterSchema_j18⟩), clusterSchema_j19⟩), clusterSchema_j20⟩), clusterSchema_j21⟩), clusterSchema_j22⟩), clusterSchema_j23⟩), clusterSchema_j24⟩), clusterSchema_j25⟩), clusterSchema_j26⟩), clusterSchema_j27⟩), clusterSchema_j28⟩), clusterSchema_j29⟩), clusterSchema_j30⟩), clusterSchema_j31⟩)
theorem clusterSchema_inst : Tryz.f3.isInstance Tryz.pinned.checked.prog Rows.clusterSchemaRow.origin Rows.clusterSchemaRow.targs := of_decide_eq_true (by kernel_rfl)
theorem clusterSchema_wrap : Tryz.f3.isWrapper Tryz.pinned.checked.prog Rows.clusterSchemaRow.wrapper Rows.clusterSchemaRow.mainSum := by
  unfold Func.isWrapper
  first
    | (rw [if_pos (by decide +kernel)]; kernel_rfl)
    | (rw [if_neg (by decide +kernel)]; exact ⟨rfl, rfl⟩)
theorem clusterSchema_holds : Rows.ClusterSchemaSaid :=
  OpenClaim.holds_of_wide 3 Tryz.f3 rfl rfl rfl rfl rfl rfl rfl ⟨rfl, rfl, rfl, rfl, rfl⟩ rfl rfl rfl rfl rfl clusterSchema_fnamed Tryz.func3 clusterSchema_closed clusterSchema_inst clusterSchema_wrap
    (fun os started H enc _ => clusterSchema_lifted os started H enc)
end Go.Proofs.YtgnebdiembekpaaGreatDoor
