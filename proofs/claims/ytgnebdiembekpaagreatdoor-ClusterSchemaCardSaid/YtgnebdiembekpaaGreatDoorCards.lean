/-
  DERIVED. GIVEN WITH THE SEED: THE CARDS: each row of YtgnebdiembekpaaGreatDoorRows.lean that lists a variable, with what it lists TIED to the program's text (the seventh form; the later family's looks); each row that meets fmt, with fmt's text TOLD by the authors' own Lean function (tested against real Go, not proved from fmt's source: count such statements apart). THE CARD IS WHAT COUNTS. Prove the row's statement (the work); the ties are given (YtgnebdiembekpaaGreatDoorTie.lean); close each card by the builder's one call (the guide's Derived/Test/ToyasCard.lean, 'card_holds'). Laid BY PROGRAM, IN A SANDBOX (cutbox-door.mjs). By AI agents, Wed Nov 11 2026. No macro, syntax, notation, axiom, sorry.
-/
import Derived.Test.YtgnebdiembekpaaGreatDoorRows
import GoSem.ClaimSeven
namespace Go.Proofs.YtgnebdiembekpaaGreatDoor
namespace Rows

/-- THE TIED CARD OF 'clerestorylaw25.ClusterSchema'. -/
def clusterSchemaCard : Claim7 := { stood := { row := clusterSchemaRow, standIns := [], harness := (true, "183a4b0e0c60fea778db278436422423009602d5d61ea68ce79f74a1b6fa4fed"), looks := true }, kinds := [], alts := [], laidByText := true, laidKinds := [.pinned, .data, .data, .listed, .data, .data, .data, .sentinel, .sentinel], laidTests := true, laidLooks := .later }
def ClusterSchemaCardSaid : Prop := Claim7.holds Tryz.pinned (.plain (OpenSpec.ofChange clusterSchemaSpec)) clusterSchemaCard

/-- THE TIED CARD OF 'clerestorylaw26.AuditDowns'. -/
def auditDownsCard : Claim7 := { stood := { row := auditDownsRow, standIns := [], harness := (true, "183a4b0e0c60fea778db278436422423009602d5d61ea68ce79f74a1b6fa4fed"), looks := true }, kinds := [], alts := [], laidByText := true, laidKinds := [.pinned, .data, .data, .listed, .data, .data, .data, .sentinel, .sentinel], laidTests := true, laidLooks := .later }
def AuditDownsCardSaid : Prop := Claim7.holds Tryz.pinned (.plain (OpenSpec.ofChange auditDownsSpec)) auditDownsCard

/-- THE SECOND FORM's CARD OF 'clerestorylaw25.ClusterSchema'. -/
def clusterSchemaUptoCard : Claim7 := { stood := { row := clusterSchemaUptoRow, standIns := [], harness := (true, "183a4b0e0c60fea778db278436422423009602d5d61ea68ce79f74a1b6fa4fed"), looks := true }, kinds := [], alts := [], laidByText := true, laidKinds := [.pinned, .data, .data, .listed, .data, .data, .data, .sentinel, .sentinel], laidTests := true, laidLooks := .later }
def ClusterSchemaUptoCardSaid : Prop := Claim7.holds Tryz.pinned (.plain (OpenSpec.upto clusterSchemaSpec)) clusterSchemaUptoCard

/-- THE SECOND FORM's CARD OF 'clerestorylaw26.AuditDowns'. -/
def auditDownsUptoCard : Claim7 := { stood := { row := auditDownsUptoRow, standIns := [], harness := (true, "183a4b0e0c60fea778db278436422423009602d5d61ea68ce79f74a1b6fa4fed"), looks := true }, kinds := [], alts := [], laidByText := true, laidKinds := [.pinned, .data, .data, .listed, .data, .data, .data, .sentinel, .sentinel], laidTests := true, laidLooks := .later }
def AuditDownsUptoCardSaid : Prop := Claim7.holds Tryz.pinned (.plain (OpenSpec.upto auditDownsSpec)) auditDownsUptoCard
end Rows
end Go.Proofs.YtgnebdiembekpaaGreatDoor
