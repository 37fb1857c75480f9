/-
  DERIVED. GIVEN WITH THE SEED: THE CARDS: each row of YtkjpdeakincalaaGreatDoorRows.lean that lists a variable, with what it lists TIED to the program's text (the seventh form; the later family's looks); each row that meets fmt, with fmt's text TOLD by the authors' own Lean function (tested against real Go, not proved from fmt's source: count such statements apart). THE CARD IS WHAT COUNTS. Prove the row's statement (the work); the ties are given (YtkjpdeakincalaaGreatDoorTie.lean); close each card by the builder's one call (the guide's Derived/Test/ToyasCard.lean, 'card_holds'). Laid BY PROGRAM, IN A SANDBOX (cutbox-door.mjs). By AI agents, Wed Nov 11 2026. No macro, syntax, notation, axiom, sorry.
-/
import Derived.Test.YtkjpdeakincalaaGreatDoorRows
import GoSem.ClaimSeven
namespace Go.Proofs.YtkjpdeakincalaaGreatDoor
namespace Rows

/-- THE TIED CARD OF 'commonslaw25.AuditTrue'. -/
def auditTrueCard : Claim7 := { stood := { row := auditTrueRow, standIns := [], harness := (true, "04aad2b2c5ef5a680d23ba54c8e5c7f4df46150855ae571b7deea5af0a18b426"), looks := false }, kinds := [], alts := [], laidByText := true, laidKinds := [.data, .pinned], laidTests := true, laidLooks := .later }
def AuditTrueCardSaid : Prop := Claim7.holds Tryz.pinned (.plain (OpenSpec.ofChange auditTrueSpec)) auditTrueCard

/-- THE TIED CARD OF 'commonslaw25.AuditMoments'. -/
def auditMomentsCard : Claim7 := { stood := { row := auditMomentsRow, standIns := [], harness := (true, "04aad2b2c5ef5a680d23ba54c8e5c7f4df46150855ae571b7deea5af0a18b426"), looks := false }, kinds := [], alts := [], laidByText := true, laidKinds := [.data, .pinned], laidTests := true, laidLooks := .later }
def AuditMomentsCardSaid : Prop := Claim7.holds Tryz.pinned (.plain (OpenSpec.ofChange auditMomentsSpec)) auditMomentsCard

/-- THE SECOND FORM's CARD OF 'commonslaw25.AuditTrue'. -/
def auditTrueUptoCard : Claim7 := { stood := { row := auditTrueUptoRow, standIns := [], harness := (true, "04aad2b2c5ef5a680d23ba54c8e5c7f4df46150855ae571b7deea5af0a18b426"), looks := false }, kinds := [], alts := [], laidByText := true, laidKinds := [.data, .pinned], laidTests := true, laidLooks := .later }
def AuditTrueUptoCardSaid : Prop := Claim7.holds Tryz.pinned (.plain (OpenSpec.upto auditTrueSpec)) auditTrueUptoCard

/-- THE SECOND FORM's CARD OF 'commonslaw25.AuditMoments'. -/
def auditMomentsUptoCard : Claim7 := { stood := { row := auditMomentsUptoRow, standIns := [], harness := (true, "04aad2b2c5ef5a680d23ba54c8e5c7f4df46150855ae571b7deea5af0a18b426"), looks := false }, kinds := [], alts := [], laidByText := true, laidKinds := [.data, .pinned], laidTests := true, laidLooks := .later }
def AuditMomentsUptoCardSaid : Prop := Claim7.holds Tryz.pinned (.plain (OpenSpec.upto auditMomentsSpec)) auditMomentsUptoCard
end Rows
end Go.Proofs.YtkjpdeakincalaaGreatDoor
