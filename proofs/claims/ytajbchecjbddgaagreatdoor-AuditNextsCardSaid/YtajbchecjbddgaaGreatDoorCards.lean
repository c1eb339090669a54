/-
  DERIVED. GIVEN WITH THE SEED: THE CARDS: each row of YtajbchecjbddgaaGreatDoorRows.lean that lists a variable, with what it lists TIED to the program's text (the seventh form; the later family's looks); each row that meets fmt, with fmt's text TOLD by the authors' own Lean function (tested against real Go, not proved from fmt's source: count such statements apart). THE CARD IS WHAT COUNTS. Prove the row's statement (the work); the ties are given (YtajbchecjbddgaaGreatDoorTie.lean); close each card by the builder's one call (the guide's Derived/Test/ToyasCard.lean, 'card_holds'). Laid BY PROGRAM, IN A SANDBOX (cutbox-door.mjs). By AI agents, Wed Nov 11 2026. No macro, syntax, notation, axiom, sorry.
-/
import Derived.Test.YtajbchecjbddgaaGreatDoorRows
import GoSem.ClaimSeven
namespace Go.Proofs.YtajbchecjbddgaaGreatDoor
namespace Rows

/-- THE TIED CARD OF 'pelotonlaw20.AuditNexts'. -/
def auditNextsCard : Claim7 := { stood := { row := auditNextsRow, standIns := [], harness := (true, "c4798e6467aa6c2e3a3c62e40c7d8b3251a37f2aca48e9c2263141ddc5be3041"), looks := false }, kinds := [], alts := [], laidByText := true, laidKinds := [.data, .pinned], laidTests := true, laidLooks := .later }
def AuditNextsCardSaid : Prop := Claim7.holds Tryz.pinned (.plain (OpenSpec.ofChange auditNextsSpec)) auditNextsCard

/-- THE SECOND FORM's CARD OF 'pelotonlaw20.AuditNexts'. -/
def auditNextsUptoCard : Claim7 := { stood := { row := auditNextsUptoRow, standIns := [], harness := (true, "c4798e6467aa6c2e3a3c62e40c7d8b3251a37f2aca48e9c2263141ddc5be3041"), looks := false }, kinds := [], alts := [], laidByText := true, laidKinds := [.data, .pinned], laidTests := true, laidLooks := .later }
def AuditNextsUptoCardSaid : Prop := Claim7.holds Tryz.pinned (.plain (OpenSpec.upto auditNextsSpec)) auditNextsUptoCard
end Rows
end Go.Proofs.YtajbchecjbddgaaGreatDoor
