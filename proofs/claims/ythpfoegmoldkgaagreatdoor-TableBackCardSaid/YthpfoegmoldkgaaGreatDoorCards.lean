/-
  DERIVED. GIVEN WITH THE SEED: THE CARDS: each row of YthpfoegmoldkgaaGreatDoorRows.lean that lists a variable, with what it lists TIED to the program's text (the seventh form; the later family's looks); each row that meets fmt, with fmt's text TOLD by the authors' own Lean function (tested against real Go, not proved from fmt's source: count such statements apart). THE CARD IS WHAT COUNTS. Prove the row's statement (the work); the ties are given (YthpfoegmoldkgaaGreatDoorTie.lean); close each card by the builder's one call (the guide's Derived/Test/ToyasCard.lean, 'card_holds'). Laid BY PROGRAM, IN A SANDBOX (cutbox-door.mjs). By AI agents, Wed Nov 11 2026. No macro, syntax, notation, axiom, sorry.
-/
import Derived.Test.YthpfoegmoldkgaaGreatDoorRows
import GoSem.ClaimSeven
namespace Go.Proofs.YthpfoegmoldkgaaGreatDoor
namespace Rows

/-- THE TIED CARD OF 'pelotonlaw07.TableBack'. -/
def tableBackCard : Claim7 := { stood := { row := tableBackRow, standIns := [], harness := (true, "6863b770b30111e347289e09c995e8fe79fe194b2e9ea7b9695a758885a0cb7a"), looks := true }, kinds := [], alts := [], laidByText := true, laidKinds := [.data, .data, .data, .data, .sentinel, .sentinel, .pinned], laidTests := true, laidLooks := .later }
def TableBackCardSaid : Prop := Claim7.holds Tryz.pinned (.plain (OpenSpec.ofChange tableBackSpec)) tableBackCard

/-- THE SECOND FORM's CARD OF 'pelotonlaw07.TableBack'. -/
def tableBackUptoCard : Claim7 := { stood := { row := tableBackUptoRow, standIns := [], harness := (true, "6863b770b30111e347289e09c995e8fe79fe194b2e9ea7b9695a758885a0cb7a"), looks := true }, kinds := [], alts := [], laidByText := true, laidKinds := [.data, .data, .data, .data, .sentinel, .sentinel, .pinned], laidTests := true, laidLooks := .later }
def TableBackUptoCardSaid : Prop := Claim7.holds Tryz.pinned (.plain (OpenSpec.upto tableBackSpec)) tableBackUptoCard
end Rows
end Go.Proofs.YthpfoegmoldkgaaGreatDoor
