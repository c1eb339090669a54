/-
  DERIVED. GIVEN WITH THE SEED: THE CARDS: each row of YtggdbceommmllaaGreatDoorRows.lean that lists a variable, with what it lists TIED to the program's text (the seventh form; the later family's looks); each row that meets fmt, with fmt's text TOLD by the authors' own Lean function (tested against real Go, not proved from fmt's source: count such statements apart). THE CARD IS WHAT COUNTS. Prove the row's statement (the work); the ties are given (YtggdbceommmllaaGreatDoorTie.lean); close each card by the builder's one call (the guide's Derived/Test/ToyasCard.lean, 'card_holds'). Laid BY PROGRAM, IN A SANDBOX (cutbox-door.mjs). By AI agents, Wed Nov 11 2026. No macro, syntax, notation, axiom, sorry.
-/
import Derived.Test.YtggdbceommmllaaGreatDoorRows
import GoSem.ClaimSeven
namespace Go.Proofs.YtggdbceommmllaaGreatDoor
namespace Rows

/-- THE TIED CARD OF 'pelotonlaw03.AsmPrints'. -/
def asmPrintsCard : Claim7 := { stood := { row := asmPrintsRow, standIns := [], harness := (true, "9e545ae9f4d031fdd8c894d92edf7043c6ee8124e34c3f6d73c8c341993468b1"), looks := true }, kinds := [], alts := [], laidByText := true, laidKinds := [.data, .data, .data, .data, .sentinel, .sentinel, .sentinel, .pinned], laidTests := true, laidLooks := .later }
def AsmPrintsCardSaid : Prop := Claim7.holds Tryz.pinned (.plain (OpenSpec.ofChange asmPrintsSpec)) asmPrintsCard

/-- THE SECOND FORM's CARD OF 'pelotonlaw03.AsmPrints'. -/
def asmPrintsUptoCard : Claim7 := { stood := { row := asmPrintsUptoRow, standIns := [], harness := (true, "9e545ae9f4d031fdd8c894d92edf7043c6ee8124e34c3f6d73c8c341993468b1"), looks := true }, kinds := [], alts := [], laidByText := true, laidKinds := [.data, .data, .data, .data, .sentinel, .sentinel, .sentinel, .pinned], laidTests := true, laidLooks := .later }
def AsmPrintsUptoCardSaid : Prop := Claim7.holds Tryz.pinned (.plain (OpenSpec.upto asmPrintsSpec)) asmPrintsUptoCard
end Rows
end Go.Proofs.YtggdbceommmllaaGreatDoor
