/-
  DERIVED. GIVEN WITH THE SEED: THE CARDS: each row of YtlpkfklbdofmeaaDoorRows.lean that lists a variable, with what it lists TIED to the program's text (the seventh form; the later family's looks); each row that meets fmt, with fmt's text TOLD by the authors' own Lean function (tested against real Go, not proved from fmt's source: count such statements apart). THE CARD IS WHAT COUNTS. Prove the row's statement (the work); the ties are given (YtlpkfklbdofmeaaDoorTie.lean); close each card by the builder's one call (the guide's Derived/Test/ToyasCard.lean, 'card_holds'). Laid BY PROGRAM, IN A SANDBOX (cutbox-door.mjs). By AI agents, Wed Nov 11 2026. No macro, syntax, notation, axiom, sorry.
-/
import Derived.Test.YtlpkfklbdofmeaaDoorRows
import GoSem.ClaimSeven
namespace Go.Proofs.YtlpkfklbdofmeaaDoor
namespace Rows

/-- THE TIED CARD OF 'pelotonlaw07.TableKids'. -/
def tableKidsCard : Claim7 := { stood := { row := tableKidsRow, standIns := [], harness := (true, "219f580dfb085801136aab287d4a8fa486f8573dae8ec42b2ebaa9a2a224863e"), looks := false }, kinds := [], alts := [], laidByText := true, laidKinds := [.data, .data, .data, .data, .pinned], laidTests := true, laidLooks := .later }
def TableKidsCardSaid : Prop := Claim7.holds Tryd.pinned (.plain (OpenSpec.ofChange tableKidsSpec)) tableKidsCard

/-- THE TIED CARD OF 'pelotonlaw07.TablePrints'. -/
def tablePrintsCard : Claim7 := { stood := { row := tablePrintsRow, standIns := [], harness := (true, "219f580dfb085801136aab287d4a8fa486f8573dae8ec42b2ebaa9a2a224863e"), looks := false }, kinds := [], alts := [], laidByText := true, laidKinds := [.data, .data, .data, .data, .pinned], laidTests := true, laidLooks := .later }
def TablePrintsCardSaid : Prop := Claim7.holds Tryd.pinned (.plain (OpenSpec.ofChange tablePrintsSpec)) tablePrintsCard

/-- THE TIED CARD OF 'pelotonlaw07.TableGrows'. -/
def tableGrowsCard : Claim7 := { stood := { row := tableGrowsRow, standIns := [], harness := (true, "219f580dfb085801136aab287d4a8fa486f8573dae8ec42b2ebaa9a2a224863e"), looks := false }, kinds := [], alts := [], laidByText := true, laidKinds := [.data, .data, .data, .data, .pinned], laidTests := true, laidLooks := .later }
def TableGrowsCardSaid : Prop := Claim7.holds Tryd.pinned (.plain (OpenSpec.ofChange tableGrowsSpec)) tableGrowsCard

/-- THE TIED CARD OF 'pelotonlaw07.TableOrder'. -/
def tableOrderCard : Claim7 := { stood := { row := tableOrderRow, standIns := [], harness := (true, "219f580dfb085801136aab287d4a8fa486f8573dae8ec42b2ebaa9a2a224863e"), looks := false }, kinds := [], alts := [], laidByText := true, laidKinds := [.data, .data, .data, .data, .pinned], laidTests := true, laidLooks := .later }
def TableOrderCardSaid : Prop := Claim7.holds Tryd.pinned (.plain (OpenSpec.ofChange tableOrderSpec)) tableOrderCard

/-- THE TIED CARD OF 'pelotonlaw07.TableUnder'. -/
def tableUnderCard : Claim7 := { stood := { row := tableUnderRow, standIns := [], harness := (true, "219f580dfb085801136aab287d4a8fa486f8573dae8ec42b2ebaa9a2a224863e"), looks := false }, kinds := [], alts := [], laidByText := true, laidKinds := [.data, .data, .data, .data, .pinned], laidTests := true, laidLooks := .later }
def TableUnderCardSaid : Prop := Claim7.holds Tryd.pinned (.plain (OpenSpec.ofChange tableUnderSpec)) tableUnderCard

/-- THE TIED CARD OF 'pelotonlaw07.TableParts'. -/
def tablePartsCard : Claim7 := { stood := { row := tablePartsRow, standIns := [], harness := (true, "219f580dfb085801136aab287d4a8fa486f8573dae8ec42b2ebaa9a2a224863e"), looks := false }, kinds := [], alts := [], laidByText := true, laidKinds := [.data, .data, .data, .data, .pinned], laidTests := true, laidLooks := .later }
def TablePartsCardSaid : Prop := Claim7.holds Tryd.pinned (.plain (OpenSpec.ofChange tablePartsSpec)) tablePartsCard

/-- THE SECOND FORM's CARD OF 'pelotonlaw07.TableKids'. -/
def tableKidsUptoCard : Claim7 := { stood := { row := tableKidsUptoRow, standIns := [], harness := (true, "219f580dfb085801136aab287d4a8fa486f8573dae8ec42b2ebaa9a2a224863e"), looks := false }, kinds := [], alts := [], laidByText := true, laidKinds := [.data, .data, .data, .data, .pinned], laidTests := true, laidLooks := .later }
def TableKidsUptoCardSaid : Prop := Claim7.holds Tryd.pinned (.plain (OpenSpec.upto tableKidsSpec)) tableKidsUptoCard

/-- THE SECOND FORM's CARD OF 'pelotonlaw07.TablePrints'. -/
def tablePrintsUptoCard : Claim7 := { stood := { row := tablePrintsUptoRow, standIns := [], harness := (true, "219f580dfb085801136aab287d4a8fa486f8573dae8ec42b2ebaa9a2a224863e"), looks := false }, kinds := [], alts := [], laidByText := true, laidKinds := [.data, .data, .data, .data, .pinned], laidTests := true, laidLooks := .later }
def TablePrintsUptoCardSaid : Prop := Claim7.holds Tryd.pinned (.plain (OpenSpec.upto tablePrintsSpec)) tablePrintsUptoCard

/-- THE SECOND FORM's CARD OF 'pelotonlaw07.TableGrows'. -/
def tableGrowsUptoCard : Claim7 := { stood := { row := tableGrowsUptoRow, standIns := [], harness := (true, "219f580dfb085801136aab287d4a8fa486f8573dae8ec42b2ebaa9a2a224863e"), looks := false }, kinds := [], alts := [], laidByText := true, laidKinds := [.data, .data, .data, .data, .pinned], laidTests := true, laidLooks := .later }
def TableGrowsUptoCardSaid : Prop := Claim7.holds Tryd.pinned (.plain (OpenSpec.upto tableGrowsSpec)) tableGrowsUptoCard

/-- THE SECOND FORM's CARD OF 'pelotonlaw07.TableOrder'. -/
def tableOrderUptoCard : Claim7 := { stood := { row := tableOrderUptoRow, standIns := [], harness := (true, "219f580dfb085801136aab287d4a8fa486f8573dae8ec42b2ebaa9a2a224863e"), looks := false }, kinds := [], alts := [], laidByText := true, laidKinds := [.data, .data, .data, .data, .pinned], laidTests := true, laidLooks := .later }
def TableOrderUptoCardSaid : Prop := Claim7.holds Tryd.pinned (.plain (OpenSpec.upto tableOrderSpec)) tableOrderUptoCard

/-- THE SECOND FORM's CARD OF 'pelotonlaw07.TableUnder'. -/
def tableUnderUptoCard : Claim7 := { stood := { row := tableUnderUptoRow, standIns := [], harness := (true, "219f580dfb085801136aab287d4a8fa486f8573dae8ec42b2ebaa9a2a224863e"), looks := false }, kinds := [], alts := [], laidByText := true, laidKinds := [.data, .data, .data, .data, .pinned], laidTests := true, laidLooks := .later }
def TableUnderUptoCardSaid : Prop := Claim7.holds Tryd.pinned (.plain (OpenSpec.upto tableUnderSpec)) tableUnderUptoCard

/-- THE SECOND FORM's CARD OF 'pelotonlaw07.TableParts'. -/
def tablePartsUptoCard : Claim7 := { stood := { row := tablePartsUptoRow, standIns := [], harness := (true, "219f580dfb085801136aab287d4a8fa486f8573dae8ec42b2ebaa9a2a224863e"), looks := false }, kinds := [], alts := [], laidByText := true, laidKinds := [.data, .data, .data, .data, .pinned], laidTests := true, laidLooks := .later }
def TablePartsUptoCardSaid : Prop := Claim7.holds Tryd.pinned (.plain (OpenSpec.upto tablePartsSpec)) tablePartsUptoCard
end Rows
end Go.Proofs.YtlpkfklbdofmeaaDoor
