/-
  DERIVED. GIVEN WITH THE SEED: THE CARDS: each row of YtkobmoabnnjejaaDoorRows.lean that lists a variable, with what it lists TIED to the program's text (the seventh form; the later family's looks); each row that meets fmt, with fmt's text TOLD by the authors' own Lean function (tested against real Go, not proved from fmt's source: count such statements apart). THE CARD IS WHAT COUNTS. Prove the row's statement (the work); the ties are given (YtkobmoabnnjejaaDoorTie.lean); close each card by the builder's one call (the guide's Derived/Test/ToyasCard.lean, 'card_holds'). Laid BY PROGRAM, IN A SANDBOX (cutbox-door.mjs). By AI agents, Wed Nov 11 2026. No macro, syntax, notation, axiom, sorry.
-/
import Derived.Test.YtkobmoabnnjejaaDoorRows
import GoSem.ClaimSeven
namespace Go.Proofs.YtkobmoabnnjejaaDoor
namespace Rows

/-- THE TIED CARD OF 'pelotonlaw21.ScriptPrints'. -/
def scriptPrintsCard : Claim7 := { stood := { row := scriptPrintsRow, standIns := [], harness := (true, "34956e2c7fdc7423badfecf15de86d3067e9f576804b3224377f237735b74e57"), looks := true }, kinds := [], alts := [], laidByText := true, laidKinds := [.data, .data, .data, .sentinel, .sentinel], laidTests := true, laidLooks := .later }
def ScriptPrintsCardSaid : Prop := Claim7.holds Tryd.pinned (.plain (OpenSpec.ofChange scriptPrintsSpec)) scriptPrintsCard

/-- THE TIED CARD OF 'pelotonlaw21.ScriptParses'. -/
def scriptParsesCard : Claim7 := { stood := { row := scriptParsesRow, standIns := [], harness := (true, "34956e2c7fdc7423badfecf15de86d3067e9f576804b3224377f237735b74e57"), looks := true }, kinds := [], alts := [], laidByText := true, laidKinds := [.data, .data, .data, .sentinel, .sentinel], laidTests := true, laidLooks := .later }
def ScriptParsesCardSaid : Prop := Claim7.holds Tryd.pinned (.plain (OpenSpec.ofChange scriptParsesSpec)) scriptParsesCard

/-- THE TIED CARD OF 'pelotonlaw21.ScriptBacks'. -/
def scriptBacksCard : Claim7 := { stood := { row := scriptBacksRow, standIns := [], harness := (true, "34956e2c7fdc7423badfecf15de86d3067e9f576804b3224377f237735b74e57"), looks := true }, kinds := [], alts := [], laidByText := true, laidKinds := [.data, .data, .data, .sentinel, .sentinel], laidTests := true, laidLooks := .later }
def ScriptBacksCardSaid : Prop := Claim7.holds Tryd.pinned (.plain (OpenSpec.ofChange scriptBacksSpec)) scriptBacksCard

/-- THE TIED CARD OF 'pelotonlaw21.ScriptWindow'. -/
def scriptWindowCard : Claim7 := { stood := { row := scriptWindowRow, standIns := [], harness := (true, "34956e2c7fdc7423badfecf15de86d3067e9f576804b3224377f237735b74e57"), looks := true }, kinds := [], alts := [], laidByText := true, laidKinds := [.data, .data, .data, .sentinel, .sentinel], laidTests := true, laidLooks := .later }
def ScriptWindowCardSaid : Prop := Claim7.holds Tryd.pinned (.plain (OpenSpec.ofChange scriptWindowSpec)) scriptWindowCard

/-- THE TIED CARD OF 'pelotonlaw21.ScriptLong'. -/
def scriptLongCard : Claim7 := { stood := { row := scriptLongRow, standIns := [], harness := (true, "34956e2c7fdc7423badfecf15de86d3067e9f576804b3224377f237735b74e57"), looks := true }, kinds := [], alts := [], laidByText := true, laidKinds := [.data, .data, .data, .sentinel, .sentinel], laidTests := true, laidLooks := .later }
def ScriptLongCardSaid : Prop := Claim7.holds Tryd.pinned (.plain (OpenSpec.ofChange scriptLongSpec)) scriptLongCard

/-- THE TIED CARD OF 'pelotonlaw21.ScriptPicks'. -/
def scriptPicksCard : Claim7 := { stood := { row := scriptPicksRow, standIns := [], harness := (true, "34956e2c7fdc7423badfecf15de86d3067e9f576804b3224377f237735b74e57"), looks := true }, kinds := [], alts := [], laidByText := true, laidKinds := [.data, .data, .data, .sentinel, .sentinel], laidTests := true, laidLooks := .later }
def ScriptPicksCardSaid : Prop := Claim7.holds Tryd.pinned (.plain (OpenSpec.ofChange scriptPicksSpec)) scriptPicksCard

/-- THE TIED CARD OF 'pelotonlaw21.ScriptTurns'. -/
def scriptTurnsCard : Claim7 := { stood := { row := scriptTurnsRow, standIns := [], harness := (true, "34956e2c7fdc7423badfecf15de86d3067e9f576804b3224377f237735b74e57"), looks := true }, kinds := [], alts := [], laidByText := true, laidKinds := [.data, .data, .data, .sentinel, .sentinel], laidTests := true, laidLooks := .later }
def ScriptTurnsCardSaid : Prop := Claim7.holds Tryd.pinned (.plain (OpenSpec.ofChange scriptTurnsSpec)) scriptTurnsCard

/-- THE SECOND FORM's CARD OF 'pelotonlaw21.ScriptPrints'. -/
def scriptPrintsUptoCard : Claim7 := { stood := { row := scriptPrintsUptoRow, standIns := [], harness := (true, "34956e2c7fdc7423badfecf15de86d3067e9f576804b3224377f237735b74e57"), looks := true }, kinds := [], alts := [], laidByText := true, laidKinds := [.data, .data, .data, .sentinel, .sentinel], laidTests := true, laidLooks := .later }
def ScriptPrintsUptoCardSaid : Prop := Claim7.holds Tryd.pinned (.plain (OpenSpec.upto scriptPrintsSpec)) scriptPrintsUptoCard

/-- THE SECOND FORM's CARD OF 'pelotonlaw21.ScriptParses'. -/
def scriptParsesUptoCard : Claim7 := { stood := { row := scriptParsesUptoRow, standIns := [], harness := (true, "34956e2c7fdc7423badfecf15de86d3067e9f576804b3224377f237735b74e57"), looks := true }, kinds := [], alts := [], laidByText := true, laidKinds := [.data, .data, .data, .sentinel, .sentinel], laidTests := true, laidLooks := .later }
def ScriptParsesUptoCardSaid : Prop := Claim7.holds Tryd.pinned (.plain (OpenSpec.upto scriptParsesSpec)) scriptParsesUptoCard

/-- THE SECOND FORM's CARD OF 'pelotonlaw21.ScriptBacks'. -/
def scriptBacksUptoCard : Claim7 := { stood := { row := scriptBacksUptoRow, standIns := [], harness := (true, "34956e2c7fdc7423badfecf15de86d3067e9f576804b3224377f237735b74e57"), looks := true }, kinds := [], alts := [], laidByText := true, laidKinds := [.data, .data, .data, .sentinel, .sentinel], laidTests := true, laidLooks := .later }
def ScriptBacksUptoCardSaid : Prop := Claim7.holds Tryd.pinned (.plain (OpenSpec.upto scriptBacksSpec)) scriptBacksUptoCard

/-- THE SECOND FORM's CARD OF 'pelotonlaw21.ScriptWindow'. -/
def scriptWindowUptoCard : Claim7 := { stood := { row := scriptWindowUptoRow, standIns := [], harness := (true, "34956e2c7fdc7423badfecf15de86d3067e9f576804b3224377f237735b74e57"), looks := true }, kinds := [], alts := [], laidByText := true, laidKinds := [.data, .data, .data, .sentinel, .sentinel], laidTests := true, laidLooks := .later }
def ScriptWindowUptoCardSaid : Prop := Claim7.holds Tryd.pinned (.plain (OpenSpec.upto scriptWindowSpec)) scriptWindowUptoCard

/-- THE SECOND FORM's CARD OF 'pelotonlaw21.ScriptLong'. -/
def scriptLongUptoCard : Claim7 := { stood := { row := scriptLongUptoRow, standIns := [], harness := (true, "34956e2c7fdc7423badfecf15de86d3067e9f576804b3224377f237735b74e57"), looks := true }, kinds := [], alts := [], laidByText := true, laidKinds := [.data, .data, .data, .sentinel, .sentinel], laidTests := true, laidLooks := .later }
def ScriptLongUptoCardSaid : Prop := Claim7.holds Tryd.pinned (.plain (OpenSpec.upto scriptLongSpec)) scriptLongUptoCard

/-- THE SECOND FORM's CARD OF 'pelotonlaw21.ScriptPicks'. -/
def scriptPicksUptoCard : Claim7 := { stood := { row := scriptPicksUptoRow, standIns := [], harness := (true, "34956e2c7fdc7423badfecf15de86d3067e9f576804b3224377f237735b74e57"), looks := true }, kinds := [], alts := [], laidByText := true, laidKinds := [.data, .data, .data, .sentinel, .sentinel], laidTests := true, laidLooks := .later }
def ScriptPicksUptoCardSaid : Prop := Claim7.holds Tryd.pinned (.plain (OpenSpec.upto scriptPicksSpec)) scriptPicksUptoCard

/-- THE SECOND FORM's CARD OF 'pelotonlaw21.ScriptTurns'. -/
def scriptTurnsUptoCard : Claim7 := { stood := { row := scriptTurnsUptoRow, standIns := [], harness := (true, "34956e2c7fdc7423badfecf15de86d3067e9f576804b3224377f237735b74e57"), looks := true }, kinds := [], alts := [], laidByText := true, laidKinds := [.data, .data, .data, .sentinel, .sentinel], laidTests := true, laidLooks := .later }
def ScriptTurnsUptoCardSaid : Prop := Claim7.holds Tryd.pinned (.plain (OpenSpec.upto scriptTurnsSpec)) scriptTurnsUptoCard
end Rows
end Go.Proofs.YtkobmoabnnjejaaDoor
