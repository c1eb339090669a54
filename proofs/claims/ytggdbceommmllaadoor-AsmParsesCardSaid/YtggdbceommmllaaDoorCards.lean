/-
  DERIVED. GIVEN WITH THE SEED: THE CARDS: each row of YtggdbceommmllaaDoorRows.lean that lists a variable, with what it lists TIED to the program's text (the seventh form; the later family's looks); each row that meets fmt, with fmt's text TOLD by the authors' own Lean function (tested against real Go, not proved from fmt's source: count such statements apart). THE CARD IS WHAT COUNTS. Prove the row's statement (the work); the ties are given (YtggdbceommmllaaDoorTie.lean); close each card by the builder's one call (the guide's Derived/Test/ToyasCard.lean, 'card_holds'). Laid BY PROGRAM, IN A SANDBOX (cutbox-door.mjs). By AI agents, Wed Nov 11 2026. No macro, syntax, notation, axiom, sorry.
-/
import Derived.Test.YtggdbceommmllaaDoorRows
import GoSem.ClaimSeven
namespace Go.Proofs.YtggdbceommmllaaDoor
namespace Rows

/-- THE TIED CARD OF 'pelotonlaw03.AsmOnly'. -/
def asmOnlyCard : Claim7 := { stood := { row := asmOnlyRow, standIns := [], harness := (true, "737ff036a9abbd508ee63baf93c3ae4e20bb614940ca8df7a400e83ecc673d74"), looks := true }, kinds := [], alts := [], laidByText := true, laidKinds := [.data, .data, .data, .data, .sentinel, .sentinel, .sentinel, .pinned], laidTests := true, laidLooks := .later }
def AsmOnlyCardSaid : Prop := Claim7.holds Tryd.pinned (.plain (OpenSpec.ofChange asmOnlySpec)) asmOnlyCard

/-- THE TIED CARD OF 'pelotonlaw03.AsmLines'. -/
def asmLinesCard : Claim7 := { stood := { row := asmLinesRow, standIns := [], harness := (true, "737ff036a9abbd508ee63baf93c3ae4e20bb614940ca8df7a400e83ecc673d74"), looks := true }, kinds := [], alts := [], laidByText := true, laidKinds := [.data, .data, .data, .data, .sentinel, .sentinel, .pinned], laidTests := true, laidLooks := .later }
def AsmLinesCardSaid : Prop := Claim7.holds Tryd.pinned (.plain (OpenSpec.ofChange asmLinesSpec)) asmLinesCard

/-- THE TIED CARD OF 'pelotonlaw03.AsmReads'. -/
def asmReadsCard : Claim7 := { stood := { row := asmReadsRow, standIns := [], harness := (true, "737ff036a9abbd508ee63baf93c3ae4e20bb614940ca8df7a400e83ecc673d74"), looks := true }, kinds := [], alts := [], laidByText := true, laidKinds := [.data, .data, .data, .data, .sentinel, .sentinel, .pinned], laidTests := true, laidLooks := .later }
def AsmReadsCardSaid : Prop := Claim7.holds Tryd.pinned (.plain (OpenSpec.ofChange asmReadsSpec)) asmReadsCard

/-- THE TIED CARD OF 'pelotonlaw03.AsmBack'. -/
def asmBackCard : Claim7 := { stood := { row := asmBackRow, standIns := [], harness := (true, "737ff036a9abbd508ee63baf93c3ae4e20bb614940ca8df7a400e83ecc673d74"), looks := true }, kinds := [], alts := [], laidByText := true, laidKinds := [.data, .data, .data, .data, .sentinel, .sentinel, .pinned], laidTests := true, laidLooks := .later }
def AsmBackCardSaid : Prop := Claim7.holds Tryd.pinned (.plain (OpenSpec.ofChange asmBackSpec)) asmBackCard

/-- THE TIED CARD OF 'pelotonlaw03.AsmBlank'. -/
def asmBlankCard : Claim7 := { stood := { row := asmBlankRow, standIns := [], harness := (true, "737ff036a9abbd508ee63baf93c3ae4e20bb614940ca8df7a400e83ecc673d74"), looks := true }, kinds := [], alts := [], laidByText := true, laidKinds := [.data, .data, .data, .data, .sentinel, .sentinel, .pinned], laidTests := true, laidLooks := .later }
def AsmBlankCardSaid : Prop := Claim7.holds Tryd.pinned (.plain (OpenSpec.ofChange asmBlankSpec)) asmBlankCard

/-- THE TIED CARD OF 'pelotonlaw03.AsmParses'. -/
def asmParsesCard : Claim7 := { stood := { row := asmParsesRow, standIns := [], harness := (true, "737ff036a9abbd508ee63baf93c3ae4e20bb614940ca8df7a400e83ecc673d74"), looks := true }, kinds := [], alts := [], laidByText := true, laidKinds := [.data, .data, .data, .data, .sentinel, .sentinel, .pinned], laidTests := true, laidLooks := .later }
def AsmParsesCardSaid : Prop := Claim7.holds Tryd.pinned (.plain (OpenSpec.ofChange asmParsesSpec)) asmParsesCard

/-- THE TIED CARD OF 'pelotonlaw03.AsmWhole'. -/
def asmWholeCard : Claim7 := { stood := { row := asmWholeRow, standIns := [], harness := (true, "737ff036a9abbd508ee63baf93c3ae4e20bb614940ca8df7a400e83ecc673d74"), looks := true }, kinds := [], alts := [], laidByText := true, laidKinds := [.data, .data, .data, .data, .sentinel, .sentinel, .sentinel, .pinned], laidTests := true, laidLooks := .later }
def AsmWholeCardSaid : Prop := Claim7.holds Tryd.pinned (.plain (OpenSpec.ofChange asmWholeSpec)) asmWholeCard

/-- THE SECOND FORM's CARD OF 'pelotonlaw03.AsmOnly'. -/
def asmOnlyUptoCard : Claim7 := { stood := { row := asmOnlyUptoRow, standIns := [], harness := (true, "737ff036a9abbd508ee63baf93c3ae4e20bb614940ca8df7a400e83ecc673d74"), looks := true }, kinds := [], alts := [], laidByText := true, laidKinds := [.data, .data, .data, .data, .sentinel, .sentinel, .sentinel, .pinned], laidTests := true, laidLooks := .later }
def AsmOnlyUptoCardSaid : Prop := Claim7.holds Tryd.pinned (.plain (OpenSpec.upto asmOnlySpec)) asmOnlyUptoCard

/-- THE SECOND FORM's CARD OF 'pelotonlaw03.AsmLines'. -/
def asmLinesUptoCard : Claim7 := { stood := { row := asmLinesUptoRow, standIns := [], harness := (true, "737ff036a9abbd508ee63baf93c3ae4e20bb614940ca8df7a400e83ecc673d74"), looks := true }, kinds := [], alts := [], laidByText := true, laidKinds := [.data, .data, .data, .data, .sentinel, .sentinel, .pinned], laidTests := true, laidLooks := .later }
def AsmLinesUptoCardSaid : Prop := Claim7.holds Tryd.pinned (.plain (OpenSpec.upto asmLinesSpec)) asmLinesUptoCard

/-- THE SECOND FORM's CARD OF 'pelotonlaw03.AsmReads'. -/
def asmReadsUptoCard : Claim7 := { stood := { row := asmReadsUptoRow, standIns := [], harness := (true, "737ff036a9abbd508ee63baf93c3ae4e20bb614940ca8df7a400e83ecc673d74"), looks := true }, kinds := [], alts := [], laidByText := true, laidKinds := [.data, .data, .data, .data, .sentinel, .sentinel, .pinned], laidTests := true, laidLooks := .later }
def AsmReadsUptoCardSaid : Prop := Claim7.holds Tryd.pinned (.plain (OpenSpec.upto asmReadsSpec)) asmReadsUptoCard

/-- THE SECOND FORM's CARD OF 'pelotonlaw03.AsmBack'. -/
def asmBackUptoCard : Claim7 := { stood := { row := asmBackUptoRow, standIns := [], harness := (true, "737ff036a9abbd508ee63baf93c3ae4e20bb614940ca8df7a400e83ecc673d74"), looks := true }, kinds := [], alts := [], laidByText := true, laidKinds := [.data, .data, .data, .data, .sentinel, .sentinel, .pinned], laidTests := true, laidLooks := .later }
def AsmBackUptoCardSaid : Prop := Claim7.holds Tryd.pinned (.plain (OpenSpec.upto asmBackSpec)) asmBackUptoCard

/-- THE SECOND FORM's CARD OF 'pelotonlaw03.AsmBlank'. -/
def asmBlankUptoCard : Claim7 := { stood := { row := asmBlankUptoRow, standIns := [], harness := (true, "737ff036a9abbd508ee63baf93c3ae4e20bb614940ca8df7a400e83ecc673d74"), looks := true }, kinds := [], alts := [], laidByText := true, laidKinds := [.data, .data, .data, .data, .sentinel, .sentinel, .pinned], laidTests := true, laidLooks := .later }
def AsmBlankUptoCardSaid : Prop := Claim7.holds Tryd.pinned (.plain (OpenSpec.upto asmBlankSpec)) asmBlankUptoCard

/-- THE SECOND FORM's CARD OF 'pelotonlaw03.AsmParses'. -/
def asmParsesUptoCard : Claim7 := { stood := { row := asmParsesUptoRow, standIns := [], harness := (true, "737ff036a9abbd508ee63baf93c3ae4e20bb614940ca8df7a400e83ecc673d74"), looks := true }, kinds := [], alts := [], laidByText := true, laidKinds := [.data, .data, .data, .data, .sentinel, .sentinel, .pinned], laidTests := true, laidLooks := .later }
def AsmParsesUptoCardSaid : Prop := Claim7.holds Tryd.pinned (.plain (OpenSpec.upto asmParsesSpec)) asmParsesUptoCard

/-- THE SECOND FORM's CARD OF 'pelotonlaw03.AsmWhole'. -/
def asmWholeUptoCard : Claim7 := { stood := { row := asmWholeUptoRow, standIns := [], harness := (true, "737ff036a9abbd508ee63baf93c3ae4e20bb614940ca8df7a400e83ecc673d74"), looks := true }, kinds := [], alts := [], laidByText := true, laidKinds := [.data, .data, .data, .data, .sentinel, .sentinel, .sentinel, .pinned], laidTests := true, laidLooks := .later }
def AsmWholeUptoCardSaid : Prop := Claim7.holds Tryd.pinned (.plain (OpenSpec.upto asmWholeSpec)) asmWholeUptoCard
end Rows
end Go.Proofs.YtggdbceommmllaaDoor
