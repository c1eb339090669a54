/-
  DERIVED. GIVEN WITH THE SEED: THE CARDS: each row of YtjpnbjlhjlddbaaDoorRows.lean that lists a variable, with what it lists TIED to the program's text (the seventh form; the later family's looks); each row that meets fmt, with fmt's text TOLD by the authors' own Lean function (tested against real Go, not proved from fmt's source: count such statements apart). THE CARD IS WHAT COUNTS. Prove the row's statement (the work); the ties are given (YtjpnbjlhjlddbaaDoorTie.lean); close each card by the builder's one call (the guide's Derived/Test/ToyasCard.lean, 'card_holds'). Laid BY PROGRAM, IN A SANDBOX (cutbox-door.mjs). By AI agents, Wed Nov 11 2026. No macro, syntax, notation, axiom, sorry.
-/
import Derived.Test.YtjpnbjlhjlddbaaDoorRows
import GoSem.ClaimSeven
namespace Go.Proofs.YtjpnbjlhjlddbaaDoor
namespace Rows

/-- THE TIED CARD OF 'pelotonlaw02.CodeBytes'. -/
def codeBytesCard : Claim7 := { stood := { row := codeBytesRow, standIns := [], harness := (true, "4bd683812ed37bafbac9e6d282e5ba9ce0e0bd6d4219b013f64242549c00bc97"), looks := false }, kinds := [], alts := [], laidByText := true, laidKinds := [.sentinel], laidTests := true, laidLooks := .later }
def CodeBytesCardSaid : Prop := Claim7.holds Tryd.pinned (.plain (OpenSpec.ofChange codeBytesSpec)) codeBytesCard

/-- THE TIED CARD OF 'pelotonlaw02.CodePacks'. -/
def codePacksCard : Claim7 := { stood := { row := codePacksRow, standIns := [], harness := (true, "4bd683812ed37bafbac9e6d282e5ba9ce0e0bd6d4219b013f64242549c00bc97"), looks := false }, kinds := [], alts := [], laidByText := true, laidKinds := [.sentinel], laidTests := true, laidLooks := .later }
def CodePacksCardSaid : Prop := Claim7.holds Tryd.pinned (.plain (OpenSpec.ofChange codePacksSpec)) codePacksCard

/-- THE TIED CARD OF 'pelotonlaw02.CodeMay'. -/
def codeMayCard : Claim7 := { stood := { row := codeMayRow, standIns := [], harness := (true, "4bd683812ed37bafbac9e6d282e5ba9ce0e0bd6d4219b013f64242549c00bc97"), looks := false }, kinds := [], alts := [], laidByText := true, laidKinds := [.sentinel], laidTests := true, laidLooks := .later }
def CodeMayCardSaid : Prop := Claim7.holds Tryd.pinned (.plain (OpenSpec.ofChange codeMaySpec)) codeMayCard

/-- THE TIED CARD OF 'pelotonlaw02.CodeReads'. -/
def codeReadsCard : Claim7 := { stood := { row := codeReadsRow, standIns := [], harness := (true, "4bd683812ed37bafbac9e6d282e5ba9ce0e0bd6d4219b013f64242549c00bc97"), looks := false }, kinds := [], alts := [], laidByText := true, laidKinds := [.sentinel], laidTests := true, laidLooks := .later }
def CodeReadsCardSaid : Prop := Claim7.holds Tryd.pinned (.plain (OpenSpec.ofChange codeReadsSpec)) codeReadsCard

/-- THE TIED CARD OF 'pelotonlaw02.CodeBack'. -/
def codeBackCard : Claim7 := { stood := { row := codeBackRow, standIns := [], harness := (true, "4bd683812ed37bafbac9e6d282e5ba9ce0e0bd6d4219b013f64242549c00bc97"), looks := false }, kinds := [], alts := [], laidByText := true, laidKinds := [.sentinel], laidTests := true, laidLooks := .later }
def CodeBackCardSaid : Prop := Claim7.holds Tryd.pinned (.plain (OpenSpec.ofChange codeBackSpec)) codeBackCard

/-- THE TIED CARD OF 'pelotonlaw02.CodeCut'. -/
def codeCutCard : Claim7 := { stood := { row := codeCutRow, standIns := [], harness := (true, "4bd683812ed37bafbac9e6d282e5ba9ce0e0bd6d4219b013f64242549c00bc97"), looks := false }, kinds := [], alts := [], laidByText := true, laidKinds := [.sentinel], laidTests := true, laidLooks := .later }
def CodeCutCardSaid : Prop := Claim7.holds Tryd.pinned (.plain (OpenSpec.ofChange codeCutSpec)) codeCutCard

/-- THE TIED CARD OF 'pelotonlaw02.CodeUnpacks'. -/
def codeUnpacksCard : Claim7 := { stood := { row := codeUnpacksRow, standIns := [], harness := (true, "4bd683812ed37bafbac9e6d282e5ba9ce0e0bd6d4219b013f64242549c00bc97"), looks := false }, kinds := [], alts := [], laidByText := true, laidKinds := [.sentinel], laidTests := true, laidLooks := .later }
def CodeUnpacksCardSaid : Prop := Claim7.holds Tryd.pinned (.plain (OpenSpec.ofChange codeUnpacksSpec)) codeUnpacksCard

/-- THE TIED CARD OF 'pelotonlaw02.CodeWhole'. -/
def codeWholeCard : Claim7 := { stood := { row := codeWholeRow, standIns := [], harness := (true, "4bd683812ed37bafbac9e6d282e5ba9ce0e0bd6d4219b013f64242549c00bc97"), looks := false }, kinds := [], alts := [], laidByText := true, laidKinds := [.sentinel], laidTests := true, laidLooks := .later }
def CodeWholeCardSaid : Prop := Claim7.holds Tryd.pinned (.plain (OpenSpec.ofChange codeWholeSpec)) codeWholeCard

/-- THE SECOND FORM's CARD OF 'pelotonlaw02.CodeBytes'. -/
def codeBytesUptoCard : Claim7 := { stood := { row := codeBytesUptoRow, standIns := [], harness := (true, "4bd683812ed37bafbac9e6d282e5ba9ce0e0bd6d4219b013f64242549c00bc97"), looks := false }, kinds := [], alts := [], laidByText := true, laidKinds := [.sentinel], laidTests := true, laidLooks := .later }
def CodeBytesUptoCardSaid : Prop := Claim7.holds Tryd.pinned (.plain (OpenSpec.upto codeBytesSpec)) codeBytesUptoCard

/-- THE SECOND FORM's CARD OF 'pelotonlaw02.CodePacks'. -/
def codePacksUptoCard : Claim7 := { stood := { row := codePacksUptoRow, standIns := [], harness := (true, "4bd683812ed37bafbac9e6d282e5ba9ce0e0bd6d4219b013f64242549c00bc97"), looks := false }, kinds := [], alts := [], laidByText := true, laidKinds := [.sentinel], laidTests := true, laidLooks := .later }
def CodePacksUptoCardSaid : Prop := Claim7.holds Tryd.pinned (.plain (OpenSpec.upto codePacksSpec)) codePacksUptoCard

/-- THE SECOND FORM's CARD OF 'pelotonlaw02.CodeMay'. -/
def codeMayUptoCard : Claim7 := { stood := { row := codeMayUptoRow, standIns := [], harness := (true, "4bd683812ed37bafbac9e6d282e5ba9ce0e0bd6d4219b013f64242549c00bc97"), looks := false }, kinds := [], alts := [], laidByText := true, laidKinds := [.sentinel], laidTests := true, laidLooks := .later }
def CodeMayUptoCardSaid : Prop := Claim7.holds Tryd.pinned (.plain (OpenSpec.upto codeMaySpec)) codeMayUptoCard

/-- THE SECOND FORM's CARD OF 'pelotonlaw02.CodeReads'. -/
def codeReadsUptoCard : Claim7 := { stood := { row := codeReadsUptoRow, standIns := [], harness := (true, "4bd683812ed37bafbac9e6d282e5ba9ce0e0bd6d4219b013f64242549c00bc97"), looks := false }, kinds := [], alts := [], laidByText := true, laidKinds := [.sentinel], laidTests := true, laidLooks := .later }
def CodeReadsUptoCardSaid : Prop := Claim7.holds Tryd.pinned (.plain (OpenSpec.upto codeReadsSpec)) codeReadsUptoCard

/-- THE SECOND FORM's CARD OF 'pelotonlaw02.CodeBack'. -/
def codeBackUptoCard : Claim7 := { stood := { row := codeBackUptoRow, standIns := [], harness := (true, "4bd683812ed37bafbac9e6d282e5ba9ce0e0bd6d4219b013f64242549c00bc97"), looks := false }, kinds := [], alts := [], laidByText := true, laidKinds := [.sentinel], laidTests := true, laidLooks := .later }
def CodeBackUptoCardSaid : Prop := Claim7.holds Tryd.pinned (.plain (OpenSpec.upto codeBackSpec)) codeBackUptoCard

/-- THE SECOND FORM's CARD OF 'pelotonlaw02.CodeCut'. -/
def codeCutUptoCard : Claim7 := { stood := { row := codeCutUptoRow, standIns := [], harness := (true, "4bd683812ed37bafbac9e6d282e5ba9ce0e0bd6d4219b013f64242549c00bc97"), looks := false }, kinds := [], alts := [], laidByText := true, laidKinds := [.sentinel], laidTests := true, laidLooks := .later }
def CodeCutUptoCardSaid : Prop := Claim7.holds Tryd.pinned (.plain (OpenSpec.upto codeCutSpec)) codeCutUptoCard

/-- THE SECOND FORM's CARD OF 'pelotonlaw02.CodeUnpacks'. -/
def codeUnpacksUptoCard : Claim7 := { stood := { row := codeUnpacksUptoRow, standIns := [], harness := (true, "4bd683812ed37bafbac9e6d282e5ba9ce0e0bd6d4219b013f64242549c00bc97"), looks := false }, kinds := [], alts := [], laidByText := true, laidKinds := [.sentinel], laidTests := true, laidLooks := .later }
def CodeUnpacksUptoCardSaid : Prop := Claim7.holds Tryd.pinned (.plain (OpenSpec.upto codeUnpacksSpec)) codeUnpacksUptoCard

/-- THE SECOND FORM's CARD OF 'pelotonlaw02.CodeWhole'. -/
def codeWholeUptoCard : Claim7 := { stood := { row := codeWholeUptoRow, standIns := [], harness := (true, "4bd683812ed37bafbac9e6d282e5ba9ce0e0bd6d4219b013f64242549c00bc97"), looks := false }, kinds := [], alts := [], laidByText := true, laidKinds := [.sentinel], laidTests := true, laidLooks := .later }
def CodeWholeUptoCardSaid : Prop := Claim7.holds Tryd.pinned (.plain (OpenSpec.upto codeWholeSpec)) codeWholeUptoCard
end Rows
end Go.Proofs.YtjpnbjlhjlddbaaDoor
