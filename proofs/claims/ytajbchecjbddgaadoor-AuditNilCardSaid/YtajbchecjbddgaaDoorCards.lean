/-
  DERIVED. GIVEN WITH THE SEED: THE CARDS: each row of YtajbchecjbddgaaDoorRows.lean that lists a variable, with what it lists TIED to the program's text (the seventh form; the later family's looks); each row that meets fmt, with fmt's text TOLD by the authors' own Lean function (tested against real Go, not proved from fmt's source: count such statements apart). THE CARD IS WHAT COUNTS. Prove the row's statement (the work); the ties are given (YtajbchecjbddgaaDoorTie.lean); close each card by the builder's one call (the guide's Derived/Test/ToyasCard.lean, 'card_holds'). Laid BY PROGRAM, IN A SANDBOX (cutbox-door.mjs). By AI agents, Wed Nov 11 2026. No macro, syntax, notation, axiom, sorry.
-/
import Derived.Test.YtajbchecjbddgaaDoorRows
import GoSem.ClaimSeven
namespace Go.Proofs.YtajbchecjbddgaaDoor
namespace Rows

/-- THE TIED CARD OF 'pelotonlaw20.AuditChecks'. -/
def auditChecksCard : Claim7 := { stood := { row := auditChecksRow, standIns := [], harness := (true, "eba1ee5f14e9208346690092dd72c734d1943b409d64542f3309322a07e8e7d4"), looks := false }, kinds := [], alts := [], laidByText := true, laidKinds := [.data, .pinned], laidTests := true, laidLooks := .later }
def AuditChecksCardSaid : Prop := Claim7.holds Tryd.pinned (.plain (OpenSpec.ofChange auditChecksSpec)) auditChecksCard

/-- THE TIED CARD OF 'pelotonlaw20.AuditAllows'. -/
def auditAllowsCard : Claim7 := { stood := { row := auditAllowsRow, standIns := [], harness := (true, "eba1ee5f14e9208346690092dd72c734d1943b409d64542f3309322a07e8e7d4"), looks := false }, kinds := [], alts := [], laidByText := true, laidKinds := [.data, .pinned], laidTests := true, laidLooks := .later }
def AuditAllowsCardSaid : Prop := Claim7.holds Tryd.pinned (.plain (OpenSpec.ofChange auditAllowsSpec)) auditAllowsCard

/-- THE TIED CARD OF 'pelotonlaw20.AuditOrders'. -/
def auditOrdersCard : Claim7 := { stood := { row := auditOrdersRow, standIns := [], harness := (true, "eba1ee5f14e9208346690092dd72c734d1943b409d64542f3309322a07e8e7d4"), looks := false }, kinds := [], alts := [], laidByText := true, laidKinds := [.data, .pinned], laidTests := true, laidLooks := .later }
def AuditOrdersCardSaid : Prop := Claim7.holds Tryd.pinned (.plain (OpenSpec.ofChange auditOrdersSpec)) auditOrdersCard

/-- THE TIED CARD OF 'pelotonlaw20.AuditStays'. -/
def auditStaysCard : Claim7 := { stood := { row := auditStaysRow, standIns := [], harness := (true, "eba1ee5f14e9208346690092dd72c734d1943b409d64542f3309322a07e8e7d4"), looks := false }, kinds := [], alts := [], laidByText := true, laidKinds := [.data, .pinned], laidTests := true, laidLooks := .later }
def AuditStaysCardSaid : Prop := Claim7.holds Tryd.pinned (.plain (OpenSpec.ofChange auditStaysSpec)) auditStaysCard

/-- THE TIED CARD OF 'pelotonlaw20.AuditSees'. -/
def auditSeesCard : Claim7 := { stood := { row := auditSeesRow, standIns := [], harness := (true, "eba1ee5f14e9208346690092dd72c734d1943b409d64542f3309322a07e8e7d4"), looks := false }, kinds := [], alts := [], laidByText := true, laidKinds := [.data, .pinned], laidTests := true, laidLooks := .later }
def AuditSeesCardSaid : Prop := Claim7.holds Tryd.pinned (.plain (OpenSpec.ofChange auditSeesSpec)) auditSeesCard

/-- THE TIED CARD OF 'pelotonlaw20.AuditNil'. -/
def auditNilCard : Claim7 := { stood := { row := auditNilRow, standIns := [], harness := (true, "eba1ee5f14e9208346690092dd72c734d1943b409d64542f3309322a07e8e7d4"), looks := false }, kinds := [], alts := [], laidByText := true, laidKinds := [.data, .pinned], laidTests := true, laidLooks := .later }
def AuditNilCardSaid : Prop := Claim7.holds Tryd.pinned (.plain (OpenSpec.ofChange auditNilSpec)) auditNilCard

/-- THE SECOND FORM's CARD OF 'pelotonlaw20.AuditChecks'. -/
def auditChecksUptoCard : Claim7 := { stood := { row := auditChecksUptoRow, standIns := [], harness := (true, "eba1ee5f14e9208346690092dd72c734d1943b409d64542f3309322a07e8e7d4"), looks := false }, kinds := [], alts := [], laidByText := true, laidKinds := [.data, .pinned], laidTests := true, laidLooks := .later }
def AuditChecksUptoCardSaid : Prop := Claim7.holds Tryd.pinned (.plain (OpenSpec.upto auditChecksSpec)) auditChecksUptoCard

/-- THE SECOND FORM's CARD OF 'pelotonlaw20.AuditAllows'. -/
def auditAllowsUptoCard : Claim7 := { stood := { row := auditAllowsUptoRow, standIns := [], harness := (true, "eba1ee5f14e9208346690092dd72c734d1943b409d64542f3309322a07e8e7d4"), looks := false }, kinds := [], alts := [], laidByText := true, laidKinds := [.data, .pinned], laidTests := true, laidLooks := .later }
def AuditAllowsUptoCardSaid : Prop := Claim7.holds Tryd.pinned (.plain (OpenSpec.upto auditAllowsSpec)) auditAllowsUptoCard

/-- THE SECOND FORM's CARD OF 'pelotonlaw20.AuditOrders'. -/
def auditOrdersUptoCard : Claim7 := { stood := { row := auditOrdersUptoRow, standIns := [], harness := (true, "eba1ee5f14e9208346690092dd72c734d1943b409d64542f3309322a07e8e7d4"), looks := false }, kinds := [], alts := [], laidByText := true, laidKinds := [.data, .pinned], laidTests := true, laidLooks := .later }
def AuditOrdersUptoCardSaid : Prop := Claim7.holds Tryd.pinned (.plain (OpenSpec.upto auditOrdersSpec)) auditOrdersUptoCard

/-- THE SECOND FORM's CARD OF 'pelotonlaw20.AuditStays'. -/
def auditStaysUptoCard : Claim7 := { stood := { row := auditStaysUptoRow, standIns := [], harness := (true, "eba1ee5f14e9208346690092dd72c734d1943b409d64542f3309322a07e8e7d4"), looks := false }, kinds := [], alts := [], laidByText := true, laidKinds := [.data, .pinned], laidTests := true, laidLooks := .later }
def AuditStaysUptoCardSaid : Prop := Claim7.holds Tryd.pinned (.plain (OpenSpec.upto auditStaysSpec)) auditStaysUptoCard

/-- THE SECOND FORM's CARD OF 'pelotonlaw20.AuditSees'. -/
def auditSeesUptoCard : Claim7 := { stood := { row := auditSeesUptoRow, standIns := [], harness := (true, "eba1ee5f14e9208346690092dd72c734d1943b409d64542f3309322a07e8e7d4"), looks := false }, kinds := [], alts := [], laidByText := true, laidKinds := [.data, .pinned], laidTests := true, laidLooks := .later }
def AuditSeesUptoCardSaid : Prop := Claim7.holds Tryd.pinned (.plain (OpenSpec.upto auditSeesSpec)) auditSeesUptoCard

/-- THE SECOND FORM's CARD OF 'pelotonlaw20.AuditNil'. -/
def auditNilUptoCard : Claim7 := { stood := { row := auditNilUptoRow, standIns := [], harness := (true, "eba1ee5f14e9208346690092dd72c734d1943b409d64542f3309322a07e8e7d4"), looks := false }, kinds := [], alts := [], laidByText := true, laidKinds := [.data, .pinned], laidTests := true, laidLooks := .later }
def AuditNilUptoCardSaid : Prop := Claim7.holds Tryd.pinned (.plain (OpenSpec.upto auditNilSpec)) auditNilUptoCard
end Rows
end Go.Proofs.YtajbchecjbddgaaDoor
