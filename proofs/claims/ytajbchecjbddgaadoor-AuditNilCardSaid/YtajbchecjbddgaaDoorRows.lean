/-
  NARROWER THAN 'FOR EVERY INPUT', by the rows' own cells (each row's printed sentence says how): AuditChecks: laid · AuditAllows: laid · AuditOrders: laid · AuditStays: laid · AuditSees: laid · AuditNil: laid.
  DERIVED. THE GIVEN ROWS OF THIS SEAT. 6 by the template 'for every input the law returns true; each argument reads behind the call as it read before'; 0 by the template 'total and deterministic' (their statements: YtajbchecjbddgaaDoorTotals.lean).
  GIVEN WITH THE SEED: the statements are not yours to turn. If you find one false, say at which input.
  Laid BY PROGRAM, IN A SANDBOX (cutbox-rows.mjs): the forced cells as the released guide's own fill.sh prints them over the translation 03b63d6a8c66cd94… (all of the seat's roots in one cut). By AI agents, Wed Nov 11 2026. No macro, syntax, notation, axiom, sorry.
-/
import Derived.Test.YtajbchecjbddgaaDoorChecked
import GoSem.PinnedTables
import GoSem.Claim
import GoSem.ClaimJoined
import GoSem.ClaimMapViews
import Derived.JoinedTies
import Derived.KernelRfl
namespace Go.Proofs.YtajbchecjbddgaaDoor
/- THE CELL 'sum', in the pinned program and in every row, IS THE sha256 OF THE DUMP (.gsa) THAT YtajbchecjbddgaaDoorProg.lean LOADS. Nothing in Lean hashes anything: it is a label: what it is worth is what the hold of that sum in a sandbox is worth. -/
noncomputable def Tryd.pinned : Pinned := { name := "ytajbchecjbddgaadoor", sum := "03b63d6a8c66cd940ee3870c02a0bfb7ec50561a33fc4befdb4f7e56068ed0d8", checked := Tryd.checked }
namespace Rows
def none {H : Type} : Left H := { results := [], args := [] }

/- WHAT THE LISTED PACKAGE-LEVEL VARIABLES READ AS WHEN THE CALL BEGINS. Each datum BY PROGRAM (the guide's laid-datum.mjs) off the statement by which the dump's own 'gosem.cut.vars' lays the variable. In a bare row this is a premise. The card (YtajbchecjbddgaaDoorCards.lean) ties it to the program's text. -/
def laid_unicode_utf8_acceptRanges {H : Type} : DataW H := .agg [.agg [.lit (.int .u8 128), .lit (.int .u8 191)], .agg [.lit (.int .u8 160), .lit (.int .u8 191)], .agg [.lit (.int .u8 128), .lit (.int .u8 159)], .agg [.lit (.int .u8 144), .lit (.int .u8 191)], .agg [.lit (.int .u8 128), .lit (.int .u8 143)], .agg [.lit (.int .u8 0), .lit (.int .u8 0)], .agg [.lit (.int .u8 0), .lit (.int .u8 0)], .agg [.lit (.int .u8 0), .lit (.int .u8 0)], .agg [.lit (.int .u8 0), .lit (.int .u8 0)], .agg [.lit (.int .u8 0), .lit (.int .u8 0)], .agg [.lit (.int .u8 0), .lit (.int .u8 0)], .agg [.lit (.int .u8 0), .lit (.int .u8 0)], .agg [.lit (.int .u8 0), .lit (.int .u8 0)], .agg [.lit (.int .u8 0), .lit (.int .u8 0)], .agg [.lit (.int .u8 0), .lit (.int .u8 0)], .agg [.lit (.int .u8 0), .lit (.int .u8 0)]]
/-- One of Go's own tables, pinned by name: the form's constant. -/
def laid_unicode_utf8_first : DataW Unit := Go.Pinned.utf8First

/-- 'pelotonlaw20.AuditChecks': WHATEVER THE INPUT: true; the input reads as it did. -/
def auditChecksSpec : ChangeSpec := { name := "auditChecks", fn := fun _ => fun
  | [d] => { results := [.lit (.bool true)], args := [d] }
  | _ => none }
def auditChecksRow : OpenClaim := { program := "ytajbchecjbddgaadoor", sum := "03b63d6a8c66cd940ee3870c02a0bfb7ec50561a33fc4befdb4f7e56068ed0d8", func := "peloton/pelotonlaw20.AuditChecks", spec := "auditChecks", inPlace := ["internal/bytealg.IndexByteString", "internal/bytealg.IndexString"], unfollowed := true, recurses := true, named := ["unicode/utf8.first", "unicode/utf8.acceptRanges", "internal/bytealg.MaxLen"], plainKeys := false, apart := false, laid := [("unicode/utf8.acceptRanges", laid_unicode_utf8_acceptRanges), ("unicode/utf8.first", laid_unicode_utf8_first)] }
def AuditChecksSaid : Prop := auditChecksRow.holds Tryd.pinned (OpenSpec.ofChange auditChecksSpec)

/-- ITS FALSE NEIGHBOUR: 'it returns false'. Refute it at one input. -/
def auditChecksWrong : ChangeSpec := { name := "auditChecks", fn := fun _ => fun
  | [d] => { results := [.lit (.bool false)], args := [d] }
  | _ => none }
def AuditChecksWrongFalsely : Prop := auditChecksRow.holds Tryd.pinned (OpenSpec.ofChange auditChecksWrong)

/-- 'pelotonlaw20.AuditAllows': WHATEVER THE INPUT: true; the input reads as it did. -/
def auditAllowsSpec : ChangeSpec := { name := "auditAllows", fn := fun _ => fun
  | [d1, d2] => { results := [.lit (.bool true)], args := [d1, d2] }
  | _ => none }
def auditAllowsRow : OpenClaim := { program := "ytajbchecjbddgaadoor", sum := "03b63d6a8c66cd940ee3870c02a0bfb7ec50561a33fc4befdb4f7e56068ed0d8", func := "peloton/pelotonlaw20.AuditAllows", spec := "auditAllows", inPlace := ["internal/bytealg.IndexByteString", "internal/bytealg.IndexString"], unfollowed := true, recurses := true, named := ["unicode/utf8.first", "unicode/utf8.acceptRanges", "internal/bytealg.MaxLen"], plainKeys := false, apart := false, laid := [("unicode/utf8.acceptRanges", laid_unicode_utf8_acceptRanges), ("unicode/utf8.first", laid_unicode_utf8_first)] }
def AuditAllowsSaid : Prop := auditAllowsRow.holds Tryd.pinned (OpenSpec.ofChange auditAllowsSpec)

/-- ITS FALSE NEIGHBOUR: 'it returns false'. Refute it at one input. -/
def auditAllowsWrong : ChangeSpec := { name := "auditAllows", fn := fun _ => fun
  | [d1, d2] => { results := [.lit (.bool false)], args := [d1, d2] }
  | _ => none }
def AuditAllowsWrongFalsely : Prop := auditAllowsRow.holds Tryd.pinned (OpenSpec.ofChange auditAllowsWrong)

/-- 'pelotonlaw20.AuditOrders': WHATEVER THE INPUT: true; the input reads as it did. -/
def auditOrdersSpec : ChangeSpec := { name := "auditOrders", fn := fun _ => fun
  | [d1, d2, d3] => { results := [.lit (.bool true)], args := [d1, d2, d3] }
  | _ => none }
def auditOrdersRow : OpenClaim := { program := "ytajbchecjbddgaadoor", sum := "03b63d6a8c66cd940ee3870c02a0bfb7ec50561a33fc4befdb4f7e56068ed0d8", func := "peloton/pelotonlaw20.AuditOrders", spec := "auditOrders", inPlace := ["internal/bytealg.IndexByteString", "internal/bytealg.IndexString"], unfollowed := true, recurses := true, named := ["unicode/utf8.first", "unicode/utf8.acceptRanges", "internal/bytealg.MaxLen"], plainKeys := false, apart := false, laid := [("unicode/utf8.acceptRanges", laid_unicode_utf8_acceptRanges), ("unicode/utf8.first", laid_unicode_utf8_first)] }
def AuditOrdersSaid : Prop := auditOrdersRow.holds Tryd.pinned (OpenSpec.ofChange auditOrdersSpec)

/-- ITS FALSE NEIGHBOUR: 'it returns false'. Refute it at one input. -/
def auditOrdersWrong : ChangeSpec := { name := "auditOrders", fn := fun _ => fun
  | [d1, d2, d3] => { results := [.lit (.bool false)], args := [d1, d2, d3] }
  | _ => none }
def AuditOrdersWrongFalsely : Prop := auditOrdersRow.holds Tryd.pinned (OpenSpec.ofChange auditOrdersWrong)

/-- 'pelotonlaw20.AuditStays': WHATEVER THE INPUT: true; the input reads as it did. -/
def auditStaysSpec : ChangeSpec := { name := "auditStays", fn := fun _ => fun
  | [d1, d2] => { results := [.lit (.bool true)], args := [d1, d2] }
  | _ => none }
def auditStaysRow : OpenClaim := { program := "ytajbchecjbddgaadoor", sum := "03b63d6a8c66cd940ee3870c02a0bfb7ec50561a33fc4befdb4f7e56068ed0d8", func := "peloton/pelotonlaw20.AuditStays", spec := "auditStays", inPlace := ["internal/bytealg.IndexByteString", "internal/bytealg.IndexString"], unfollowed := true, recurses := true, named := ["unicode/utf8.first", "unicode/utf8.acceptRanges", "internal/bytealg.MaxLen"], plainKeys := false, apart := false, laid := [("unicode/utf8.acceptRanges", laid_unicode_utf8_acceptRanges), ("unicode/utf8.first", laid_unicode_utf8_first)] }
def AuditStaysSaid : Prop := auditStaysRow.holds Tryd.pinned (OpenSpec.ofChange auditStaysSpec)

/-- ITS FALSE NEIGHBOUR: 'it returns false'. Refute it at one input. -/
def auditStaysWrong : ChangeSpec := { name := "auditStays", fn := fun _ => fun
  | [d1, d2] => { results := [.lit (.bool false)], args := [d1, d2] }
  | _ => none }
def AuditStaysWrongFalsely : Prop := auditStaysRow.holds Tryd.pinned (OpenSpec.ofChange auditStaysWrong)

/-- 'pelotonlaw20.AuditSees': WHATEVER THE INPUT: true; the input reads as it did. -/
def auditSeesSpec : ChangeSpec := { name := "auditSees", fn := fun _ => fun
  | [d] => { results := [.lit (.bool true)], args := [d] }
  | _ => none }
def auditSeesRow : OpenClaim := { program := "ytajbchecjbddgaadoor", sum := "03b63d6a8c66cd940ee3870c02a0bfb7ec50561a33fc4befdb4f7e56068ed0d8", func := "peloton/pelotonlaw20.AuditSees", spec := "auditSees", inPlace := ["internal/bytealg.IndexByteString", "internal/bytealg.IndexString"], unfollowed := true, recurses := true, named := ["unicode/utf8.first", "unicode/utf8.acceptRanges", "internal/bytealg.MaxLen"], plainKeys := false, apart := false, laid := [("unicode/utf8.acceptRanges", laid_unicode_utf8_acceptRanges), ("unicode/utf8.first", laid_unicode_utf8_first)] }
def AuditSeesSaid : Prop := auditSeesRow.holds Tryd.pinned (OpenSpec.ofChange auditSeesSpec)

/-- ITS FALSE NEIGHBOUR: 'it returns false'. Refute it at one input. -/
def auditSeesWrong : ChangeSpec := { name := "auditSees", fn := fun _ => fun
  | [d] => { results := [.lit (.bool false)], args := [d] }
  | _ => none }
def AuditSeesWrongFalsely : Prop := auditSeesRow.holds Tryd.pinned (OpenSpec.ofChange auditSeesWrong)

/-- 'pelotonlaw20.AuditNil': WHATEVER THE INPUT: true; the input reads as it did. -/
def auditNilSpec : ChangeSpec := { name := "auditNil", fn := fun _ => fun
  | [d1, d2] => { results := [.lit (.bool true)], args := [d1, d2] }
  | _ => none }
def auditNilRow : OpenClaim := { program := "ytajbchecjbddgaadoor", sum := "03b63d6a8c66cd940ee3870c02a0bfb7ec50561a33fc4befdb4f7e56068ed0d8", func := "peloton/pelotonlaw20.AuditNil", spec := "auditNil", inPlace := ["internal/bytealg.IndexByteString", "internal/bytealg.IndexString"], unfollowed := true, recurses := true, named := ["unicode/utf8.first", "unicode/utf8.acceptRanges", "internal/bytealg.MaxLen"], plainKeys := false, apart := false, laid := [("unicode/utf8.acceptRanges", laid_unicode_utf8_acceptRanges), ("unicode/utf8.first", laid_unicode_utf8_first)] }
def AuditNilSaid : Prop := auditNilRow.holds Tryd.pinned (OpenSpec.ofChange auditNilSpec)

/-- ITS FALSE NEIGHBOUR: 'it returns false'. Refute it at one input. -/
def auditNilWrong : ChangeSpec := { name := "auditNil", fn := fun _ => fun
  | [d1, d2] => { results := [.lit (.bool false)], args := [d1, d2] }
  | _ => none }
def AuditNilWrongFalsely : Prop := auditNilRow.holds Tryd.pinned (OpenSpec.ofChange auditNilWrong)

/- THE SECOND FORM. 'bulk': how many values and letters a reading holds, each counted each time it is reached (what is shared counts as often as it is met; a slice's spare places count too). A statement '..UptoSaid' is the law's where the arguments, and the package variables that the reading takes, are together of bulk at most 1048576: NARROWER than '..Said'. Prove '..Said' where nothing that the law and all that it calls make is longer than what came in: it says more and counts as full. Else prove '..UptoSaid'. A law counts once. -/
mutual
def uptoBulk {H : Type} : DataW H → Nat
  | .lit (.string bytes) => bytes.length + 1
  | .lit _ => 1
  | .nil => 1
  | .ptr d => uptoBulk d + 1
  | .slice elems spare => uptoBulkAll elems + uptoBulkAll spare + 1
  | .agg parts => uptoBulkAll parts + 1
  | .iface _ d => uptoBulk d + 1
  | .map entries => uptoBulkEntries entries + 1
  | .held _ => 1
def uptoBulkAll {H : Type} : List (DataW H) → Nat
  | [] => 0
  | d :: r => uptoBulk d + uptoBulkAll r
def uptoBulkEntries {H : Type} : List (Lit × DataW H) → Nat
  | [] => 0
  | x :: r => uptoBulkEntry x + uptoBulkEntries r
def uptoBulkEntry {H : Type} : Lit × DataW H → Nat
  | (.string bytes, d) => bytes.length + uptoBulk d + 1
  | (_, d) => uptoBulk d + 1
 end
def uptoSmall : (H : Type) → List (DataW H) → Bool := fun _ ds => decide (uptoBulkAll ds ≤ 1048576)
def OpenSpec.upto (s : _root_.Go.ChangeSpec) : _root_.Go.OpenSpec := { _root_.Go.OpenSpec.ofChange s with cond := some uptoSmall }

/-- 'pelotonlaw20.AuditChecks', WHERE WHAT IT READS IS OF BULK AT MOST 1048576: true; the input reads as it did. -/
def auditChecksUptoRow : OpenClaim := { program := "ytajbchecjbddgaadoor", sum := "03b63d6a8c66cd940ee3870c02a0bfb7ec50561a33fc4befdb4f7e56068ed0d8", func := "peloton/pelotonlaw20.AuditChecks", spec := "auditChecks", inPlace := ["internal/bytealg.IndexByteString", "internal/bytealg.IndexString"], unfollowed := true, recurses := true, named := ["unicode/utf8.first", "unicode/utf8.acceptRanges", "internal/bytealg.MaxLen"], plainKeys := false, apart := false, laid := [("unicode/utf8.acceptRanges", laid_unicode_utf8_acceptRanges), ("unicode/utf8.first", laid_unicode_utf8_first)], narrowed := true }
def AuditChecksUptoSaid : Prop := auditChecksUptoRow.holds Tryd.pinned (OpenSpec.upto auditChecksSpec)

/-- 'pelotonlaw20.AuditAllows', WHERE WHAT IT READS IS OF BULK AT MOST 1048576: true; the input reads as it did. -/
def auditAllowsUptoRow : OpenClaim := { program := "ytajbchecjbddgaadoor", sum := "03b63d6a8c66cd940ee3870c02a0bfb7ec50561a33fc4befdb4f7e56068ed0d8", func := "peloton/pelotonlaw20.AuditAllows", spec := "auditAllows", inPlace := ["internal/bytealg.IndexByteString", "internal/bytealg.IndexString"], unfollowed := true, recurses := true, named := ["unicode/utf8.first", "unicode/utf8.acceptRanges", "internal/bytealg.MaxLen"], plainKeys := false, apart := false, laid := [("unicode/utf8.acceptRanges", laid_unicode_utf8_acceptRanges), ("unicode/utf8.first", laid_unicode_utf8_first)], narrowed := true }
def AuditAllowsUptoSaid : Prop := auditAllowsUptoRow.holds Tryd.pinned (OpenSpec.upto auditAllowsSpec)

/-- 'pelotonlaw20.AuditOrders', WHERE WHAT IT READS IS OF BULK AT MOST 1048576: true; the input reads as it did. -/
def auditOrdersUptoRow : OpenClaim := { program := "ytajbchecjbddgaadoor", sum := "03b63d6a8c66cd940ee3870c02a0bfb7ec50561a33fc4befdb4f7e56068ed0d8", func := "peloton/pelotonlaw20.AuditOrders", spec := "auditOrders", inPlace := ["internal/bytealg.IndexByteString", "internal/bytealg.IndexString"], unfollowed := true, recurses := true, named := ["unicode/utf8.first", "unicode/utf8.acceptRanges", "internal/bytealg.MaxLen"], plainKeys := false, apart := false, laid := [("unicode/utf8.acceptRanges", laid_unicode_utf8_acceptRanges), ("unicode/utf8.first", laid_unicode_utf8_first)], narrowed := true }
def AuditOrdersUptoSaid : Prop := auditOrdersUptoRow.holds Tryd.pinned (OpenSpec.upto auditOrdersSpec)

/-- 'pelotonlaw20.AuditStays', WHERE WHAT IT READS IS OF BULK AT MOST 1048576: true; the input reads as it did. -/
def auditStaysUptoRow : OpenClaim := { program := "ytajbchecjbddgaadoor", sum := "03b63d6a8c66cd940ee3870c02a0bfb7ec50561a33fc4befdb4f7e56068ed0d8", func := "peloton/pelotonlaw20.AuditStays", spec := "auditStays", inPlace := ["internal/bytealg.IndexByteString", "internal/bytealg.IndexString"], unfollowed := true, recurses := true, named := ["unicode/utf8.first", "unicode/utf8.acceptRanges", "internal/bytealg.MaxLen"], plainKeys := false, apart := false, laid := [("unicode/utf8.acceptRanges", laid_unicode_utf8_acceptRanges), ("unicode/utf8.first", laid_unicode_utf8_first)], narrowed := true }
def AuditStaysUptoSaid : Prop := auditStaysUptoRow.holds Tryd.pinned (OpenSpec.upto auditStaysSpec)

/-- 'pelotonlaw20.AuditSees', WHERE WHAT IT READS IS OF BULK AT MOST 1048576: true; the input reads as it did. -/
def auditSeesUptoRow : OpenClaim := { program := "ytajbchecjbddgaadoor", sum := "03b63d6a8c66cd940ee3870c02a0bfb7ec50561a33fc4befdb4f7e56068ed0d8", func := "peloton/pelotonlaw20.AuditSees", spec := "auditSees", inPlace := ["internal/bytealg.IndexByteString", "internal/bytealg.IndexString"], unfollowed := true, recurses := true, named := ["unicode/utf8.first", "unicode/utf8.acceptRanges", "internal/bytealg.MaxLen"], plainKeys := false, apart := false, laid := [("unicode/utf8.acceptRanges", laid_unicode_utf8_acceptRanges), ("unicode/utf8.first", laid_unicode_utf8_first)], narrowed := true }
def AuditSeesUptoSaid : Prop := auditSeesUptoRow.holds Tryd.pinned (OpenSpec.upto auditSeesSpec)

/-- 'pelotonlaw20.AuditNil', WHERE WHAT IT READS IS OF BULK AT MOST 1048576: true; the input reads as it did. -/
def auditNilUptoRow : OpenClaim := { program := "ytajbchecjbddgaadoor", sum := "03b63d6a8c66cd940ee3870c02a0bfb7ec50561a33fc4befdb4f7e56068ed0d8", func := "peloton/pelotonlaw20.AuditNil", spec := "auditNil", inPlace := ["internal/bytealg.IndexByteString", "internal/bytealg.IndexString"], unfollowed := true, recurses := true, named := ["unicode/utf8.first", "unicode/utf8.acceptRanges", "internal/bytealg.MaxLen"], plainKeys := false, apart := false, laid := [("unicode/utf8.acceptRanges", laid_unicode_utf8_acceptRanges), ("unicode/utf8.first", laid_unicode_utf8_first)], narrowed := true }
def AuditNilUptoSaid : Prop := auditNilUptoRow.holds Tryd.pinned (OpenSpec.upto auditNilSpec)

end Rows
end Go.Proofs.YtajbchecjbddgaaDoor
