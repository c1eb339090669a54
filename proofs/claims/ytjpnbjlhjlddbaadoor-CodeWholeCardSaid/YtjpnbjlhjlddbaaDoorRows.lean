/-
  NARROWER THAN 'FOR EVERY INPUT', by the rows' own cells (each row's printed sentence says how): CodeBytes: laid · CodePacks: laid · CodeMay: laid · CodeReads: laid · CodeBack: laid · CodeCut: laid · CodeUnpacks: laid · CodeWhole: laid.
  DERIVED. THE GIVEN ROWS OF THIS SEAT. 8 by the template 'for every input the law returns true; each argument reads behind the call as it read before'; 0 by the template 'total and deterministic' (their statements: YtjpnbjlhjlddbaaDoorTotals.lean).
  GIVEN WITH THE SEED: the statements are not yours to turn. If you find one false, say at which input.
  Laid BY PROGRAM, IN A SANDBOX (cutbox-rows.mjs): the forced cells as the released guide's own fill.sh prints them over the translation e61459fcca8ed2ba… (all of the seat's roots in one cut). By AI agents, Wed Nov 11 2026. No macro, syntax, notation, axiom, sorry.
-/
import Derived.Test.YtjpnbjlhjlddbaaDoorChecked
import GoSem.Claim
import GoSem.ClaimJoined
import GoSem.ClaimMapViews
import Derived.JoinedTies
import Derived.KernelRfl
namespace Go.Proofs.YtjpnbjlhjlddbaaDoor
/- THE CELL 'sum', in the pinned program and in every row, IS THE sha256 OF THE DUMP (.gsa) THAT YtjpnbjlhjlddbaaDoorProg.lean LOADS. Nothing in Lean hashes anything: it is a label: what it is worth is what the hold of that sum in a sandbox is worth. -/
noncomputable def Tryd.pinned : Pinned := { name := "ytjpnbjlhjlddbaadoor", sum := "e61459fcca8ed2ba2cd0622ce13f014ec13bb6b05461c691eb8814c84931a6f8", checked := Tryd.checked }
namespace Rows
def none {H : Type} : Left H := { results := [], args := [] }

/- WHAT THE LISTED PACKAGE-LEVEL VARIABLES READ AS WHEN THE CALL BEGINS. Each datum BY PROGRAM (the guide's laid-datum.mjs) off the statement by which the dump's own 'gosem.cut.vars' lays the variable. In a bare row this is a premise. The card (YtjpnbjlhjlddbaaDoorCards.lean) ties it to the program's text. -/
def laid_bytes_ErrTooLarge {H : Type} : DataW H := .iface "*errors.errorString" (.ptr (.agg [.lit (.string [98, 121, 116, 101, 115, 46, 66, 117, 102, 102, 101, 114, 58, 32, 116, 111, 111, 32, 108, 97, 114, 103, 101])]))

/-- 'pelotonlaw02.CodeBytes': WHATEVER THE INPUT: true; the input reads as it did. -/
def codeBytesSpec : ChangeSpec := { name := "codeBytes", fn := fun _ => fun
  | [d] => { results := [.lit (.bool true)], args := [d] }
  | _ => none }
def codeBytesRow : OpenClaim := { program := "ytjpnbjlhjlddbaadoor", sum := "e61459fcca8ed2ba2cd0622ce13f014ec13bb6b05461c691eb8814c84931a6f8", func := "peloton/pelotonlaw02.CodeBytes", spec := "codeBytes", named := ["bytes.ErrTooLarge"], apart := false, laid := [("bytes.ErrTooLarge", laid_bytes_ErrTooLarge)] }
def CodeBytesSaid : Prop := codeBytesRow.holds Tryd.pinned (OpenSpec.ofChange codeBytesSpec)

/-- ITS FALSE NEIGHBOUR: 'it returns false'. Refute it at one input. -/
def codeBytesWrong : ChangeSpec := { name := "codeBytes", fn := fun _ => fun
  | [d] => { results := [.lit (.bool false)], args := [d] }
  | _ => none }
def CodeBytesWrongFalsely : Prop := codeBytesRow.holds Tryd.pinned (OpenSpec.ofChange codeBytesWrong)

/-- 'pelotonlaw02.CodePacks': WHATEVER THE INPUT: true; the input reads as it did. -/
def codePacksSpec : ChangeSpec := { name := "codePacks", fn := fun _ => fun
  | [d] => { results := [.lit (.bool true)], args := [d] }
  | _ => none }
def codePacksRow : OpenClaim := { program := "ytjpnbjlhjlddbaadoor", sum := "e61459fcca8ed2ba2cd0622ce13f014ec13bb6b05461c691eb8814c84931a6f8", func := "peloton/pelotonlaw02.CodePacks", spec := "codePacks", named := ["bytes.ErrTooLarge"], apart := false, laid := [("bytes.ErrTooLarge", laid_bytes_ErrTooLarge)] }
def CodePacksSaid : Prop := codePacksRow.holds Tryd.pinned (OpenSpec.ofChange codePacksSpec)

/-- ITS FALSE NEIGHBOUR: 'it returns false'. Refute it at one input. -/
def codePacksWrong : ChangeSpec := { name := "codePacks", fn := fun _ => fun
  | [d] => { results := [.lit (.bool false)], args := [d] }
  | _ => none }
def CodePacksWrongFalsely : Prop := codePacksRow.holds Tryd.pinned (OpenSpec.ofChange codePacksWrong)

/-- 'pelotonlaw02.CodeMay': WHATEVER THE INPUT: true; the input reads as it did. -/
def codeMaySpec : ChangeSpec := { name := "codeMay", fn := fun _ => fun
  | [d] => { results := [.lit (.bool true)], args := [d] }
  | _ => none }
def codeMayRow : OpenClaim := { program := "ytjpnbjlhjlddbaadoor", sum := "e61459fcca8ed2ba2cd0622ce13f014ec13bb6b05461c691eb8814c84931a6f8", func := "peloton/pelotonlaw02.CodeMay", spec := "codeMay", named := ["bytes.ErrTooLarge"], apart := false, laid := [("bytes.ErrTooLarge", laid_bytes_ErrTooLarge)] }
def CodeMaySaid : Prop := codeMayRow.holds Tryd.pinned (OpenSpec.ofChange codeMaySpec)

/-- ITS FALSE NEIGHBOUR: 'it returns false'. Refute it at one input. -/
def codeMayWrong : ChangeSpec := { name := "codeMay", fn := fun _ => fun
  | [d] => { results := [.lit (.bool false)], args := [d] }
  | _ => none }
def CodeMayWrongFalsely : Prop := codeMayRow.holds Tryd.pinned (OpenSpec.ofChange codeMayWrong)

/-- 'pelotonlaw02.CodeReads': WHATEVER THE INPUT: true; the input reads as it did. -/
def codeReadsSpec : ChangeSpec := { name := "codeReads", fn := fun _ => fun
  | [d] => { results := [.lit (.bool true)], args := [d] }
  | _ => none }
def codeReadsRow : OpenClaim := { program := "ytjpnbjlhjlddbaadoor", sum := "e61459fcca8ed2ba2cd0622ce13f014ec13bb6b05461c691eb8814c84931a6f8", func := "peloton/pelotonlaw02.CodeReads", spec := "codeReads", named := ["bytes.ErrTooLarge"], apart := false, laid := [("bytes.ErrTooLarge", laid_bytes_ErrTooLarge)] }
def CodeReadsSaid : Prop := codeReadsRow.holds Tryd.pinned (OpenSpec.ofChange codeReadsSpec)

/-- ITS FALSE NEIGHBOUR: 'it returns false'. Refute it at one input. -/
def codeReadsWrong : ChangeSpec := { name := "codeReads", fn := fun _ => fun
  | [d] => { results := [.lit (.bool false)], args := [d] }
  | _ => none }
def CodeReadsWrongFalsely : Prop := codeReadsRow.holds Tryd.pinned (OpenSpec.ofChange codeReadsWrong)

/-- 'pelotonlaw02.CodeBack': WHATEVER THE INPUT: true; the input reads as it did. -/
def codeBackSpec : ChangeSpec := { name := "codeBack", fn := fun _ => fun
  | [d1, d2] => { results := [.lit (.bool true)], args := [d1, d2] }
  | _ => none }
def codeBackRow : OpenClaim := { program := "ytjpnbjlhjlddbaadoor", sum := "e61459fcca8ed2ba2cd0622ce13f014ec13bb6b05461c691eb8814c84931a6f8", func := "peloton/pelotonlaw02.CodeBack", spec := "codeBack", named := ["bytes.ErrTooLarge"], apart := false, laid := [("bytes.ErrTooLarge", laid_bytes_ErrTooLarge)] }
def CodeBackSaid : Prop := codeBackRow.holds Tryd.pinned (OpenSpec.ofChange codeBackSpec)

/-- ITS FALSE NEIGHBOUR: 'it returns false'. Refute it at one input. -/
def codeBackWrong : ChangeSpec := { name := "codeBack", fn := fun _ => fun
  | [d1, d2] => { results := [.lit (.bool false)], args := [d1, d2] }
  | _ => none }
def CodeBackWrongFalsely : Prop := codeBackRow.holds Tryd.pinned (OpenSpec.ofChange codeBackWrong)

/-- 'pelotonlaw02.CodeCut': WHATEVER THE INPUT: true; the input reads as it did. -/
def codeCutSpec : ChangeSpec := { name := "codeCut", fn := fun _ => fun
  | [d1, d2, d3] => { results := [.lit (.bool true)], args := [d1, d2, d3] }
  | _ => none }
def codeCutRow : OpenClaim := { program := "ytjpnbjlhjlddbaadoor", sum := "e61459fcca8ed2ba2cd0622ce13f014ec13bb6b05461c691eb8814c84931a6f8", func := "peloton/pelotonlaw02.CodeCut", spec := "codeCut", unfollowed := true, recurses := true, named := ["bytes.ErrTooLarge"], apart := false, laid := [("bytes.ErrTooLarge", laid_bytes_ErrTooLarge)] }
def CodeCutSaid : Prop := codeCutRow.holds Tryd.pinned (OpenSpec.ofChange codeCutSpec)

/-- ITS FALSE NEIGHBOUR: 'it returns false'. Refute it at one input. -/
def codeCutWrong : ChangeSpec := { name := "codeCut", fn := fun _ => fun
  | [d1, d2, d3] => { results := [.lit (.bool false)], args := [d1, d2, d3] }
  | _ => none }
def CodeCutWrongFalsely : Prop := codeCutRow.holds Tryd.pinned (OpenSpec.ofChange codeCutWrong)

/-- 'pelotonlaw02.CodeUnpacks': WHATEVER THE INPUT: true; the input reads as it did. -/
def codeUnpacksSpec : ChangeSpec := { name := "codeUnpacks", fn := fun _ => fun
  | [d] => { results := [.lit (.bool true)], args := [d] }
  | _ => none }
def codeUnpacksRow : OpenClaim := { program := "ytjpnbjlhjlddbaadoor", sum := "e61459fcca8ed2ba2cd0622ce13f014ec13bb6b05461c691eb8814c84931a6f8", func := "peloton/pelotonlaw02.CodeUnpacks", spec := "codeUnpacks", unfollowed := true, recurses := true, named := ["bytes.ErrTooLarge"], apart := false, laid := [("bytes.ErrTooLarge", laid_bytes_ErrTooLarge)] }
def CodeUnpacksSaid : Prop := codeUnpacksRow.holds Tryd.pinned (OpenSpec.ofChange codeUnpacksSpec)

/-- ITS FALSE NEIGHBOUR: 'it returns false'. Refute it at one input. -/
def codeUnpacksWrong : ChangeSpec := { name := "codeUnpacks", fn := fun _ => fun
  | [d] => { results := [.lit (.bool false)], args := [d] }
  | _ => none }
def CodeUnpacksWrongFalsely : Prop := codeUnpacksRow.holds Tryd.pinned (OpenSpec.ofChange codeUnpacksWrong)

/-- 'pelotonlaw02.CodeWhole': WHATEVER THE INPUT: true; the input reads as it did. -/
def codeWholeSpec : ChangeSpec := { name := "codeWhole", fn := fun _ => fun
  | [d1, d2, d3] => { results := [.lit (.bool true)], args := [d1, d2, d3] }
  | _ => none }
def codeWholeRow : OpenClaim := { program := "ytjpnbjlhjlddbaadoor", sum := "e61459fcca8ed2ba2cd0622ce13f014ec13bb6b05461c691eb8814c84931a6f8", func := "peloton/pelotonlaw02.CodeWhole", spec := "codeWhole", unfollowed := true, recurses := true, named := ["bytes.ErrTooLarge"], apart := false, laid := [("bytes.ErrTooLarge", laid_bytes_ErrTooLarge)] }
def CodeWholeSaid : Prop := codeWholeRow.holds Tryd.pinned (OpenSpec.ofChange codeWholeSpec)

/-- ITS FALSE NEIGHBOUR: 'it returns false'. Refute it at one input. -/
def codeWholeWrong : ChangeSpec := { name := "codeWhole", fn := fun _ => fun
  | [d1, d2, d3] => { results := [.lit (.bool false)], args := [d1, d2, d3] }
  | _ => none }
def CodeWholeWrongFalsely : Prop := codeWholeRow.holds Tryd.pinned (OpenSpec.ofChange codeWholeWrong)

/- THE SECOND FORM. 'bulk': how many values and letters a reading holds, each counted each time it is reached (what is shared counts as often as it is met; a slice's spare places count too). A statement '..UptoSaid' is the law's where the arguments, and the package variables that the reading takes, are together of bulk at most 1048576: NARROWER than '..Said'. Prove '..Said' where nothing that the law and all that it calls make is longer than what came in: it says more and counts as full. Else prove '..UptoSaid'. A law counts once. -/
mutual
def uptoBulk {H : Type} : DataW H → Nat
  | .lit (.string bytes) => bytes.length + 1
  | .lit _ => 1
  | .nil => 1
  | .ptr d => uptoBulk d + 1
  | .slice elems spare => uptoBulkAll elems + uptoBulkAll spare + 1
  | .agg parts => uptoBulkAll parts + 1
  | .iface _ d => uptoBulk d + 1
  | .map entries => uptoBulkEntries entries + 1
  | .held _ => 1
def uptoBulkAll {H : Type} : List (DataW H) → Nat
  | [] => 0
  | d :: r => uptoBulk d + uptoBulkAll r
def uptoBulkEntries {H : Type} : List (Lit × DataW H) → Nat
  | [] => 0
  | x :: r => uptoBulkEntry x + uptoBulkEntries r
def uptoBulkEntry {H : Type} : Lit × DataW H → Nat
  | (.string bytes, d) => bytes.length + uptoBulk d + 1
  | (_, d) => uptoBulk d + 1
 end
def uptoSmall : (H : Type) → List (DataW H) → Bool := fun _ ds => decide (uptoBulkAll ds ≤ 1048576)
def OpenSpec.upto (s : _root_.Go.ChangeSpec) : _root_.Go.OpenSpec := { _root_.Go.OpenSpec.ofChange s with cond := some uptoSmall }

/-- 'pelotonlaw02.CodeBytes', WHERE WHAT IT READS IS OF BULK AT MOST 1048576: true; the input reads as it did. -/
def codeBytesUptoRow : OpenClaim := { program := "ytjpnbjlhjlddbaadoor", sum := "e61459fcca8ed2ba2cd0622ce13f014ec13bb6b05461c691eb8814c84931a6f8", func := "peloton/pelotonlaw02.CodeBytes", spec := "codeBytes", named := ["bytes.ErrTooLarge"], apart := false, laid := [("bytes.ErrTooLarge", laid_bytes_ErrTooLarge)], narrowed := true }
def CodeBytesUptoSaid : Prop := codeBytesUptoRow.holds Tryd.pinned (OpenSpec.upto codeBytesSpec)

/-- 'pelotonlaw02.CodePacks', WHERE WHAT IT READS IS OF BULK AT MOST 1048576: true; the input reads as it did. -/
def codePacksUptoRow : OpenClaim := { program := "ytjpnbjlhjlddbaadoor", sum := "e61459fcca8ed2ba2cd0622ce13f014ec13bb6b05461c691eb8814c84931a6f8", func := "peloton/pelotonlaw02.CodePacks", spec := "codePacks", named := ["bytes.ErrTooLarge"], apart := false, laid := [("bytes.ErrTooLarge", laid_bytes_ErrTooLarge)], narrowed := true }
def CodePacksUptoSaid : Prop := codePacksUptoRow.holds Tryd.pinned (OpenSpec.upto codePacksSpec)

/-- 'pelotonlaw02.CodeMay', WHERE WHAT IT READS IS OF BULK AT MOST 1048576: true; the input reads as it did. -/
def codeMayUptoRow : OpenClaim := { program := "ytjpnbjlhjlddbaadoor", sum := "e61459fcca8ed2ba2cd0622ce13f014ec13bb6b05461c691eb8814c84931a6f8", func := "peloton/pelotonlaw02.CodeMay", spec := "codeMay", named := ["bytes.ErrTooLarge"], apart := false, laid := [("bytes.ErrTooLarge", laid_bytes_ErrTooLarge)], narrowed := true }
def CodeMayUptoSaid : Prop := codeMayUptoRow.holds Tryd.pinned (OpenSpec.upto codeMaySpec)

/-- 'pelotonlaw02.CodeReads', WHERE WHAT IT READS IS OF BULK AT MOST 1048576: true; the input reads as it did. -/
def codeReadsUptoRow : OpenClaim := { program := "ytjpnbjlhjlddbaadoor", sum := "e61459fcca8ed2ba2cd0622ce13f014ec13bb6b05461c691eb8814c84931a6f8", func := "peloton/pelotonlaw02.CodeReads", spec := "codeReads", named := ["bytes.ErrTooLarge"], apart := false, laid := [("bytes.ErrTooLarge", laid_bytes_ErrTooLarge)], narrowed := true }
def CodeReadsUptoSaid : Prop := codeReadsUptoRow.holds Tryd.pinned (OpenSpec.upto codeReadsSpec)

/-- 'pelotonlaw02.CodeBack', WHERE WHAT IT READS IS OF BULK AT MOST 1048576: true; the input reads as it did. -/
def codeBackUptoRow : OpenClaim := { program := "ytjpnbjlhjlddbaadoor", sum := "e61459fcca8ed2ba2cd0622ce13f014ec13bb6b05461c691eb8814c84931a6f8", func := "peloton/pelotonlaw02.CodeBack", spec := "codeBack", named := ["bytes.ErrTooLarge"], apart := false, laid := [("bytes.ErrTooLarge", laid_bytes_ErrTooLarge)], narrowed := true }
def CodeBackUptoSaid : Prop := codeBackUptoRow.holds Tryd.pinned (OpenSpec.upto codeBackSpec)

/-- 'pelotonlaw02.CodeCut', WHERE WHAT IT READS IS OF BULK AT MOST 1048576: true; the input reads as it did. -/
def codeCutUptoRow : OpenClaim := { program := "ytjpnbjlhjlddbaadoor", sum := "e61459fcca8ed2ba2cd0622ce13f014ec13bb6b05461c691eb8814c84931a6f8", func := "peloton/pelotonlaw02.CodeCut", spec := "codeCut", unfollowed := true, recurses := true, named := ["bytes.ErrTooLarge"], apart := false, laid := [("bytes.ErrTooLarge", laid_bytes_ErrTooLarge)], narrowed := true }
def CodeCutUptoSaid : Prop := codeCutUptoRow.holds Tryd.pinned (OpenSpec.upto codeCutSpec)

/-- 'pelotonlaw02.CodeUnpacks', WHERE WHAT IT READS IS OF BULK AT MOST 1048576: true; the input reads as it did. -/
def codeUnpacksUptoRow : OpenClaim := { program := "ytjpnbjlhjlddbaadoor", sum := "e61459fcca8ed2ba2cd0622ce13f014ec13bb6b05461c691eb8814c84931a6f8", func := "peloton/pelotonlaw02.CodeUnpacks", spec := "codeUnpacks", unfollowed := true, recurses := true, named := ["bytes.ErrTooLarge"], apart := false, laid := [("bytes.ErrTooLarge", laid_bytes_ErrTooLarge)], narrowed := true }
def CodeUnpacksUptoSaid : Prop := codeUnpacksUptoRow.holds Tryd.pinned (OpenSpec.upto codeUnpacksSpec)

/-- 'pelotonlaw02.CodeWhole', WHERE WHAT IT READS IS OF BULK AT MOST 1048576: true; the input reads as it did. -/
def codeWholeUptoRow : OpenClaim := { program := "ytjpnbjlhjlddbaadoor", sum := "e61459fcca8ed2ba2cd0622ce13f014ec13bb6b05461c691eb8814c84931a6f8", func := "peloton/pelotonlaw02.CodeWhole", spec := "codeWhole", unfollowed := true, recurses := true, named := ["bytes.ErrTooLarge"], apart := false, laid := [("bytes.ErrTooLarge", laid_bytes_ErrTooLarge)], narrowed := true }
def CodeWholeUptoSaid : Prop := codeWholeUptoRow.holds Tryd.pinned (OpenSpec.upto codeWholeSpec)

end Rows
end Go.Proofs.YtjpnbjlhjlddbaaDoor
