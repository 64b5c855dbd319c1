/-
  NARROWER THAN 'FOR EVERY INPUT', by the rows' own cells (each row's printed sentence says how): CodeWays: laid · CodeChanged: laid · CodeRows: laid · CodePushes: laid · CodeJumps: laid.
  DERIVED. THE GIVEN ROWS OF THIS SEAT. 5 by the template 'for every input the law returns true; each argument reads behind the call as it read before'; 0 by the template 'total and deterministic' (their statements: YtkiamiphmndmcaaDoorTotals.lean).
  GIVEN WITH THE SEED: the statements are not yours to turn. If you find one false, say at which input.
  Laid BY PROGRAM, IN A SANDBOX (cutbox-rows.mjs): the forced cells as the released guide's own fill.sh prints them over the translation 0bf9def4105416b6… (all of the seat's roots in one cut). By AI agents, Wed Nov 11 2026. No macro, syntax, notation, axiom, sorry.
-/
import Derived.Test.YtkiamiphmndmcaaDoorChecked
import GoSem.PinnedTables
import GoSem.Claim
import GoSem.ClaimJoined
import GoSem.ClaimMapViews
import Derived.JoinedTies
import Derived.KernelRfl
namespace Go.Proofs.YtkiamiphmndmcaaDoor
/- THE CELL 'sum', in the pinned program and in every row, IS THE sha256 OF THE DUMP (.gsa) THAT YtkiamiphmndmcaaDoorProg.lean LOADS. Nothing in Lean hashes anything: it is a label: what it is worth is what the hold of that sum in a sandbox is worth. -/
noncomputable def Tryd.pinned : Pinned := { name := "ytkiamiphmndmcaadoor", sum := "0bf9def4105416b6c69faafa2b898e155224e1de1954b31a413ba166096bff39", checked := Tryd.checked }
namespace Rows
def none {H : Type} : Left H := { results := [], args := [] }

/- WHAT THE LISTED PACKAGE-LEVEL VARIABLES READ AS WHEN THE CALL BEGINS. Each datum BY PROGRAM (the guide's laid-datum.mjs) off the statement by which the dump's own 'gosem.cut.vars' lays the variable. In a bare row this is a premise. The card (YtkiamiphmndmcaaDoorCards.lean) ties it to the program's text. -/
def laid_unicode_utf8_acceptRanges {H : Type} : DataW H := .agg [.agg [.lit (.int .u8 128), .lit (.int .u8 191)], .agg [.lit (.int .u8 160), .lit (.int .u8 191)], .agg [.lit (.int .u8 128), .lit (.int .u8 159)], .agg [.lit (.int .u8 144), .lit (.int .u8 191)], .agg [.lit (.int .u8 128), .lit (.int .u8 143)], .agg [.lit (.int .u8 0), .lit (.int .u8 0)], .agg [.lit (.int .u8 0), .lit (.int .u8 0)], .agg [.lit (.int .u8 0), .lit (.int .u8 0)], .agg [.lit (.int .u8 0), .lit (.int .u8 0)], .agg [.lit (.int .u8 0), .lit (.int .u8 0)], .agg [.lit (.int .u8 0), .lit (.int .u8 0)], .agg [.lit (.int .u8 0), .lit (.int .u8 0)], .agg [.lit (.int .u8 0), .lit (.int .u8 0)], .agg [.lit (.int .u8 0), .lit (.int .u8 0)], .agg [.lit (.int .u8 0), .lit (.int .u8 0)], .agg [.lit (.int .u8 0), .lit (.int .u8 0)]]
/-- One of Go's own tables, pinned by name: the form's constant. -/
def laid_unicode_utf8_first : DataW Unit := Go.Pinned.utf8First

/-- 'eddywheellaw11.CodeWays': WHATEVER THE INPUT: true; the input reads as it did. -/
def codeWaysSpec : ChangeSpec := { name := "codeWays", fn := fun _ => fun
  | [d1, d2, d3] => { results := [.lit (.bool true)], args := [d1, d2, d3] }
  | _ => none }
def codeWaysRow : OpenClaim := { program := "ytkiamiphmndmcaadoor", sum := "0bf9def4105416b6c69faafa2b898e155224e1de1954b31a413ba166096bff39", func := "eddywheel/eddywheellaw11.CodeWays", spec := "codeWays", inPlace := ["internal/bytealg.CountString", "internal/bytealg.IndexByteString", "internal/bytealg.IndexString"], named := ["unicode/utf8.first", "unicode/utf8.acceptRanges", "internal/bytealg.MaxLen"], apart := false, laid := [("unicode/utf8.acceptRanges", laid_unicode_utf8_acceptRanges), ("unicode/utf8.first", laid_unicode_utf8_first)] }
def CodeWaysSaid : Prop := codeWaysRow.holds Tryd.pinned (OpenSpec.ofChange codeWaysSpec)

/-- ITS FALSE NEIGHBOUR: 'it returns false'. Refute it at one input. -/
def codeWaysWrong : ChangeSpec := { name := "codeWays", fn := fun _ => fun
  | [d1, d2, d3] => { results := [.lit (.bool false)], args := [d1, d2, d3] }
  | _ => none }
def CodeWaysWrongFalsely : Prop := codeWaysRow.holds Tryd.pinned (OpenSpec.ofChange codeWaysWrong)

/-- 'eddywheellaw11.CodeChanged': WHATEVER THE INPUT: true; the input reads as it did. -/
def codeChangedSpec : ChangeSpec := { name := "codeChanged", fn := fun _ => fun
  | [d1, d2, d3, d4] => { results := [.lit (.bool true)], args := [d1, d2, d3, d4] }
  | _ => none }
def codeChangedRow : OpenClaim := { program := "ytkiamiphmndmcaadoor", sum := "0bf9def4105416b6c69faafa2b898e155224e1de1954b31a413ba166096bff39", func := "eddywheel/eddywheellaw11.CodeChanged", spec := "codeChanged", inPlace := ["internal/bytealg.CountString", "internal/bytealg.IndexByteString", "internal/bytealg.IndexString"], named := ["unicode/utf8.first", "unicode/utf8.acceptRanges", "internal/bytealg.MaxLen"], apart := false, laid := [("unicode/utf8.acceptRanges", laid_unicode_utf8_acceptRanges), ("unicode/utf8.first", laid_unicode_utf8_first)] }
def CodeChangedSaid : Prop := codeChangedRow.holds Tryd.pinned (OpenSpec.ofChange codeChangedSpec)

/-- ITS FALSE NEIGHBOUR: 'it returns false'. Refute it at one input. -/
def codeChangedWrong : ChangeSpec := { name := "codeChanged", fn := fun _ => fun
  | [d1, d2, d3, d4] => { results := [.lit (.bool false)], args := [d1, d2, d3, d4] }
  | _ => none }
def CodeChangedWrongFalsely : Prop := codeChangedRow.holds Tryd.pinned (OpenSpec.ofChange codeChangedWrong)

/-- 'eddywheellaw11.CodeRows': WHATEVER THE INPUT: true; the input reads as it did. -/
def codeRowsSpec : ChangeSpec := { name := "codeRows", fn := fun _ => fun
  | [d1, d2] => { results := [.lit (.bool true)], args := [d1, d2] }
  | _ => none }
def codeRowsRow : OpenClaim := { program := "ytkiamiphmndmcaadoor", sum := "0bf9def4105416b6c69faafa2b898e155224e1de1954b31a413ba166096bff39", func := "eddywheel/eddywheellaw11.CodeRows", spec := "codeRows", inPlace := ["internal/bytealg.CountString", "internal/bytealg.IndexByteString", "internal/bytealg.IndexString"], named := ["unicode/utf8.first", "unicode/utf8.acceptRanges", "internal/bytealg.MaxLen"], apart := false, laid := [("unicode/utf8.acceptRanges", laid_unicode_utf8_acceptRanges), ("unicode/utf8.first", laid_unicode_utf8_first)] }
def CodeRowsSaid : Prop := codeRowsRow.holds Tryd.pinned (OpenSpec.ofChange codeRowsSpec)

/-- ITS FALSE NEIGHBOUR: 'it returns false'. Refute it at one input. -/
def codeRowsWrong : ChangeSpec := { name := "codeRows", fn := fun _ => fun
  | [d1, d2] => { results := [.lit (.bool false)], args := [d1, d2] }
  | _ => none }
def CodeRowsWrongFalsely : Prop := codeRowsRow.holds Tryd.pinned (OpenSpec.ofChange codeRowsWrong)

/-- 'eddywheellaw11.CodePushes': WHATEVER THE INPUT: true; the input reads as it did. -/
def codePushesSpec : ChangeSpec := { name := "codePushes", fn := fun _ => fun
  | [d1, d2] => { results := [.lit (.bool true)], args := [d1, d2] }
  | _ => none }
def codePushesRow : OpenClaim := { program := "ytkiamiphmndmcaadoor", sum := "0bf9def4105416b6c69faafa2b898e155224e1de1954b31a413ba166096bff39", func := "eddywheel/eddywheellaw11.CodePushes", spec := "codePushes", inPlace := ["internal/bytealg.CountString", "internal/bytealg.IndexByteString", "internal/bytealg.IndexString"], named := ["unicode/utf8.first", "unicode/utf8.acceptRanges", "internal/bytealg.MaxLen"], apart := false, laid := [("unicode/utf8.acceptRanges", laid_unicode_utf8_acceptRanges), ("unicode/utf8.first", laid_unicode_utf8_first)] }
def CodePushesSaid : Prop := codePushesRow.holds Tryd.pinned (OpenSpec.ofChange codePushesSpec)

/-- ITS FALSE NEIGHBOUR: 'it returns false'. Refute it at one input. -/
def codePushesWrong : ChangeSpec := { name := "codePushes", fn := fun _ => fun
  | [d1, d2] => { results := [.lit (.bool false)], args := [d1, d2] }
  | _ => none }
def CodePushesWrongFalsely : Prop := codePushesRow.holds Tryd.pinned (OpenSpec.ofChange codePushesWrong)

/-- 'eddywheellaw11.CodeJumps': WHATEVER THE INPUT: true; the input reads as it did. -/
def codeJumpsSpec : ChangeSpec := { name := "codeJumps", fn := fun _ => fun
  | [d] => { results := [.lit (.bool true)], args := [d] }
  | _ => none }
def codeJumpsRow : OpenClaim := { program := "ytkiamiphmndmcaadoor", sum := "0bf9def4105416b6c69faafa2b898e155224e1de1954b31a413ba166096bff39", func := "eddywheel/eddywheellaw11.CodeJumps", spec := "codeJumps", inPlace := ["internal/bytealg.CountString", "internal/bytealg.IndexByteString", "internal/bytealg.IndexString"], named := ["unicode/utf8.first", "unicode/utf8.acceptRanges", "internal/bytealg.MaxLen"], apart := false, laid := [("unicode/utf8.acceptRanges", laid_unicode_utf8_acceptRanges), ("unicode/utf8.first", laid_unicode_utf8_first)] }
def CodeJumpsSaid : Prop := codeJumpsRow.holds Tryd.pinned (OpenSpec.ofChange codeJumpsSpec)

/-- ITS FALSE NEIGHBOUR: 'it returns false'. Refute it at one input. -/
def codeJumpsWrong : ChangeSpec := { name := "codeJumps", fn := fun _ => fun
  | [d] => { results := [.lit (.bool false)], args := [d] }
  | _ => none }
def CodeJumpsWrongFalsely : Prop := codeJumpsRow.holds Tryd.pinned (OpenSpec.ofChange codeJumpsWrong)

/- THE SECOND FORM. 'bulk': how many values and letters a reading holds, each counted each time it is reached (what is shared counts as often as it is met; a slice's spare places count too). A statement '..UptoSaid' is the law's where the arguments, and the package variables that the reading takes, are together of bulk at most 1048576: NARROWER than '..Said'. Prove '..Said' where nothing that the law and all that it calls make is longer than what came in: it says more and counts as full. Else prove '..UptoSaid'. A law counts once. -/
mutual
def uptoBulk {H : Type} : DataW H → Nat
  | .lit (.string bytes) => bytes.length + 1
  | .lit _ => 1
  | .nil => 1
  | .ptr d => uptoBulk d + 1
  | .slice elems spare => uptoBulkAll elems + uptoBulkAll spare + 1
  | .agg parts => uptoBulkAll parts + 1
  | .iface _ d => uptoBulk d + 1
  | .map entries => uptoBulkEntries entries + 1
  | .held _ => 1
def uptoBulkAll {H : Type} : List (DataW H) → Nat
  | [] => 0
  | d :: r => uptoBulk d + uptoBulkAll r
def uptoBulkEntries {H : Type} : List (Lit × DataW H) → Nat
  | [] => 0
  | x :: r => uptoBulkEntry x + uptoBulkEntries r
def uptoBulkEntry {H : Type} : Lit × DataW H → Nat
  | (.string bytes, d) => bytes.length + uptoBulk d + 1
  | (_, d) => uptoBulk d + 1
 end
def uptoSmall : (H : Type) → List (DataW H) → Bool := fun _ ds => decide (uptoBulkAll ds ≤ 1048576)
def OpenSpec.upto (s : _root_.Go.ChangeSpec) : _root_.Go.OpenSpec := { _root_.Go.OpenSpec.ofChange s with cond := some uptoSmall }

/-- 'eddywheellaw11.CodeWays', WHERE WHAT IT READS IS OF BULK AT MOST 1048576: true; the input reads as it did. -/
def codeWaysUptoRow : OpenClaim := { program := "ytkiamiphmndmcaadoor", sum := "0bf9def4105416b6c69faafa2b898e155224e1de1954b31a413ba166096bff39", func := "eddywheel/eddywheellaw11.CodeWays", spec := "codeWays", inPlace := ["internal/bytealg.CountString", "internal/bytealg.IndexByteString", "internal/bytealg.IndexString"], named := ["unicode/utf8.first", "unicode/utf8.acceptRanges", "internal/bytealg.MaxLen"], apart := false, laid := [("unicode/utf8.acceptRanges", laid_unicode_utf8_acceptRanges), ("unicode/utf8.first", laid_unicode_utf8_first)], narrowed := true }
def CodeWaysUptoSaid : Prop := codeWaysUptoRow.holds Tryd.pinned (OpenSpec.upto codeWaysSpec)

/-- 'eddywheellaw11.CodeChanged', WHERE WHAT IT READS IS OF BULK AT MOST 1048576: true; the input reads as it did. -/
def codeChangedUptoRow : OpenClaim := { program := "ytkiamiphmndmcaadoor", sum := "0bf9def4105416b6c69faafa2b898e155224e1de1954b31a413ba166096bff39", func := "eddywheel/eddywheellaw11.CodeChanged", spec := "codeChanged", inPlace := ["internal/bytealg.CountString", "internal/bytealg.IndexByteString", "internal/bytealg.IndexString"], named := ["unicode/utf8.first", "unicode/utf8.acceptRanges", "internal/bytealg.MaxLen"], apart := false, laid := [("unicode/utf8.acceptRanges", laid_unicode_utf8_acceptRanges), ("unicode/utf8.first", laid_unicode_utf8_first)], narrowed := true }
def CodeChangedUptoSaid : Prop := codeChangedUptoRow.holds Tryd.pinned (OpenSpec.upto codeChangedSpec)

/-- 'eddywheellaw11.CodeRows', WHERE WHAT IT READS IS OF BULK AT MOST 1048576: true; the input reads as it did. -/
def codeRowsUptoRow : OpenClaim := { program := "ytkiamiphmndmcaadoor", sum := "0bf9def4105416b6c69faafa2b898e155224e1de1954b31a413ba166096bff39", func := "eddywheel/eddywheellaw11.CodeRows", spec := "codeRows", inPlace := ["internal/bytealg.CountString", "internal/bytealg.IndexByteString", "internal/bytealg.IndexString"], named := ["unicode/utf8.first", "unicode/utf8.acceptRanges", "internal/bytealg.MaxLen"], apart := false, laid := [("unicode/utf8.acceptRanges", laid_unicode_utf8_acceptRanges), ("unicode/utf8.first", laid_unicode_utf8_first)], narrowed := true }
def CodeRowsUptoSaid : Prop := codeRowsUptoRow.holds Tryd.pinned (OpenSpec.upto codeRowsSpec)

/-- 'eddywheellaw11.CodePushes', WHERE WHAT IT READS IS OF BULK AT MOST 1048576: true; the input reads as it did. -/
def codePushesUptoRow : OpenClaim := { program := "ytkiamiphmndmcaadoor", sum := "0bf9def4105416b6c69faafa2b898e155224e1de1954b31a413ba166096bff39", func := "eddywheel/eddywheellaw11.CodePushes", spec := "codePushes", inPlace := ["internal/bytealg.CountString", "internal/bytealg.IndexByteString", "internal/bytealg.IndexString"], named := ["unicode/utf8.first", "unicode/utf8.acceptRanges", "internal/bytealg.MaxLen"], apart := false, laid := [("unicode/utf8.acceptRanges", laid_unicode_utf8_acceptRanges), ("unicode/utf8.first", laid_unicode_utf8_first)], narrowed := true }
def CodePushesUptoSaid : Prop := codePushesUptoRow.holds Tryd.pinned (OpenSpec.upto codePushesSpec)

/-- 'eddywheellaw11.CodeJumps', WHERE WHAT IT READS IS OF BULK AT MOST 1048576: true; the input reads as it did. -/
def codeJumpsUptoRow : OpenClaim := { program := "ytkiamiphmndmcaadoor", sum := "0bf9def4105416b6c69faafa2b898e155224e1de1954b31a413ba166096bff39", func := "eddywheel/eddywheellaw11.CodeJumps", spec := "codeJumps", inPlace := ["internal/bytealg.CountString", "internal/bytealg.IndexByteString", "internal/bytealg.IndexString"], named := ["unicode/utf8.first", "unicode/utf8.acceptRanges", "internal/bytealg.MaxLen"], apart := false, laid := [("unicode/utf8.acceptRanges", laid_unicode_utf8_acceptRanges), ("unicode/utf8.first", laid_unicode_utf8_first)], narrowed := true }
def CodeJumpsUptoSaid : Prop := codeJumpsUptoRow.holds Tryd.pinned (OpenSpec.upto codeJumpsSpec)

end Rows
end Go.Proofs.YtkiamiphmndmcaaDoor
