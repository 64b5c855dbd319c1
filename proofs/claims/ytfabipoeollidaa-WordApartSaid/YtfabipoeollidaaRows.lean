/-
  No cell of these rows narrows 'for every input' (looked for: loops, veiled, ifaces, maps, wideKeys, modest, calm, conditions, laid).
  DERIVED. THE GIVEN ROWS OF THIS SEAT. 8 by the template 'for every input the law returns true; each argument reads behind the call as it read before'; 0 by the template 'total and deterministic' (their statements: YtfabipoeollidaaTotals.lean).
  GIVEN WITH THE SEED: the statements are not yours to turn. If you find one false, say at which input.
  Laid BY PROGRAM, IN A SANDBOX (cutbox-rows.mjs): the forced cells as the released guide's own fill.sh prints them over the translation aac4ed97bf8aeae6… (all of the seat's roots in one cut). By AI agents, Wed Nov 11 2026. No macro, syntax, notation, axiom, sorry.
-/
import Derived.Test.YtfabipoeollidaaChecked
import GoSem.Claim
import GoSem.ClaimJoined
import GoSem.ClaimMapViews
import Derived.JoinedTies
import Derived.KernelRfl
namespace Go.Proofs.Ytfabipoeollidaa
/- THE CELL 'sum', in the pinned program and in every row, IS THE sha256 OF THE DUMP (.gsa) THAT YtfabipoeollidaaProg.lean LOADS. Nothing in Lean hashes anything: it is a label: what it is worth is what the hold of that sum in a sandbox is worth. -/
noncomputable def Try.pinned : Pinned := { name := "ytfabipoeollidaa", sum := "aac4ed97bf8aeae6e970cc6945bff9d40867fc07e275cf65e60b0f4e89d4a6a9", checked := Try.checked }
namespace Rows
def none {H : Type} : Left H := { results := [], args := [] }

/-- 'eddywheellaw01.WordDoes': WHATEVER THE INPUT: true; the input reads as it did. -/
def wordDoesSpec : ChangeSpec := { name := "wordDoes", fn := fun _ => fun
  | [d1, d2, d3] => { results := [.lit (.bool true)], args := [d1, d2, d3] }
  | _ => none }
def wordDoesRow : OpenClaim := { program := "ytfabipoeollidaa", sum := "aac4ed97bf8aeae6e970cc6945bff9d40867fc07e275cf65e60b0f4e89d4a6a9", func := "eddywheel/eddywheellaw01.WordDoes", spec := "wordDoes", apart := false }
def WordDoesSaid : Prop := wordDoesRow.holds Try.pinned (OpenSpec.ofChange wordDoesSpec)

/-- ITS FALSE NEIGHBOUR: 'it returns false'. Refute it at one input. -/
def wordDoesWrong : ChangeSpec := { name := "wordDoes", fn := fun _ => fun
  | [d1, d2, d3] => { results := [.lit (.bool false)], args := [d1, d2, d3] }
  | _ => none }
def WordDoesWrongFalsely : Prop := wordDoesRow.holds Try.pinned (OpenSpec.ofChange wordDoesWrong)

/-- 'eddywheellaw01.WordRing': WHATEVER THE INPUT: true; the input reads as it did. -/
def wordRingSpec : ChangeSpec := { name := "wordRing", fn := fun _ => fun
  | [d1, d2] => { results := [.lit (.bool true)], args := [d1, d2] }
  | _ => none }
def wordRingRow : OpenClaim := { program := "ytfabipoeollidaa", sum := "aac4ed97bf8aeae6e970cc6945bff9d40867fc07e275cf65e60b0f4e89d4a6a9", func := "eddywheel/eddywheellaw01.WordRing", spec := "wordRing", apart := false }
def WordRingSaid : Prop := wordRingRow.holds Try.pinned (OpenSpec.ofChange wordRingSpec)

/-- ITS FALSE NEIGHBOUR: 'it returns false'. Refute it at one input. -/
def wordRingWrong : ChangeSpec := { name := "wordRing", fn := fun _ => fun
  | [d1, d2] => { results := [.lit (.bool false)], args := [d1, d2] }
  | _ => none }
def WordRingWrongFalsely : Prop := wordRingRow.holds Try.pinned (OpenSpec.ofChange wordRingWrong)

/-- 'eddywheellaw01.WordOrders': WHATEVER THE INPUT: true; the input reads as it did. -/
def wordOrdersSpec : ChangeSpec := { name := "wordOrders", fn := fun _ => fun
  | [d1, d2, d3] => { results := [.lit (.bool true)], args := [d1, d2, d3] }
  | _ => none }
def wordOrdersRow : OpenClaim := { program := "ytfabipoeollidaa", sum := "aac4ed97bf8aeae6e970cc6945bff9d40867fc07e275cf65e60b0f4e89d4a6a9", func := "eddywheel/eddywheellaw01.WordOrders", spec := "wordOrders", apart := false }
def WordOrdersSaid : Prop := wordOrdersRow.holds Try.pinned (OpenSpec.ofChange wordOrdersSpec)

/-- ITS FALSE NEIGHBOUR: 'it returns false'. Refute it at one input. -/
def wordOrdersWrong : ChangeSpec := { name := "wordOrders", fn := fun _ => fun
  | [d1, d2, d3] => { results := [.lit (.bool false)], args := [d1, d2, d3] }
  | _ => none }
def WordOrdersWrongFalsely : Prop := wordOrdersRow.holds Try.pinned (OpenSpec.ofChange wordOrdersWrong)

/-- 'eddywheellaw01.WordSigns': WHATEVER THE INPUT: true; the input reads as it did. -/
def wordSignsSpec : ChangeSpec := { name := "wordSigns", fn := fun _ => fun
  | [d1, d2] => { results := [.lit (.bool true)], args := [d1, d2] }
  | _ => none }
def wordSignsRow : OpenClaim := { program := "ytfabipoeollidaa", sum := "aac4ed97bf8aeae6e970cc6945bff9d40867fc07e275cf65e60b0f4e89d4a6a9", func := "eddywheel/eddywheellaw01.WordSigns", spec := "wordSigns", unfollowed := true, recurses := true, apart := false }
def WordSignsSaid : Prop := wordSignsRow.holds Try.pinned (OpenSpec.ofChange wordSignsSpec)

/-- ITS FALSE NEIGHBOUR: 'it returns false'. Refute it at one input. -/
def wordSignsWrong : ChangeSpec := { name := "wordSigns", fn := fun _ => fun
  | [d1, d2] => { results := [.lit (.bool false)], args := [d1, d2] }
  | _ => none }
def WordSignsWrongFalsely : Prop := wordSignsRow.holds Try.pinned (OpenSpec.ofChange wordSignsWrong)

/-- 'eddywheellaw01.WordMakes': WHATEVER THE INPUT: true; the input reads as it did. -/
def wordMakesSpec : ChangeSpec := { name := "wordMakes", fn := fun _ => fun
  | [d1, d2] => { results := [.lit (.bool true)], args := [d1, d2] }
  | _ => none }
def wordMakesRow : OpenClaim := { program := "ytfabipoeollidaa", sum := "aac4ed97bf8aeae6e970cc6945bff9d40867fc07e275cf65e60b0f4e89d4a6a9", func := "eddywheel/eddywheellaw01.WordMakes", spec := "wordMakes", apart := false }
def WordMakesSaid : Prop := wordMakesRow.holds Try.pinned (OpenSpec.ofChange wordMakesSpec)

/-- ITS FALSE NEIGHBOUR: 'it returns false'. Refute it at one input. -/
def wordMakesWrong : ChangeSpec := { name := "wordMakes", fn := fun _ => fun
  | [d1, d2] => { results := [.lit (.bool false)], args := [d1, d2] }
  | _ => none }
def WordMakesWrongFalsely : Prop := wordMakesRow.holds Try.pinned (OpenSpec.ofChange wordMakesWrong)

/-- 'eddywheellaw01.WordTells': WHATEVER THE INPUT: true; the input reads as it did. -/
def wordTellsSpec : ChangeSpec := { name := "wordTells", fn := fun _ => fun
  | [d1, d2] => { results := [.lit (.bool true)], args := [d1, d2] }
  | _ => none }
def wordTellsRow : OpenClaim := { program := "ytfabipoeollidaa", sum := "aac4ed97bf8aeae6e970cc6945bff9d40867fc07e275cf65e60b0f4e89d4a6a9", func := "eddywheel/eddywheellaw01.WordTells", spec := "wordTells", apart := false }
def WordTellsSaid : Prop := wordTellsRow.holds Try.pinned (OpenSpec.ofChange wordTellsSpec)

/-- ITS FALSE NEIGHBOUR: 'it returns false'. Refute it at one input. -/
def wordTellsWrong : ChangeSpec := { name := "wordTells", fn := fun _ => fun
  | [d1, d2] => { results := [.lit (.bool false)], args := [d1, d2] }
  | _ => none }
def WordTellsWrongFalsely : Prop := wordTellsRow.holds Try.pinned (OpenSpec.ofChange wordTellsWrong)

/-- 'eddywheellaw01.WordOne': WHATEVER THE INPUT: true; the input reads as it did. -/
def wordOneSpec : ChangeSpec := { name := "wordOne", fn := fun _ => fun
  | [d1, d2] => { results := [.lit (.bool true)], args := [d1, d2] }
  | _ => none }
def wordOneRow : OpenClaim := { program := "ytfabipoeollidaa", sum := "aac4ed97bf8aeae6e970cc6945bff9d40867fc07e275cf65e60b0f4e89d4a6a9", func := "eddywheel/eddywheellaw01.WordOne", spec := "wordOne", apart := false }
def WordOneSaid : Prop := wordOneRow.holds Try.pinned (OpenSpec.ofChange wordOneSpec)

/-- ITS FALSE NEIGHBOUR: 'it returns false'. Refute it at one input. -/
def wordOneWrong : ChangeSpec := { name := "wordOne", fn := fun _ => fun
  | [d1, d2] => { results := [.lit (.bool false)], args := [d1, d2] }
  | _ => none }
def WordOneWrongFalsely : Prop := wordOneRow.holds Try.pinned (OpenSpec.ofChange wordOneWrong)

/-- 'eddywheellaw01.WordApart': WHATEVER THE INPUT: true; the input reads as it did. -/
def wordApartSpec : ChangeSpec := { name := "wordApart", fn := fun _ => fun
  | [d1, d2] => { results := [.lit (.bool true)], args := [d1, d2] }
  | _ => none }
def wordApartRow : OpenClaim := { program := "ytfabipoeollidaa", sum := "aac4ed97bf8aeae6e970cc6945bff9d40867fc07e275cf65e60b0f4e89d4a6a9", func := "eddywheel/eddywheellaw01.WordApart", spec := "wordApart", apart := false }
def WordApartSaid : Prop := wordApartRow.holds Try.pinned (OpenSpec.ofChange wordApartSpec)

/-- ITS FALSE NEIGHBOUR: 'it returns false'. Refute it at one input. -/
def wordApartWrong : ChangeSpec := { name := "wordApart", fn := fun _ => fun
  | [d1, d2] => { results := [.lit (.bool false)], args := [d1, d2] }
  | _ => none }
def WordApartWrongFalsely : Prop := wordApartRow.holds Try.pinned (OpenSpec.ofChange wordApartWrong)

/- THE SECOND FORM. 'bulk': how many values and letters a reading holds, each counted each time it is reached (what is shared counts as often as it is met; a slice's spare places count too). A statement '..UptoSaid' is the law's where the arguments, and the package variables that the reading takes, are together of bulk at most 1048576: NARROWER than '..Said'. Prove '..Said' where nothing that the law and all that it calls make is longer than what came in: it says more and counts as full. Else prove '..UptoSaid'. A law counts once. -/
mutual
def uptoBulk {H : Type} : DataW H → Nat
  | .lit (.string bytes) => bytes.length + 1
  | .lit _ => 1
  | .nil => 1
  | .ptr d => uptoBulk d + 1
  | .slice elems spare => uptoBulkAll elems + uptoBulkAll spare + 1
  | .agg parts => uptoBulkAll parts + 1
  | .iface _ d => uptoBulk d + 1
  | .map entries => uptoBulkEntries entries + 1
  | .held _ => 1
def uptoBulkAll {H : Type} : List (DataW H) → Nat
  | [] => 0
  | d :: r => uptoBulk d + uptoBulkAll r
def uptoBulkEntries {H : Type} : List (Lit × DataW H) → Nat
  | [] => 0
  | x :: r => uptoBulkEntry x + uptoBulkEntries r
def uptoBulkEntry {H : Type} : Lit × DataW H → Nat
  | (.string bytes, d) => bytes.length + uptoBulk d + 1
  | (_, d) => uptoBulk d + 1
 end
def uptoSmall : (H : Type) → List (DataW H) → Bool := fun _ ds => decide (uptoBulkAll ds ≤ 1048576)
def OpenSpec.upto (s : _root_.Go.ChangeSpec) : _root_.Go.OpenSpec := { _root_.Go.OpenSpec.ofChange s with cond := some uptoSmall }

/-- 'eddywheellaw01.WordDoes', WHERE WHAT IT READS IS OF BULK AT MOST 1048576: true; the input reads as it did. -/
def wordDoesUptoRow : OpenClaim := { program := "ytfabipoeollidaa", sum := "aac4ed97bf8aeae6e970cc6945bff9d40867fc07e275cf65e60b0f4e89d4a6a9", func := "eddywheel/eddywheellaw01.WordDoes", spec := "wordDoes", apart := false, narrowed := true }
def WordDoesUptoSaid : Prop := wordDoesUptoRow.holds Try.pinned (OpenSpec.upto wordDoesSpec)

/-- 'eddywheellaw01.WordRing', WHERE WHAT IT READS IS OF BULK AT MOST 1048576: true; the input reads as it did. -/
def wordRingUptoRow : OpenClaim := { program := "ytfabipoeollidaa", sum := "aac4ed97bf8aeae6e970cc6945bff9d40867fc07e275cf65e60b0f4e89d4a6a9", func := "eddywheel/eddywheellaw01.WordRing", spec := "wordRing", apart := false, narrowed := true }
def WordRingUptoSaid : Prop := wordRingUptoRow.holds Try.pinned (OpenSpec.upto wordRingSpec)

/-- 'eddywheellaw01.WordOrders', WHERE WHAT IT READS IS OF BULK AT MOST 1048576: true; the input reads as it did. -/
def wordOrdersUptoRow : OpenClaim := { program := "ytfabipoeollidaa", sum := "aac4ed97bf8aeae6e970cc6945bff9d40867fc07e275cf65e60b0f4e89d4a6a9", func := "eddywheel/eddywheellaw01.WordOrders", spec := "wordOrders", apart := false, narrowed := true }
def WordOrdersUptoSaid : Prop := wordOrdersUptoRow.holds Try.pinned (OpenSpec.upto wordOrdersSpec)

/-- 'eddywheellaw01.WordSigns', WHERE WHAT IT READS IS OF BULK AT MOST 1048576: true; the input reads as it did. -/
def wordSignsUptoRow : OpenClaim := { program := "ytfabipoeollidaa", sum := "aac4ed97bf8aeae6e970cc6945bff9d40867fc07e275cf65e60b0f4e89d4a6a9", func := "eddywheel/eddywheellaw01.WordSigns", spec := "wordSigns", unfollowed := true, recurses := true, apart := false, narrowed := true }
def WordSignsUptoSaid : Prop := wordSignsUptoRow.holds Try.pinned (OpenSpec.upto wordSignsSpec)

/-- 'eddywheellaw01.WordMakes', WHERE WHAT IT READS IS OF BULK AT MOST 1048576: true; the input reads as it did. -/
def wordMakesUptoRow : OpenClaim := { program := "ytfabipoeollidaa", sum := "aac4ed97bf8aeae6e970cc6945bff9d40867fc07e275cf65e60b0f4e89d4a6a9", func := "eddywheel/eddywheellaw01.WordMakes", spec := "wordMakes", apart := false, narrowed := true }
def WordMakesUptoSaid : Prop := wordMakesUptoRow.holds Try.pinned (OpenSpec.upto wordMakesSpec)

/-- 'eddywheellaw01.WordTells', WHERE WHAT IT READS IS OF BULK AT MOST 1048576: true; the input reads as it did. -/
def wordTellsUptoRow : OpenClaim := { program := "ytfabipoeollidaa", sum := "aac4ed97bf8aeae6e970cc6945bff9d40867fc07e275cf65e60b0f4e89d4a6a9", func := "eddywheel/eddywheellaw01.WordTells", spec := "wordTells", apart := false, narrowed := true }
def WordTellsUptoSaid : Prop := wordTellsUptoRow.holds Try.pinned (OpenSpec.upto wordTellsSpec)

/-- 'eddywheellaw01.WordOne', WHERE WHAT IT READS IS OF BULK AT MOST 1048576: true; the input reads as it did. -/
def wordOneUptoRow : OpenClaim := { program := "ytfabipoeollidaa", sum := "aac4ed97bf8aeae6e970cc6945bff9d40867fc07e275cf65e60b0f4e89d4a6a9", func := "eddywheel/eddywheellaw01.WordOne", spec := "wordOne", apart := false, narrowed := true }
def WordOneUptoSaid : Prop := wordOneUptoRow.holds Try.pinned (OpenSpec.upto wordOneSpec)

/-- 'eddywheellaw01.WordApart', WHERE WHAT IT READS IS OF BULK AT MOST 1048576: true; the input reads as it did. -/
def wordApartUptoRow : OpenClaim := { program := "ytfabipoeollidaa", sum := "aac4ed97bf8aeae6e970cc6945bff9d40867fc07e275cf65e60b0f4e89d4a6a9", func := "eddywheel/eddywheellaw01.WordApart", spec := "wordApart", apart := false, narrowed := true }
def WordApartUptoSaid : Prop := wordApartUptoRow.holds Try.pinned (OpenSpec.upto wordApartSpec)

end Rows
end Go.Proofs.Ytfabipoeollidaa
