/-
  No cell of these rows narrows 'for every input' (looked for: loops, veiled, ifaces, maps, wideKeys, modest, calm, conditions, laid).
  DERIVED. THE GIVEN ROWS OF THIS SEAT. 6 by the template 'for every input the law returns true; each argument reads behind the call as it read before'; 0 by the template 'total and deterministic' (their statements: YtoofnpecofcjjaaTotals.lean).
  GIVEN WITH THE SEED: the statements are not yours to turn. If you find one false, say at which input.
  Laid BY PROGRAM, IN A SANDBOX (cutbox-rows.mjs): the forced cells as the released guide's own fill.sh prints them over the translation 4d9ce4a41f0de5ef… (all of the seat's roots in one cut). By AI agents, Wed Nov 11 2026. No macro, syntax, notation, axiom, sorry.
-/
import Derived.Test.YtoofnpecofcjjaaChecked
import GoSem.Claim
import GoSem.ClaimJoined
import GoSem.ClaimMapViews
import Derived.JoinedTies
import Derived.KernelRfl
namespace Go.Proofs.Ytoofnpecofcjjaa
/- THE CELL 'sum', in the pinned program and in every row, IS THE sha256 OF THE DUMP (.gsa) THAT YtoofnpecofcjjaaProg.lean LOADS. Nothing in Lean hashes anything: it is a label: what it is worth is what the hold of that sum in a sandbox is worth. -/
noncomputable def Try.pinned : Pinned := { name := "ytoofnpecofcjjaa", sum := "4d9ce4a41f0de5ef721153d637fd76ff0a1c7195609a93b14d55f060d5ac125f", checked := Try.checked }
namespace Rows
def none {H : Type} : Left H := { results := [], args := [] }

/-- 'eddywheellaw10.PrimPlays': WHATEVER THE INPUT: true; the input reads as it did. -/
def primPlaysSpec : ChangeSpec := { name := "primPlays", fn := fun _ => fun
  | [d1, d2, d3] => { results := [.lit (.bool true)], args := [d1, d2, d3] }
  | _ => none }
def primPlaysRow : OpenClaim := { program := "ytoofnpecofcjjaa", sum := "4d9ce4a41f0de5ef721153d637fd76ff0a1c7195609a93b14d55f060d5ac125f", func := "eddywheel/eddywheellaw10.PrimPlays", spec := "primPlays", unfollowed := true, recurses := true, apart := false }
def PrimPlaysSaid : Prop := primPlaysRow.holds Try.pinned (OpenSpec.ofChange primPlaysSpec)

/-- ITS FALSE NEIGHBOUR: 'it returns false'. Refute it at one input. -/
def primPlaysWrong : ChangeSpec := { name := "primPlays", fn := fun _ => fun
  | [d1, d2, d3] => { results := [.lit (.bool false)], args := [d1, d2, d3] }
  | _ => none }
def PrimPlaysWrongFalsely : Prop := primPlaysRow.holds Try.pinned (OpenSpec.ofChange primPlaysWrong)

/-- 'eddywheellaw10.PrimPairs': WHATEVER THE INPUT: true; the input reads as it did. -/
def primPairsSpec : ChangeSpec := { name := "primPairs", fn := fun _ => fun
  | [d] => { results := [.lit (.bool true)], args := [d] }
  | _ => none }
def primPairsRow : OpenClaim := { program := "ytoofnpecofcjjaa", sum := "4d9ce4a41f0de5ef721153d637fd76ff0a1c7195609a93b14d55f060d5ac125f", func := "eddywheel/eddywheellaw10.PrimPairs", spec := "primPairs", unfollowed := true, recurses := true, apart := false }
def PrimPairsSaid : Prop := primPairsRow.holds Try.pinned (OpenSpec.ofChange primPairsSpec)

/-- ITS FALSE NEIGHBOUR: 'it returns false'. Refute it at one input. -/
def primPairsWrong : ChangeSpec := { name := "primPairs", fn := fun _ => fun
  | [d] => { results := [.lit (.bool false)], args := [d] }
  | _ => none }
def PrimPairsWrongFalsely : Prop := primPairsRow.holds Try.pinned (OpenSpec.ofChange primPairsWrong)

/-- 'eddywheellaw10.PrimTells': WHATEVER THE INPUT: true; the input reads as it did. -/
def primTellsSpec : ChangeSpec := { name := "primTells", fn := fun _ => fun
  | [d1, d2] => { results := [.lit (.bool true)], args := [d1, d2] }
  | _ => none }
def primTellsRow : OpenClaim := { program := "ytoofnpecofcjjaa", sum := "4d9ce4a41f0de5ef721153d637fd76ff0a1c7195609a93b14d55f060d5ac125f", func := "eddywheel/eddywheellaw10.PrimTells", spec := "primTells", unfollowed := true, recurses := true, apart := false }
def PrimTellsSaid : Prop := primTellsRow.holds Try.pinned (OpenSpec.ofChange primTellsSpec)

/-- ITS FALSE NEIGHBOUR: 'it returns false'. Refute it at one input. -/
def primTellsWrong : ChangeSpec := { name := "primTells", fn := fun _ => fun
  | [d1, d2] => { results := [.lit (.bool false)], args := [d1, d2] }
  | _ => none }
def PrimTellsWrongFalsely : Prop := primTellsRow.holds Try.pinned (OpenSpec.ofChange primTellsWrong)

/-- 'eddywheellaw10.PrimRoom': WHATEVER THE INPUT: true; the input reads as it did. -/
def primRoomSpec : ChangeSpec := { name := "primRoom", fn := fun _ => fun
  | [d1, d2, d3] => { results := [.lit (.bool true)], args := [d1, d2, d3] }
  | _ => none }
def primRoomRow : OpenClaim := { program := "ytoofnpecofcjjaa", sum := "4d9ce4a41f0de5ef721153d637fd76ff0a1c7195609a93b14d55f060d5ac125f", func := "eddywheel/eddywheellaw10.PrimRoom", spec := "primRoom", unfollowed := true, recurses := true, apart := false }
def PrimRoomSaid : Prop := primRoomRow.holds Try.pinned (OpenSpec.ofChange primRoomSpec)

/-- ITS FALSE NEIGHBOUR: 'it returns false'. Refute it at one input. -/
def primRoomWrong : ChangeSpec := { name := "primRoom", fn := fun _ => fun
  | [d1, d2, d3] => { results := [.lit (.bool false)], args := [d1, d2, d3] }
  | _ => none }
def PrimRoomWrongFalsely : Prop := primRoomRow.holds Try.pinned (OpenSpec.ofChange primRoomWrong)

/-- 'eddywheellaw10.PrimSums': WHATEVER THE INPUT: true; the input reads as it did. -/
def primSumsSpec : ChangeSpec := { name := "primSums", fn := fun _ => fun
  | [d1, d2, d3] => { results := [.lit (.bool true)], args := [d1, d2, d3] }
  | _ => none }
def primSumsRow : OpenClaim := { program := "ytoofnpecofcjjaa", sum := "4d9ce4a41f0de5ef721153d637fd76ff0a1c7195609a93b14d55f060d5ac125f", func := "eddywheel/eddywheellaw10.PrimSums", spec := "primSums", unfollowed := true, recurses := true, apart := false }
def PrimSumsSaid : Prop := primSumsRow.holds Try.pinned (OpenSpec.ofChange primSumsSpec)

/-- ITS FALSE NEIGHBOUR: 'it returns false'. Refute it at one input. -/
def primSumsWrong : ChangeSpec := { name := "primSums", fn := fun _ => fun
  | [d1, d2, d3] => { results := [.lit (.bool false)], args := [d1, d2, d3] }
  | _ => none }
def PrimSumsWrongFalsely : Prop := primSumsRow.holds Try.pinned (OpenSpec.ofChange primSumsWrong)

/-- 'eddywheellaw10.PrimShares': WHATEVER THE INPUT: true; the input reads as it did. -/
def primSharesSpec : ChangeSpec := { name := "primShares", fn := fun _ => fun
  | [d1, d2] => { results := [.lit (.bool true)], args := [d1, d2] }
  | _ => none }
def primSharesRow : OpenClaim := { program := "ytoofnpecofcjjaa", sum := "4d9ce4a41f0de5ef721153d637fd76ff0a1c7195609a93b14d55f060d5ac125f", func := "eddywheel/eddywheellaw10.PrimShares", spec := "primShares", unfollowed := true, recurses := true, apart := false }
def PrimSharesSaid : Prop := primSharesRow.holds Try.pinned (OpenSpec.ofChange primSharesSpec)

/-- ITS FALSE NEIGHBOUR: 'it returns false'. Refute it at one input. -/
def primSharesWrong : ChangeSpec := { name := "primShares", fn := fun _ => fun
  | [d1, d2] => { results := [.lit (.bool false)], args := [d1, d2] }
  | _ => none }
def PrimSharesWrongFalsely : Prop := primSharesRow.holds Try.pinned (OpenSpec.ofChange primSharesWrong)

/- THE SECOND FORM. 'bulk': how many values and letters a reading holds, each counted each time it is reached (what is shared counts as often as it is met; a slice's spare places count too). A statement '..UptoSaid' is the law's where the arguments, and the package variables that the reading takes, are together of bulk at most 1048576: NARROWER than '..Said'. Prove '..Said' where nothing that the law and all that it calls make is longer than what came in: it says more and counts as full. Else prove '..UptoSaid'. A law counts once. -/
mutual
def uptoBulk {H : Type} : DataW H → Nat
  | .lit (.string bytes) => bytes.length + 1
  | .lit _ => 1
  | .nil => 1
  | .ptr d => uptoBulk d + 1
  | .slice elems spare => uptoBulkAll elems + uptoBulkAll spare + 1
  | .agg parts => uptoBulkAll parts + 1
  | .iface _ d => uptoBulk d + 1
  | .map entries => uptoBulkEntries entries + 1
  | .held _ => 1
def uptoBulkAll {H : Type} : List (DataW H) → Nat
  | [] => 0
  | d :: r => uptoBulk d + uptoBulkAll r
def uptoBulkEntries {H : Type} : List (Lit × DataW H) → Nat
  | [] => 0
  | x :: r => uptoBulkEntry x + uptoBulkEntries r
def uptoBulkEntry {H : Type} : Lit × DataW H → Nat
  | (.string bytes, d) => bytes.length + uptoBulk d + 1
  | (_, d) => uptoBulk d + 1
 end
def uptoSmall : (H : Type) → List (DataW H) → Bool := fun _ ds => decide (uptoBulkAll ds ≤ 1048576)
def OpenSpec.upto (s : _root_.Go.ChangeSpec) : _root_.Go.OpenSpec := { _root_.Go.OpenSpec.ofChange s with cond := some uptoSmall }

/-- 'eddywheellaw10.PrimPlays', WHERE WHAT IT READS IS OF BULK AT MOST 1048576: true; the input reads as it did. -/
def primPlaysUptoRow : OpenClaim := { program := "ytoofnpecofcjjaa", sum := "4d9ce4a41f0de5ef721153d637fd76ff0a1c7195609a93b14d55f060d5ac125f", func := "eddywheel/eddywheellaw10.PrimPlays", spec := "primPlays", unfollowed := true, recurses := true, apart := false, narrowed := true }
def PrimPlaysUptoSaid : Prop := primPlaysUptoRow.holds Try.pinned (OpenSpec.upto primPlaysSpec)

/-- 'eddywheellaw10.PrimPairs', WHERE WHAT IT READS IS OF BULK AT MOST 1048576: true; the input reads as it did. -/
def primPairsUptoRow : OpenClaim := { program := "ytoofnpecofcjjaa", sum := "4d9ce4a41f0de5ef721153d637fd76ff0a1c7195609a93b14d55f060d5ac125f", func := "eddywheel/eddywheellaw10.PrimPairs", spec := "primPairs", unfollowed := true, recurses := true, apart := false, narrowed := true }
def PrimPairsUptoSaid : Prop := primPairsUptoRow.holds Try.pinned (OpenSpec.upto primPairsSpec)

/-- 'eddywheellaw10.PrimTells', WHERE WHAT IT READS IS OF BULK AT MOST 1048576: true; the input reads as it did. -/
def primTellsUptoRow : OpenClaim := { program := "ytoofnpecofcjjaa", sum := "4d9ce4a41f0de5ef721153d637fd76ff0a1c7195609a93b14d55f060d5ac125f", func := "eddywheel/eddywheellaw10.PrimTells", spec := "primTells", unfollowed := true, recurses := true, apart := false, narrowed := true }
def PrimTellsUptoSaid : Prop := primTellsUptoRow.holds Try.pinned (OpenSpec.upto primTellsSpec)

/-- 'eddywheellaw10.PrimRoom', WHERE WHAT IT READS IS OF BULK AT MOST 1048576: true; the input reads as it did. -/
def primRoomUptoRow : OpenClaim := { program := "ytoofnpecofcjjaa", sum := "4d9ce4a41f0de5ef721153d637fd76ff0a1c7195609a93b14d55f060d5ac125f", func := "eddywheel/eddywheellaw10.PrimRoom", spec := "primRoom", unfollowed := true, recurses := true, apart := false, narrowed := true }
def PrimRoomUptoSaid : Prop := primRoomUptoRow.holds Try.pinned (OpenSpec.upto primRoomSpec)

/-- 'eddywheellaw10.PrimSums', WHERE WHAT IT READS IS OF BULK AT MOST 1048576: true; the input reads as it did. -/
def primSumsUptoRow : OpenClaim := { program := "ytoofnpecofcjjaa", sum := "4d9ce4a41f0de5ef721153d637fd76ff0a1c7195609a93b14d55f060d5ac125f", func := "eddywheel/eddywheellaw10.PrimSums", spec := "primSums", unfollowed := true, recurses := true, apart := false, narrowed := true }
def PrimSumsUptoSaid : Prop := primSumsUptoRow.holds Try.pinned (OpenSpec.upto primSumsSpec)

/-- 'eddywheellaw10.PrimShares', WHERE WHAT IT READS IS OF BULK AT MOST 1048576: true; the input reads as it did. -/
def primSharesUptoRow : OpenClaim := { program := "ytoofnpecofcjjaa", sum := "4d9ce4a41f0de5ef721153d637fd76ff0a1c7195609a93b14d55f060d5ac125f", func := "eddywheel/eddywheellaw10.PrimShares", spec := "primShares", unfollowed := true, recurses := true, apart := false, narrowed := true }
def PrimSharesUptoSaid : Prop := primSharesUptoRow.holds Try.pinned (OpenSpec.upto primSharesSpec)

end Rows
end Go.Proofs.Ytoofnpecofcjjaa
