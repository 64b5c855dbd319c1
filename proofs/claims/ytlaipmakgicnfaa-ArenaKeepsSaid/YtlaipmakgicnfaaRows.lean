/-
  No cell of these rows narrows 'for every input' (looked for: loops, veiled, ifaces, maps, wideKeys, modest, calm, conditions, laid).
  DERIVED. THE GIVEN ROWS OF THIS SEAT. 5 by the template 'for every input the law returns true; each argument reads behind the call as it read before'; 0 by the template 'total and deterministic' (their statements: YtlaipmakgicnfaaTotals.lean).
  GIVEN WITH THE SEED: the statements are not yours to turn. If you find one false, say at which input.
  Laid BY PROGRAM, IN A SANDBOX (cutbox-rows.mjs): the forced cells as the released guide's own fill.sh prints them over the translation 4eba191ff1c3fcc5… (all of the seat's roots in one cut). By AI agents, Wed Nov 11 2026. No macro, syntax, notation, axiom, sorry.
-/
import Derived.Test.YtlaipmakgicnfaaChecked
import GoSem.Claim
import GoSem.ClaimJoined
import GoSem.ClaimMapViews
import Derived.JoinedTies
import Derived.KernelRfl
namespace Go.Proofs.Ytlaipmakgicnfaa
/- THE CELL 'sum', in the pinned program and in every row, IS THE sha256 OF THE DUMP (.gsa) THAT YtlaipmakgicnfaaProg.lean LOADS. Nothing in Lean hashes anything: it is a label: what it is worth is what the hold of that sum in a sandbox is worth. -/
noncomputable def Try.pinned : Pinned := { name := "ytlaipmakgicnfaa", sum := "4eba191ff1c3fcc559fdfc53588fae4be9837402187658cdcf6024175bf68330", checked := Try.checked }
namespace Rows
def none {H : Type} : Left H := { results := [], args := [] }

/-- 'eddywheellaw02.ArenaSets': WHATEVER THE INPUT: true; the input reads as it did. -/
def arenaSetsSpec : ChangeSpec := { name := "arenaSets", fn := fun _ => fun
  | [d1, d2, d3] => { results := [.lit (.bool true)], args := [d1, d2, d3] }
  | _ => none }
def arenaSetsRow : OpenClaim := { program := "ytlaipmakgicnfaa", sum := "4eba191ff1c3fcc559fdfc53588fae4be9837402187658cdcf6024175bf68330", func := "eddywheel/eddywheellaw02.ArenaSets", spec := "arenaSets", apart := false }
def ArenaSetsSaid : Prop := arenaSetsRow.holds Try.pinned (OpenSpec.ofChange arenaSetsSpec)

/-- ITS FALSE NEIGHBOUR: 'it returns false'. Refute it at one input. -/
def arenaSetsWrong : ChangeSpec := { name := "arenaSets", fn := fun _ => fun
  | [d1, d2, d3] => { results := [.lit (.bool false)], args := [d1, d2, d3] }
  | _ => none }
def ArenaSetsWrongFalsely : Prop := arenaSetsRow.holds Try.pinned (OpenSpec.ofChange arenaSetsWrong)

/-- 'eddywheellaw02.ArenaOwn': WHATEVER THE INPUT: true; the input reads as it did. -/
def arenaOwnSpec : ChangeSpec := { name := "arenaOwn", fn := fun _ => fun
  | [d] => { results := [.lit (.bool true)], args := [d] }
  | _ => none }
def arenaOwnRow : OpenClaim := { program := "ytlaipmakgicnfaa", sum := "4eba191ff1c3fcc559fdfc53588fae4be9837402187658cdcf6024175bf68330", func := "eddywheel/eddywheellaw02.ArenaOwn", spec := "arenaOwn", apart := false }
def ArenaOwnSaid : Prop := arenaOwnRow.holds Try.pinned (OpenSpec.ofChange arenaOwnSpec)

/-- ITS FALSE NEIGHBOUR: 'it returns false'. Refute it at one input. -/
def arenaOwnWrong : ChangeSpec := { name := "arenaOwn", fn := fun _ => fun
  | [d] => { results := [.lit (.bool false)], args := [d] }
  | _ => none }
def ArenaOwnWrongFalsely : Prop := arenaOwnRow.holds Try.pinned (OpenSpec.ofChange arenaOwnWrong)

/-- 'eddywheellaw02.ArenaPlays': WHATEVER THE INPUT: true; the input reads as it did. -/
def arenaPlaysSpec : ChangeSpec := { name := "arenaPlays", fn := fun _ => fun
  | [d1, d2] => { results := [.lit (.bool true)], args := [d1, d2] }
  | _ => none }
def arenaPlaysRow : OpenClaim := { program := "ytlaipmakgicnfaa", sum := "4eba191ff1c3fcc559fdfc53588fae4be9837402187658cdcf6024175bf68330", func := "eddywheel/eddywheellaw02.ArenaPlays", spec := "arenaPlays", apart := false }
def ArenaPlaysSaid : Prop := arenaPlaysRow.holds Try.pinned (OpenSpec.ofChange arenaPlaysSpec)

/-- ITS FALSE NEIGHBOUR: 'it returns false'. Refute it at one input. -/
def arenaPlaysWrong : ChangeSpec := { name := "arenaPlays", fn := fun _ => fun
  | [d1, d2] => { results := [.lit (.bool false)], args := [d1, d2] }
  | _ => none }
def ArenaPlaysWrongFalsely : Prop := arenaPlaysRow.holds Try.pinned (OpenSpec.ofChange arenaPlaysWrong)

/-- 'eddywheellaw02.ArenaKeeps': WHATEVER THE INPUT: true; the input reads as it did. -/
def arenaKeepsSpec : ChangeSpec := { name := "arenaKeeps", fn := fun _ => fun
  | [d1, d2, d3, d4] => { results := [.lit (.bool true)], args := [d1, d2, d3, d4] }
  | _ => none }
def arenaKeepsRow : OpenClaim := { program := "ytlaipmakgicnfaa", sum := "4eba191ff1c3fcc559fdfc53588fae4be9837402187658cdcf6024175bf68330", func := "eddywheel/eddywheellaw02.ArenaKeeps", spec := "arenaKeeps", apart := false }
def ArenaKeepsSaid : Prop := arenaKeepsRow.holds Try.pinned (OpenSpec.ofChange arenaKeepsSpec)

/-- ITS FALSE NEIGHBOUR: 'it returns false'. Refute it at one input. -/
def arenaKeepsWrong : ChangeSpec := { name := "arenaKeeps", fn := fun _ => fun
  | [d1, d2, d3, d4] => { results := [.lit (.bool false)], args := [d1, d2, d3, d4] }
  | _ => none }
def ArenaKeepsWrongFalsely : Prop := arenaKeepsRow.holds Try.pinned (OpenSpec.ofChange arenaKeepsWrong)

/-- 'eddywheellaw02.ArenaRoom': WHATEVER THE INPUT: true; the input reads as it did. -/
def arenaRoomSpec : ChangeSpec := { name := "arenaRoom", fn := fun _ => fun
  | [d1, d2] => { results := [.lit (.bool true)], args := [d1, d2] }
  | _ => none }
def arenaRoomRow : OpenClaim := { program := "ytlaipmakgicnfaa", sum := "4eba191ff1c3fcc559fdfc53588fae4be9837402187658cdcf6024175bf68330", func := "eddywheel/eddywheellaw02.ArenaRoom", spec := "arenaRoom", apart := false }
def ArenaRoomSaid : Prop := arenaRoomRow.holds Try.pinned (OpenSpec.ofChange arenaRoomSpec)

/-- ITS FALSE NEIGHBOUR: 'it returns false'. Refute it at one input. -/
def arenaRoomWrong : ChangeSpec := { name := "arenaRoom", fn := fun _ => fun
  | [d1, d2] => { results := [.lit (.bool false)], args := [d1, d2] }
  | _ => none }
def ArenaRoomWrongFalsely : Prop := arenaRoomRow.holds Try.pinned (OpenSpec.ofChange arenaRoomWrong)

/- THE SECOND FORM. 'bulk': how many values and letters a reading holds, each counted each time it is reached (what is shared counts as often as it is met; a slice's spare places count too). A statement '..UptoSaid' is the law's where the arguments, and the package variables that the reading takes, are together of bulk at most 1048576: NARROWER than '..Said'. Prove '..Said' where nothing that the law and all that it calls make is longer than what came in: it says more and counts as full. Else prove '..UptoSaid'. A law counts once. -/
mutual
def uptoBulk {H : Type} : DataW H → Nat
  | .lit (.string bytes) => bytes.length + 1
  | .lit _ => 1
  | .nil => 1
  | .ptr d => uptoBulk d + 1
  | .slice elems spare => uptoBulkAll elems + uptoBulkAll spare + 1
  | .agg parts => uptoBulkAll parts + 1
  | .iface _ d => uptoBulk d + 1
  | .map entries => uptoBulkEntries entries + 1
  | .held _ => 1
def uptoBulkAll {H : Type} : List (DataW H) → Nat
  | [] => 0
  | d :: r => uptoBulk d + uptoBulkAll r
def uptoBulkEntries {H : Type} : List (Lit × DataW H) → Nat
  | [] => 0
  | x :: r => uptoBulkEntry x + uptoBulkEntries r
def uptoBulkEntry {H : Type} : Lit × DataW H → Nat
  | (.string bytes, d) => bytes.length + uptoBulk d + 1
  | (_, d) => uptoBulk d + 1
 end
def uptoSmall : (H : Type) → List (DataW H) → Bool := fun _ ds => decide (uptoBulkAll ds ≤ 1048576)
def OpenSpec.upto (s : _root_.Go.ChangeSpec) : _root_.Go.OpenSpec := { _root_.Go.OpenSpec.ofChange s with cond := some uptoSmall }

/-- 'eddywheellaw02.ArenaSets', WHERE WHAT IT READS IS OF BULK AT MOST 1048576: true; the input reads as it did. -/
def arenaSetsUptoRow : OpenClaim := { program := "ytlaipmakgicnfaa", sum := "4eba191ff1c3fcc559fdfc53588fae4be9837402187658cdcf6024175bf68330", func := "eddywheel/eddywheellaw02.ArenaSets", spec := "arenaSets", apart := false, narrowed := true }
def ArenaSetsUptoSaid : Prop := arenaSetsUptoRow.holds Try.pinned (OpenSpec.upto arenaSetsSpec)

/-- 'eddywheellaw02.ArenaOwn', WHERE WHAT IT READS IS OF BULK AT MOST 1048576: true; the input reads as it did. -/
def arenaOwnUptoRow : OpenClaim := { program := "ytlaipmakgicnfaa", sum := "4eba191ff1c3fcc559fdfc53588fae4be9837402187658cdcf6024175bf68330", func := "eddywheel/eddywheellaw02.ArenaOwn", spec := "arenaOwn", apart := false, narrowed := true }
def ArenaOwnUptoSaid : Prop := arenaOwnUptoRow.holds Try.pinned (OpenSpec.upto arenaOwnSpec)

/-- 'eddywheellaw02.ArenaPlays', WHERE WHAT IT READS IS OF BULK AT MOST 1048576: true; the input reads as it did. -/
def arenaPlaysUptoRow : OpenClaim := { program := "ytlaipmakgicnfaa", sum := "4eba191ff1c3fcc559fdfc53588fae4be9837402187658cdcf6024175bf68330", func := "eddywheel/eddywheellaw02.ArenaPlays", spec := "arenaPlays", apart := false, narrowed := true }
def ArenaPlaysUptoSaid : Prop := arenaPlaysUptoRow.holds Try.pinned (OpenSpec.upto arenaPlaysSpec)

/-- 'eddywheellaw02.ArenaKeeps', WHERE WHAT IT READS IS OF BULK AT MOST 1048576: true; the input reads as it did. -/
def arenaKeepsUptoRow : OpenClaim := { program := "ytlaipmakgicnfaa", sum := "4eba191ff1c3fcc559fdfc53588fae4be9837402187658cdcf6024175bf68330", func := "eddywheel/eddywheellaw02.ArenaKeeps", spec := "arenaKeeps", apart := false, narrowed := true }
def ArenaKeepsUptoSaid : Prop := arenaKeepsUptoRow.holds Try.pinned (OpenSpec.upto arenaKeepsSpec)

/-- 'eddywheellaw02.ArenaRoom', WHERE WHAT IT READS IS OF BULK AT MOST 1048576: true; the input reads as it did. -/
def arenaRoomUptoRow : OpenClaim := { program := "ytlaipmakgicnfaa", sum := "4eba191ff1c3fcc559fdfc53588fae4be9837402187658cdcf6024175bf68330", func := "eddywheel/eddywheellaw02.ArenaRoom", spec := "arenaRoom", apart := false, narrowed := true }
def ArenaRoomUptoSaid : Prop := arenaRoomUptoRow.holds Try.pinned (OpenSpec.upto arenaRoomSpec)

end Rows
end Go.Proofs.Ytlaipmakgicnfaa
