/-
  DERIVED. GIVEN WITH THE SEED: THE CARDS: each row of YtkgfnkilanpaoaaDoorRows.lean that lists a variable, with what it lists TIED to the program's text (the seventh form; the later family's looks); each row that meets fmt, with fmt's text TOLD by the authors' own Lean function (tested against real Go, not proved from fmt's source: count such statements apart). THE CARD IS WHAT COUNTS. Prove the row's statement (the work); the ties are given (YtkgfnkilanpaoaaDoorTie.lean); close each card by the builder's one call (the guide's Derived/Test/ToyasCard.lean, 'card_holds'). Laid BY PROGRAM, IN A SANDBOX (cutbox-door.mjs). By AI agents, Wed Nov 11 2026. No macro, syntax, notation, axiom, sorry.
-/
import Derived.Test.YtkgfnkilanpaoaaDoorRows
import GoSem.ClaimSeven
namespace Go.Proofs.YtkgfnkilanpaoaaDoor
namespace Rows

/-- THE TIED CARD OF 'eddywheellaw05.LexPlays'. -/
def lexPlaysCard : Claim7 := { stood := { row := lexPlaysRow, standIns := [], harness := (true, "f1af67f734ad7b2863549feafead238d5fc9aba364f4b5b5b9979555ec5aaeb9"), looks := true }, kinds := [], alts := [], laidByText := true, laidKinds := [.data, .data, .data, .data, .sentinel, .sentinel, .pinned], laidTests := true, laidLooks := .later }
def LexPlaysCardSaid : Prop := Claim7.holds Tryd.pinned (.plain (OpenSpec.ofChange lexPlaysSpec)) lexPlaysCard

/-- THE TIED CARD OF 'eddywheellaw05.LexBack'. -/
def lexBackCard : Claim7 := { stood := { row := lexBackRow, standIns := [], harness := (true, "f1af67f734ad7b2863549feafead238d5fc9aba364f4b5b5b9979555ec5aaeb9"), looks := true }, kinds := [], alts := [], laidByText := true, laidKinds := [.data, .data, .data, .data, .sentinel, .sentinel, .pinned], laidTests := true, laidLooks := .later }
def LexBackCardSaid : Prop := Claim7.holds Tryd.pinned (.plain (OpenSpec.ofChange lexBackSpec)) lexBackCard

/-- THE TIED CARD OF 'eddywheellaw05.LexPasses'. -/
def lexPassesCard : Claim7 := { stood := { row := lexPassesRow, standIns := [], harness := (true, "f1af67f734ad7b2863549feafead238d5fc9aba364f4b5b5b9979555ec5aaeb9"), looks := true }, kinds := [], alts := [], laidByText := true, laidKinds := [.data, .data, .data, .data, .sentinel, .sentinel, .pinned], laidTests := true, laidLooks := .later }
def LexPassesCardSaid : Prop := Claim7.holds Tryd.pinned (.plain (OpenSpec.ofChange lexPassesSpec)) lexPassesCard

/-- THE TIED CARD OF 'eddywheellaw05.LexJoins'. -/
def lexJoinsCard : Claim7 := { stood := { row := lexJoinsRow, standIns := [], harness := (true, "f1af67f734ad7b2863549feafead238d5fc9aba364f4b5b5b9979555ec5aaeb9"), looks := true }, kinds := [], alts := [], laidByText := true, laidKinds := [.data, .data, .data, .data, .sentinel, .sentinel, .pinned], laidTests := true, laidLooks := .later }
def LexJoinsCardSaid : Prop := Claim7.holds Tryd.pinned (.plain (OpenSpec.ofChange lexJoinsSpec)) lexJoinsCard

/-- THE TIED CARD OF 'eddywheellaw05.LexNames'. -/
def lexNamesCard : Claim7 := { stood := { row := lexNamesRow, standIns := [], harness := (true, "f1af67f734ad7b2863549feafead238d5fc9aba364f4b5b5b9979555ec5aaeb9"), looks := true }, kinds := [], alts := [], laidByText := true, laidKinds := [.data, .data, .data, .data, .sentinel, .sentinel, .pinned], laidTests := true, laidLooks := .later }
def LexNamesCardSaid : Prop := Claim7.holds Tryd.pinned (.plain (OpenSpec.ofChange lexNamesSpec)) lexNamesCard

/-- THE TIED CARD OF 'eddywheellaw05.LexCuts'. -/
def lexCutsCard : Claim7 := { stood := { row := lexCutsRow, standIns := [], harness := (true, "f1af67f734ad7b2863549feafead238d5fc9aba364f4b5b5b9979555ec5aaeb9"), looks := true }, kinds := [], alts := [], laidByText := true, laidKinds := [.data, .data, .data, .data, .sentinel, .sentinel, .pinned], laidTests := true, laidLooks := .later }
def LexCutsCardSaid : Prop := Claim7.holds Tryd.pinned (.plain (OpenSpec.ofChange lexCutsSpec)) lexCutsCard

/-- THE SECOND FORM's CARD OF 'eddywheellaw05.LexPlays'. -/
def lexPlaysUptoCard : Claim7 := { stood := { row := lexPlaysUptoRow, standIns := [], harness := (true, "f1af67f734ad7b2863549feafead238d5fc9aba364f4b5b5b9979555ec5aaeb9"), looks := true }, kinds := [], alts := [], laidByText := true, laidKinds := [.data, .data, .data, .data, .sentinel, .sentinel, .pinned], laidTests := true, laidLooks := .later }
def LexPlaysUptoCardSaid : Prop := Claim7.holds Tryd.pinned (.plain (OpenSpec.upto lexPlaysSpec)) lexPlaysUptoCard

/-- THE SECOND FORM's CARD OF 'eddywheellaw05.LexBack'. -/
def lexBackUptoCard : Claim7 := { stood := { row := lexBackUptoRow, standIns := [], harness := (true, "f1af67f734ad7b2863549feafead238d5fc9aba364f4b5b5b9979555ec5aaeb9"), looks := true }, kinds := [], alts := [], laidByText := true, laidKinds := [.data, .data, .data, .data, .sentinel, .sentinel, .pinned], laidTests := true, laidLooks := .later }
def LexBackUptoCardSaid : Prop := Claim7.holds Tryd.pinned (.plain (OpenSpec.upto lexBackSpec)) lexBackUptoCard

/-- THE SECOND FORM's CARD OF 'eddywheellaw05.LexPasses'. -/
def lexPassesUptoCard : Claim7 := { stood := { row := lexPassesUptoRow, standIns := [], harness := (true, "f1af67f734ad7b2863549feafead238d5fc9aba364f4b5b5b9979555ec5aaeb9"), looks := true }, kinds := [], alts := [], laidByText := true, laidKinds := [.data, .data, .data, .data, .sentinel, .sentinel, .pinned], laidTests := true, laidLooks := .later }
def LexPassesUptoCardSaid : Prop := Claim7.holds Tryd.pinned (.plain (OpenSpec.upto lexPassesSpec)) lexPassesUptoCard

/-- THE SECOND FORM's CARD OF 'eddywheellaw05.LexJoins'. -/
def lexJoinsUptoCard : Claim7 := { stood := { row := lexJoinsUptoRow, standIns := [], harness := (true, "f1af67f734ad7b2863549feafead238d5fc9aba364f4b5b5b9979555ec5aaeb9"), looks := true }, kinds := [], alts := [], laidByText := true, laidKinds := [.data, .data, .data, .data, .sentinel, .sentinel, .pinned], laidTests := true, laidLooks := .later }
def LexJoinsUptoCardSaid : Prop := Claim7.holds Tryd.pinned (.plain (OpenSpec.upto lexJoinsSpec)) lexJoinsUptoCard

/-- THE SECOND FORM's CARD OF 'eddywheellaw05.LexNames'. -/
def lexNamesUptoCard : Claim7 := { stood := { row := lexNamesUptoRow, standIns := [], harness := (true, "f1af67f734ad7b2863549feafead238d5fc9aba364f4b5b5b9979555ec5aaeb9"), looks := true }, kinds := [], alts := [], laidByText := true, laidKinds := [.data, .data, .data, .data, .sentinel, .sentinel, .pinned], laidTests := true, laidLooks := .later }
def LexNamesUptoCardSaid : Prop := Claim7.holds Tryd.pinned (.plain (OpenSpec.upto lexNamesSpec)) lexNamesUptoCard

/-- THE SECOND FORM's CARD OF 'eddywheellaw05.LexCuts'. -/
def lexCutsUptoCard : Claim7 := { stood := { row := lexCutsUptoRow, standIns := [], harness := (true, "f1af67f734ad7b2863549feafead238d5fc9aba364f4b5b5b9979555ec5aaeb9"), looks := true }, kinds := [], alts := [], laidByText := true, laidKinds := [.data, .data, .data, .data, .sentinel, .sentinel, .pinned], laidTests := true, laidLooks := .later }
def LexCutsUptoCardSaid : Prop := Claim7.holds Tryd.pinned (.plain (OpenSpec.upto lexCutsSpec)) lexCutsUptoCard
end Rows
end Go.Proofs.YtkgfnkilanpaoaaDoor
