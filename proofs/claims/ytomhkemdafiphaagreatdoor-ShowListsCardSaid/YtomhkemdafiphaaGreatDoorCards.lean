/-
  DERIVED. GIVEN WITH THE SEED: THE CARDS: each row of YtomhkemdafiphaaGreatDoorRows.lean that lists a variable, with what it lists TIED to the program's text (the seventh form; the later family's looks); each row that meets fmt, with fmt's text TOLD by the authors' own Lean function (tested against real Go, not proved from fmt's source: count such statements apart). THE CARD IS WHAT COUNTS. Prove the row's statement (the work); the ties are given (YtomhkemdafiphaaGreatDoorTie.lean); close each card by the builder's one call (the guide's Derived/Test/ToyasCard.lean, 'card_holds'). Laid BY PROGRAM, IN A SANDBOX (cutbox-door.mjs). By AI agents, Wed Nov 11 2026. No macro, syntax, notation, axiom, sorry.
-/
import Derived.Test.YtomhkemdafiphaaGreatDoorRows
import GoSem.ClaimSeven
namespace Go.Proofs.YtomhkemdafiphaaGreatDoor
namespace Rows

/-- THE TIED CARD OF 'eddywheellaw07.ShowData'. -/
def showDataCard : Claim7 := { stood := { row := showDataRow, standIns := [], harness := (true, "eb2e7b02a2690bc1b35005f519ee29d47002f6a9fb757165d256422ded0cd6fa"), looks := true }, kinds := [], alts := [], laidByText := true, laidKinds := [.data, .data, .data, .data, .sentinel, .sentinel, .pinned], laidTests := true, laidLooks := .later }
def ShowDataCardSaid : Prop := Claim7.holds Tryz.pinned (.plain (OpenSpec.ofChange showDataSpec)) showDataCard

/-- THE TIED CARD OF 'eddywheellaw07.ShowBack'. -/
def showBackCard : Claim7 := { stood := { row := showBackRow, standIns := [], harness := (true, "eb2e7b02a2690bc1b35005f519ee29d47002f6a9fb757165d256422ded0cd6fa"), looks := true }, kinds := [], alts := [], laidByText := true, laidKinds := [.data, .data, .data, .data, .sentinel, .sentinel, .pinned], laidTests := true, laidLooks := .later }
def ShowBackCardSaid : Prop := Claim7.holds Tryz.pinned (.plain (OpenSpec.ofChange showBackSpec)) showBackCard

/-- THE TIED CARD OF 'eddywheellaw07.ShowLists'. -/
def showListsCard : Claim7 := { stood := { row := showListsRow, standIns := [], harness := (true, "eb2e7b02a2690bc1b35005f519ee29d47002f6a9fb757165d256422ded0cd6fa"), looks := true }, kinds := [], alts := [], laidByText := true, laidKinds := [.data, .data, .data, .data, .sentinel, .sentinel, .pinned], laidTests := true, laidLooks := .later }
def ShowListsCardSaid : Prop := Claim7.holds Tryz.pinned (.plain (OpenSpec.ofChange showListsSpec)) showListsCard

/-- THE TIED CARD OF 'eddywheellaw07.ShowShort'. -/
def showShortCard : Claim7 := { stood := { row := showShortRow, standIns := [], harness := (true, "eb2e7b02a2690bc1b35005f519ee29d47002f6a9fb757165d256422ded0cd6fa"), looks := true }, kinds := [], alts := [], laidByText := true, laidKinds := [.data, .data, .data, .data, .sentinel, .sentinel, .pinned], laidTests := true, laidLooks := .later }
def ShowShortCardSaid : Prop := Claim7.holds Tryz.pinned (.plain (OpenSpec.ofChange showShortSpec)) showShortCard

/-- THE TIED CARD OF 'eddywheellaw07.ShowDots'. -/
def showDotsCard : Claim7 := { stood := { row := showDotsRow, standIns := [], harness := (true, "eb2e7b02a2690bc1b35005f519ee29d47002f6a9fb757165d256422ded0cd6fa"), looks := true }, kinds := [], alts := [], laidByText := true, laidKinds := [.data, .data, .data, .data, .sentinel, .sentinel, .pinned], laidTests := true, laidLooks := .later }
def ShowDotsCardSaid : Prop := Claim7.holds Tryz.pinned (.plain (OpenSpec.ofChange showDotsSpec)) showDotsCard

/-- THE TIED CARD OF 'eddywheellaw07.ShowWords'. -/
def showWordsCard : Claim7 := { stood := { row := showWordsRow, standIns := [], harness := (true, "eb2e7b02a2690bc1b35005f519ee29d47002f6a9fb757165d256422ded0cd6fa"), looks := true }, kinds := [], alts := [], laidByText := true, laidKinds := [.data, .data, .data, .data, .sentinel, .sentinel, .pinned], laidTests := true, laidLooks := .later }
def ShowWordsCardSaid : Prop := Claim7.holds Tryz.pinned (.plain (OpenSpec.ofChange showWordsSpec)) showWordsCard

/-- THE TIED CARD OF 'eddywheellaw07.ShowMarks'. -/
def showMarksCard : Claim7 := { stood := { row := showMarksRow, standIns := [], harness := (true, "eb2e7b02a2690bc1b35005f519ee29d47002f6a9fb757165d256422ded0cd6fa"), looks := true }, kinds := [], alts := [], laidByText := true, laidKinds := [.data, .data, .data, .data, .sentinel, .sentinel, .pinned], laidTests := true, laidLooks := .later }
def ShowMarksCardSaid : Prop := Claim7.holds Tryz.pinned (.plain (OpenSpec.ofChange showMarksSpec)) showMarksCard

/-- THE SECOND FORM's CARD OF 'eddywheellaw07.ShowData'. -/
def showDataUptoCard : Claim7 := { stood := { row := showDataUptoRow, standIns := [], harness := (true, "eb2e7b02a2690bc1b35005f519ee29d47002f6a9fb757165d256422ded0cd6fa"), looks := true }, kinds := [], alts := [], laidByText := true, laidKinds := [.data, .data, .data, .data, .sentinel, .sentinel, .pinned], laidTests := true, laidLooks := .later }
def ShowDataUptoCardSaid : Prop := Claim7.holds Tryz.pinned (.plain (OpenSpec.upto showDataSpec)) showDataUptoCard

/-- THE SECOND FORM's CARD OF 'eddywheellaw07.ShowBack'. -/
def showBackUptoCard : Claim7 := { stood := { row := showBackUptoRow, standIns := [], harness := (true, "eb2e7b02a2690bc1b35005f519ee29d47002f6a9fb757165d256422ded0cd6fa"), looks := true }, kinds := [], alts := [], laidByText := true, laidKinds := [.data, .data, .data, .data, .sentinel, .sentinel, .pinned], laidTests := true, laidLooks := .later }
def ShowBackUptoCardSaid : Prop := Claim7.holds Tryz.pinned (.plain (OpenSpec.upto showBackSpec)) showBackUptoCard

/-- THE SECOND FORM's CARD OF 'eddywheellaw07.ShowLists'. -/
def showListsUptoCard : Claim7 := { stood := { row := showListsUptoRow, standIns := [], harness := (true, "eb2e7b02a2690bc1b35005f519ee29d47002f6a9fb757165d256422ded0cd6fa"), looks := true }, kinds := [], alts := [], laidByText := true, laidKinds := [.data, .data, .data, .data, .sentinel, .sentinel, .pinned], laidTests := true, laidLooks := .later }
def ShowListsUptoCardSaid : Prop := Claim7.holds Tryz.pinned (.plain (OpenSpec.upto showListsSpec)) showListsUptoCard

/-- THE SECOND FORM's CARD OF 'eddywheellaw07.ShowShort'. -/
def showShortUptoCard : Claim7 := { stood := { row := showShortUptoRow, standIns := [], harness := (true, "eb2e7b02a2690bc1b35005f519ee29d47002f6a9fb757165d256422ded0cd6fa"), looks := true }, kinds := [], alts := [], laidByText := true, laidKinds := [.data, .data, .data, .data, .sentinel, .sentinel, .pinned], laidTests := true, laidLooks := .later }
def ShowShortUptoCardSaid : Prop := Claim7.holds Tryz.pinned (.plain (OpenSpec.upto showShortSpec)) showShortUptoCard

/-- THE SECOND FORM's CARD OF 'eddywheellaw07.ShowDots'. -/
def showDotsUptoCard : Claim7 := { stood := { row := showDotsUptoRow, standIns := [], harness := (true, "eb2e7b02a2690bc1b35005f519ee29d47002f6a9fb757165d256422ded0cd6fa"), looks := true }, kinds := [], alts := [], laidByText := true, laidKinds := [.data, .data, .data, .data, .sentinel, .sentinel, .pinned], laidTests := true, laidLooks := .later }
def ShowDotsUptoCardSaid : Prop := Claim7.holds Tryz.pinned (.plain (OpenSpec.upto showDotsSpec)) showDotsUptoCard

/-- THE SECOND FORM's CARD OF 'eddywheellaw07.ShowWords'. -/
def showWordsUptoCard : Claim7 := { stood := { row := showWordsUptoRow, standIns := [], harness := (true, "eb2e7b02a2690bc1b35005f519ee29d47002f6a9fb757165d256422ded0cd6fa"), looks := true }, kinds := [], alts := [], laidByText := true, laidKinds := [.data, .data, .data, .data, .sentinel, .sentinel, .pinned], laidTests := true, laidLooks := .later }
def ShowWordsUptoCardSaid : Prop := Claim7.holds Tryz.pinned (.plain (OpenSpec.upto showWordsSpec)) showWordsUptoCard

/-- THE SECOND FORM's CARD OF 'eddywheellaw07.ShowMarks'. -/
def showMarksUptoCard : Claim7 := { stood := { row := showMarksUptoRow, standIns := [], harness := (true, "eb2e7b02a2690bc1b35005f519ee29d47002f6a9fb757165d256422ded0cd6fa"), looks := true }, kinds := [], alts := [], laidByText := true, laidKinds := [.data, .data, .data, .data, .sentinel, .sentinel, .pinned], laidTests := true, laidLooks := .later }
def ShowMarksUptoCardSaid : Prop := Claim7.holds Tryz.pinned (.plain (OpenSpec.upto showMarksSpec)) showMarksUptoCard
end Rows
end Go.Proofs.YtomhkemdafiphaaGreatDoor
