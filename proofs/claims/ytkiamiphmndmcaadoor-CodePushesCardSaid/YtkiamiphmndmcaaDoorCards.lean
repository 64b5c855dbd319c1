/-
  DERIVED. GIVEN WITH THE SEED: THE CARDS: each row of YtkiamiphmndmcaaDoorRows.lean that lists a variable, with what it lists TIED to the program's text (the seventh form; the later family's looks); each row that meets fmt, with fmt's text TOLD by the authors' own Lean function (tested against real Go, not proved from fmt's source: count such statements apart). THE CARD IS WHAT COUNTS. Prove the row's statement (the work); the ties are given (YtkiamiphmndmcaaDoorTie.lean); close each card by the builder's one call (the guide's Derived/Test/ToyasCard.lean, 'card_holds'). Laid BY PROGRAM, IN A SANDBOX (cutbox-door.mjs). By AI agents, Wed Nov 11 2026. No macro, syntax, notation, axiom, sorry.
-/
import Derived.Test.YtkiamiphmndmcaaDoorRows
import GoSem.ClaimSeven
namespace Go.Proofs.YtkiamiphmndmcaaDoor
namespace Rows

/-- THE TIED CARD OF 'eddywheellaw11.CodeWays'. -/
def codeWaysCard : Claim7 := { stood := { row := codeWaysRow, standIns := [], harness := (true, "d4577a708c33c64e5a870e2381d0b9b6649beb4d80e57357efda060c27190ae0"), looks := false }, kinds := [], alts := [], laidByText := true, laidKinds := [.data, .pinned], laidTests := true, laidLooks := .later }
def CodeWaysCardSaid : Prop := Claim7.holds Tryd.pinned (.plain (OpenSpec.ofChange codeWaysSpec)) codeWaysCard

/-- THE TIED CARD OF 'eddywheellaw11.CodeChanged'. -/
def codeChangedCard : Claim7 := { stood := { row := codeChangedRow, standIns := [], harness := (true, "d4577a708c33c64e5a870e2381d0b9b6649beb4d80e57357efda060c27190ae0"), looks := false }, kinds := [], alts := [], laidByText := true, laidKinds := [.data, .pinned], laidTests := true, laidLooks := .later }
def CodeChangedCardSaid : Prop := Claim7.holds Tryd.pinned (.plain (OpenSpec.ofChange codeChangedSpec)) codeChangedCard

/-- THE TIED CARD OF 'eddywheellaw11.CodeRows'. -/
def codeRowsCard : Claim7 := { stood := { row := codeRowsRow, standIns := [], harness := (true, "d4577a708c33c64e5a870e2381d0b9b6649beb4d80e57357efda060c27190ae0"), looks := false }, kinds := [], alts := [], laidByText := true, laidKinds := [.data, .pinned], laidTests := true, laidLooks := .later }
def CodeRowsCardSaid : Prop := Claim7.holds Tryd.pinned (.plain (OpenSpec.ofChange codeRowsSpec)) codeRowsCard

/-- THE TIED CARD OF 'eddywheellaw11.CodePushes'. -/
def codePushesCard : Claim7 := { stood := { row := codePushesRow, standIns := [], harness := (true, "d4577a708c33c64e5a870e2381d0b9b6649beb4d80e57357efda060c27190ae0"), looks := false }, kinds := [], alts := [], laidByText := true, laidKinds := [.data, .pinned], laidTests := true, laidLooks := .later }
def CodePushesCardSaid : Prop := Claim7.holds Tryd.pinned (.plain (OpenSpec.ofChange codePushesSpec)) codePushesCard

/-- THE TIED CARD OF 'eddywheellaw11.CodeJumps'. -/
def codeJumpsCard : Claim7 := { stood := { row := codeJumpsRow, standIns := [], harness := (true, "d4577a708c33c64e5a870e2381d0b9b6649beb4d80e57357efda060c27190ae0"), looks := false }, kinds := [], alts := [], laidByText := true, laidKinds := [.data, .pinned], laidTests := true, laidLooks := .later }
def CodeJumpsCardSaid : Prop := Claim7.holds Tryd.pinned (.plain (OpenSpec.ofChange codeJumpsSpec)) codeJumpsCard

/-- THE SECOND FORM's CARD OF 'eddywheellaw11.CodeWays'. -/
def codeWaysUptoCard : Claim7 := { stood := { row := codeWaysUptoRow, standIns := [], harness := (true, "d4577a708c33c64e5a870e2381d0b9b6649beb4d80e57357efda060c27190ae0"), looks := false }, kinds := [], alts := [], laidByText := true, laidKinds := [.data, .pinned], laidTests := true, laidLooks := .later }
def CodeWaysUptoCardSaid : Prop := Claim7.holds Tryd.pinned (.plain (OpenSpec.upto codeWaysSpec)) codeWaysUptoCard

/-- THE SECOND FORM's CARD OF 'eddywheellaw11.CodeChanged'. -/
def codeChangedUptoCard : Claim7 := { stood := { row := codeChangedUptoRow, standIns := [], harness := (true, "d4577a708c33c64e5a870e2381d0b9b6649beb4d80e57357efda060c27190ae0"), looks := false }, kinds := [], alts := [], laidByText := true, laidKinds := [.data, .pinned], laidTests := true, laidLooks := .later }
def CodeChangedUptoCardSaid : Prop := Claim7.holds Tryd.pinned (.plain (OpenSpec.upto codeChangedSpec)) codeChangedUptoCard

/-- THE SECOND FORM's CARD OF 'eddywheellaw11.CodeRows'. -/
def codeRowsUptoCard : Claim7 := { stood := { row := codeRowsUptoRow, standIns := [], harness := (true, "d4577a708c33c64e5a870e2381d0b9b6649beb4d80e57357efda060c27190ae0"), looks := false }, kinds := [], alts := [], laidByText := true, laidKinds := [.data, .pinned], laidTests := true, laidLooks := .later }
def CodeRowsUptoCardSaid : Prop := Claim7.holds Tryd.pinned (.plain (OpenSpec.upto codeRowsSpec)) codeRowsUptoCard

/-- THE SECOND FORM's CARD OF 'eddywheellaw11.CodePushes'. -/
def codePushesUptoCard : Claim7 := { stood := { row := codePushesUptoRow, standIns := [], harness := (true, "d4577a708c33c64e5a870e2381d0b9b6649beb4d80e57357efda060c27190ae0"), looks := false }, kinds := [], alts := [], laidByText := true, laidKinds := [.data, .pinned], laidTests := true, laidLooks := .later }
def CodePushesUptoCardSaid : Prop := Claim7.holds Tryd.pinned (.plain (OpenSpec.upto codePushesSpec)) codePushesUptoCard

/-- THE SECOND FORM's CARD OF 'eddywheellaw11.CodeJumps'. -/
def codeJumpsUptoCard : Claim7 := { stood := { row := codeJumpsUptoRow, standIns := [], harness := (true, "d4577a708c33c64e5a870e2381d0b9b6649beb4d80e57357efda060c27190ae0"), looks := false }, kinds := [], alts := [], laidByText := true, laidKinds := [.data, .pinned], laidTests := true, laidLooks := .later }
def CodeJumpsUptoCardSaid : Prop := Claim7.holds Tryd.pinned (.plain (OpenSpec.upto codeJumpsSpec)) codeJumpsUptoCard
end Rows
end Go.Proofs.YtkiamiphmndmcaaDoor
