/-
  DERIVED. GIVEN WITH THE SEED: THE CARDS: each row of YthfbkhjcnfjmmaaDoorRows.lean that lists a variable, with what it lists TIED to the program's text (the seventh form; the later family's looks); each row that meets fmt, with fmt's text TOLD by the authors' own Lean function (tested against real Go, not proved from fmt's source: count such statements apart). THE CARD IS WHAT COUNTS. Prove the row's statement (the work); the ties are given (YthfbkhjcnfjmmaaDoorTie.lean); close each card by the builder's one call (the guide's Derived/Test/ToyasCard.lean, 'card_holds'). Laid BY PROGRAM, IN A SANDBOX (cutbox-door.mjs). By AI agents, Wed Nov 11 2026. No macro, syntax, notation, axiom, sorry.
-/
import Derived.Test.YthfbkhjcnfjmmaaDoorRows
import GoSem.ClaimSeven
namespace Go.Proofs.YthfbkhjcnfjmmaaDoor
namespace Rows

/-- THE TIED CARD OF 'eddywheellaw06.ReadPlays'. -/
def readPlaysCard : Claim7 := { stood := { row := readPlaysRow, standIns := [], harness := (true, "fd0367778c885c9bc133f5b37d54b609ae70df5a380828b87cc3876131048273"), looks := true }, kinds := [], alts := [], laidByText := true, laidKinds := [.data, .data, .data, .data, .sentinel, .sentinel, .pinned], laidTests := true, laidLooks := .later }
def ReadPlaysCardSaid : Prop := Claim7.holds Tryd.pinned (.plain (OpenSpec.ofChange readPlaysSpec)) readPlaysCard

/-- THE TIED CARD OF 'eddywheellaw06.ReadJoins'. -/
def readJoinsCard : Claim7 := { stood := { row := readJoinsRow, standIns := [], harness := (true, "fd0367778c885c9bc133f5b37d54b609ae70df5a380828b87cc3876131048273"), looks := true }, kinds := [], alts := [], laidByText := true, laidKinds := [.data, .data, .data, .data, .sentinel, .sentinel, .pinned], laidTests := true, laidLooks := .later }
def ReadJoinsCardSaid : Prop := Claim7.holds Tryd.pinned (.plain (OpenSpec.ofChange readJoinsSpec)) readJoinsCard

/-- THE TIED CARD OF 'eddywheellaw06.ReadDeep'. -/
def readDeepCard : Claim7 := { stood := { row := readDeepRow, standIns := [], harness := (true, "fd0367778c885c9bc133f5b37d54b609ae70df5a380828b87cc3876131048273"), looks := true }, kinds := [], alts := [], laidByText := true, laidKinds := [.data, .data, .data, .data, .sentinel, .sentinel, .pinned], laidTests := true, laidLooks := .later }
def ReadDeepCardSaid : Prop := Claim7.holds Tryd.pinned (.plain (OpenSpec.ofChange readDeepSpec)) readDeepCard

/-- THE TIED CARD OF 'eddywheellaw06.ReadQuotes'. -/
def readQuotesCard : Claim7 := { stood := { row := readQuotesRow, standIns := [], harness := (true, "fd0367778c885c9bc133f5b37d54b609ae70df5a380828b87cc3876131048273"), looks := true }, kinds := [], alts := [], laidByText := true, laidKinds := [.data, .data, .data, .data, .sentinel, .sentinel, .pinned], laidTests := true, laidLooks := .later }
def ReadQuotesCardSaid : Prop := Claim7.holds Tryd.pinned (.plain (OpenSpec.ofChange readQuotesSpec)) readQuotesCard

/-- THE TIED CARD OF 'eddywheellaw06.ReadAt'. -/
def readAtCard : Claim7 := { stood := { row := readAtRow, standIns := [], harness := (true, "fd0367778c885c9bc133f5b37d54b609ae70df5a380828b87cc3876131048273"), looks := true }, kinds := [], alts := [], laidByText := true, laidKinds := [.data, .data, .data, .data, .sentinel, .sentinel, .pinned], laidTests := true, laidLooks := .later }
def ReadAtCardSaid : Prop := Claim7.holds Tryd.pinned (.plain (OpenSpec.ofChange readAtSpec)) readAtCard

/-- THE TIED CARD OF 'eddywheellaw06.ReadMay'. -/
def readMayCard : Claim7 := { stood := { row := readMayRow, standIns := [], harness := (true, "fd0367778c885c9bc133f5b37d54b609ae70df5a380828b87cc3876131048273"), looks := true }, kinds := [], alts := [], laidByText := true, laidKinds := [.data, .data, .data, .data, .sentinel, .sentinel, .pinned], laidTests := true, laidLooks := .later }
def ReadMayCardSaid : Prop := Claim7.holds Tryd.pinned (.plain (OpenSpec.ofChange readMaySpec)) readMayCard

/-- THE TIED CARD OF 'eddywheellaw06.ReadWhole'. -/
def readWholeCard : Claim7 := { stood := { row := readWholeRow, standIns := [], harness := (true, "fd0367778c885c9bc133f5b37d54b609ae70df5a380828b87cc3876131048273"), looks := true }, kinds := [], alts := [], laidByText := true, laidKinds := [.data, .data, .data, .data, .sentinel, .sentinel, .pinned], laidTests := true, laidLooks := .later }
def ReadWholeCardSaid : Prop := Claim7.holds Tryd.pinned (.plain (OpenSpec.ofChange readWholeSpec)) readWholeCard

/-- THE SECOND FORM's CARD OF 'eddywheellaw06.ReadPlays'. -/
def readPlaysUptoCard : Claim7 := { stood := { row := readPlaysUptoRow, standIns := [], harness := (true, "fd0367778c885c9bc133f5b37d54b609ae70df5a380828b87cc3876131048273"), looks := true }, kinds := [], alts := [], laidByText := true, laidKinds := [.data, .data, .data, .data, .sentinel, .sentinel, .pinned], laidTests := true, laidLooks := .later }
def ReadPlaysUptoCardSaid : Prop := Claim7.holds Tryd.pinned (.plain (OpenSpec.upto readPlaysSpec)) readPlaysUptoCard

/-- THE SECOND FORM's CARD OF 'eddywheellaw06.ReadJoins'. -/
def readJoinsUptoCard : Claim7 := { stood := { row := readJoinsUptoRow, standIns := [], harness := (true, "fd0367778c885c9bc133f5b37d54b609ae70df5a380828b87cc3876131048273"), looks := true }, kinds := [], alts := [], laidByText := true, laidKinds := [.data, .data, .data, .data, .sentinel, .sentinel, .pinned], laidTests := true, laidLooks := .later }
def ReadJoinsUptoCardSaid : Prop := Claim7.holds Tryd.pinned (.plain (OpenSpec.upto readJoinsSpec)) readJoinsUptoCard

/-- THE SECOND FORM's CARD OF 'eddywheellaw06.ReadDeep'. -/
def readDeepUptoCard : Claim7 := { stood := { row := readDeepUptoRow, standIns := [], harness := (true, "fd0367778c885c9bc133f5b37d54b609ae70df5a380828b87cc3876131048273"), looks := true }, kinds := [], alts := [], laidByText := true, laidKinds := [.data, .data, .data, .data, .sentinel, .sentinel, .pinned], laidTests := true, laidLooks := .later }
def ReadDeepUptoCardSaid : Prop := Claim7.holds Tryd.pinned (.plain (OpenSpec.upto readDeepSpec)) readDeepUptoCard

/-- THE SECOND FORM's CARD OF 'eddywheellaw06.ReadQuotes'. -/
def readQuotesUptoCard : Claim7 := { stood := { row := readQuotesUptoRow, standIns := [], harness := (true, "fd0367778c885c9bc133f5b37d54b609ae70df5a380828b87cc3876131048273"), looks := true }, kinds := [], alts := [], laidByText := true, laidKinds := [.data, .data, .data, .data, .sentinel, .sentinel, .pinned], laidTests := true, laidLooks := .later }
def ReadQuotesUptoCardSaid : Prop := Claim7.holds Tryd.pinned (.plain (OpenSpec.upto readQuotesSpec)) readQuotesUptoCard

/-- THE SECOND FORM's CARD OF 'eddywheellaw06.ReadAt'. -/
def readAtUptoCard : Claim7 := { stood := { row := readAtUptoRow, standIns := [], harness := (true, "fd0367778c885c9bc133f5b37d54b609ae70df5a380828b87cc3876131048273"), looks := true }, kinds := [], alts := [], laidByText := true, laidKinds := [.data, .data, .data, .data, .sentinel, .sentinel, .pinned], laidTests := true, laidLooks := .later }
def ReadAtUptoCardSaid : Prop := Claim7.holds Tryd.pinned (.plain (OpenSpec.upto readAtSpec)) readAtUptoCard

/-- THE SECOND FORM's CARD OF 'eddywheellaw06.ReadMay'. -/
def readMayUptoCard : Claim7 := { stood := { row := readMayUptoRow, standIns := [], harness := (true, "fd0367778c885c9bc133f5b37d54b609ae70df5a380828b87cc3876131048273"), looks := true }, kinds := [], alts := [], laidByText := true, laidKinds := [.data, .data, .data, .data, .sentinel, .sentinel, .pinned], laidTests := true, laidLooks := .later }
def ReadMayUptoCardSaid : Prop := Claim7.holds Tryd.pinned (.plain (OpenSpec.upto readMaySpec)) readMayUptoCard

/-- THE SECOND FORM's CARD OF 'eddywheellaw06.ReadWhole'. -/
def readWholeUptoCard : Claim7 := { stood := { row := readWholeUptoRow, standIns := [], harness := (true, "fd0367778c885c9bc133f5b37d54b609ae70df5a380828b87cc3876131048273"), looks := true }, kinds := [], alts := [], laidByText := true, laidKinds := [.data, .data, .data, .data, .sentinel, .sentinel, .pinned], laidTests := true, laidLooks := .later }
def ReadWholeUptoCardSaid : Prop := Claim7.holds Tryd.pinned (.plain (OpenSpec.upto readWholeSpec)) readWholeUptoCard
end Rows
end Go.Proofs.YthfbkhjcnfjmmaaDoor
