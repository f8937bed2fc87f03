/-
  DERIVED. GIVEN WITH THE SEED: THE CARDS: each row of YthempkdgmobocaaDoorRows.lean that lists a variable, with what it lists TIED to the program's text (the seventh form; the later family's looks); each row that meets fmt, with fmt's text TOLD by the authors' own Lean function (tested against real Go, not proved from fmt's source: count such statements apart). THE CARD IS WHAT COUNTS. Prove the row's statement (the work); the ties are given (YthempkdgmobocaaDoorTie.lean); close each card by the builder's one call (the guide's Derived/Test/ToyasCard.lean, 'card_holds'). Laid BY PROGRAM, IN A SANDBOX (cutbox-door.mjs). By AI agents, Wed Nov 11 2026. No macro, syntax, notation, axiom, sorry.
-/
import Derived.Test.YthempkdgmobocaaDoorRows
import GoSem.ClaimSeven
namespace Go.Proofs.YthempkdgmobocaaDoor
namespace Rows

/-- THE TIED CARD OF 'eddywheellaw05.LexPlays'. -/
def lexPlaysCard : Claim7 := { stood := { row := lexPlaysRow, standIns := [], harness := (true, "e5649523b9f5d265026b72e83b3a3731ab379dd9972bf4fc09420e3f948f337d"), looks := true }, kinds := [], alts := [], laidByText := true, laidKinds := [.data, .data, .data, .data, .sentinel, .sentinel, .pinned], laidTests := true, laidLooks := .later }
def LexPlaysCardSaid : Prop := Claim7.holds Tryd.pinned (.plain (OpenSpec.ofChange lexPlaysSpec)) lexPlaysCard

/-- THE TIED CARD OF 'eddywheellaw05.LexBack'. -/
def lexBackCard : Claim7 := { stood := { row := lexBackRow, standIns := [], harness := (true, "e5649523b9f5d265026b72e83b3a3731ab379dd9972bf4fc09420e3f948f337d"), looks := true }, kinds := [], alts := [], laidByText := true, laidKinds := [.data, .data, .data, .data, .sentinel, .sentinel, .pinned], laidTests := true, laidLooks := .later }
def LexBackCardSaid : Prop := Claim7.holds Tryd.pinned (.plain (OpenSpec.ofChange lexBackSpec)) lexBackCard

/-- THE TIED CARD OF 'eddywheellaw05.LexPasses'. -/
def lexPassesCard : Claim7 := { stood := { row := lexPassesRow, standIns := [], harness := (true, "e5649523b9f5d265026b72e83b3a3731ab379dd9972bf4fc09420e3f948f337d"), looks := true }, kinds := [], alts := [], laidByText := true, laidKinds := [.data, .data, .data, .data, .sentinel, .sentinel, .pinned], laidTests := true, laidLooks := .later }
def LexPassesCardSaid : Prop := Claim7.holds Tryd.pinned (.plain (OpenSpec.ofChange lexPassesSpec)) lexPassesCard

/-- THE TIED CARD OF 'eddywheellaw05.LexJoins'. -/
def lexJoinsCard : Claim7 := { stood := { row := lexJoinsRow, standIns := [], harness := (true, "e5649523b9f5d265026b72e83b3a3731ab379dd9972bf4fc09420e3f948f337d"), looks := true }, kinds := [], alts := [], laidByText := true, laidKinds := [.data, .data, .data, .data, .sentinel, .sentinel, .pinned], laidTests := true, laidLooks := .later }
def LexJoinsCardSaid : Prop := Claim7.holds Tryd.pinned (.plain (OpenSpec.ofChange lexJoinsSpec)) lexJoinsCard

/-- THE TIED CARD OF 'eddywheellaw05.LexNames'. -/
def lexNamesCard : Claim7 := { stood := { row := lexNamesRow, standIns := [], harness := (true, "e5649523b9f5d265026b72e83b3a3731ab379dd9972bf4fc09420e3f948f337d"), looks := true }, kinds := [], alts := [], laidByText := true, laidKinds := [.data, .data, .data, .data, .sentinel, .sentinel, .pinned], laidTests := true, laidLooks := .later }
def LexNamesCardSaid : Prop := Claim7.holds Tryd.pinned (.plain (OpenSpec.ofChange lexNamesSpec)) lexNamesCard

/-- THE TIED CARD OF 'eddywheellaw05.LexCuts'. -/
def lexCutsCard : Claim7 := { stood := { row := lexCutsRow, standIns := [], harness := (true, "e5649523b9f5d265026b72e83b3a3731ab379dd9972bf4fc09420e3f948f337d"), looks := true }, kinds := [], alts := [], laidByText := true, laidKinds := [.data, .data, .data, .data, .sentinel, .sentinel, .pinned], laidTests := true, laidLooks := .later }
def LexCutsCardSaid : Prop := Claim7.holds Tryd.pinned (.plain (OpenSpec.ofChange lexCutsSpec)) lexCutsCard

/-- THE TIED CARD OF 'eddywheellaw06.ReadPlays'. -/
def readPlaysCard : Claim7 := { stood := { row := readPlaysRow, standIns := [], harness := (true, "e5649523b9f5d265026b72e83b3a3731ab379dd9972bf4fc09420e3f948f337d"), looks := true }, kinds := [], alts := [], laidByText := true, laidKinds := [.data, .data, .data, .data, .sentinel, .sentinel, .pinned], laidTests := true, laidLooks := .later }
def ReadPlaysCardSaid : Prop := Claim7.holds Tryd.pinned (.plain (OpenSpec.ofChange readPlaysSpec)) readPlaysCard

/-- THE TIED CARD OF 'eddywheellaw06.ReadJoins'. -/
def readJoinsCard : Claim7 := { stood := { row := readJoinsRow, standIns := [], harness := (true, "e5649523b9f5d265026b72e83b3a3731ab379dd9972bf4fc09420e3f948f337d"), looks := true }, kinds := [], alts := [], laidByText := true, laidKinds := [.data, .data, .data, .data, .sentinel, .sentinel, .pinned], laidTests := true, laidLooks := .later }
def ReadJoinsCardSaid : Prop := Claim7.holds Tryd.pinned (.plain (OpenSpec.ofChange readJoinsSpec)) readJoinsCard

/-- THE TIED CARD OF 'eddywheellaw06.ReadDeep'. -/
def readDeepCard : Claim7 := { stood := { row := readDeepRow, standIns := [], harness := (true, "e5649523b9f5d265026b72e83b3a3731ab379dd9972bf4fc09420e3f948f337d"), looks := true }, kinds := [], alts := [], laidByText := true, laidKinds := [.data, .data, .data, .data, .sentinel, .sentinel, .pinned], laidTests := true, laidLooks := .later }
def ReadDeepCardSaid : Prop := Claim7.holds Tryd.pinned (.plain (OpenSpec.ofChange readDeepSpec)) readDeepCard

/-- THE TIED CARD OF 'eddywheellaw06.ReadQuotes'. -/
def readQuotesCard : Claim7 := { stood := { row := readQuotesRow, standIns := [], harness := (true, "e5649523b9f5d265026b72e83b3a3731ab379dd9972bf4fc09420e3f948f337d"), looks := true }, kinds := [], alts := [], laidByText := true, laidKinds := [.data, .data, .data, .data, .sentinel, .sentinel, .pinned], laidTests := true, laidLooks := .later }
def ReadQuotesCardSaid : Prop := Claim7.holds Tryd.pinned (.plain (OpenSpec.ofChange readQuotesSpec)) readQuotesCard

/-- THE TIED CARD OF 'eddywheellaw06.ReadAt'. -/
def readAtCard : Claim7 := { stood := { row := readAtRow, standIns := [], harness := (true, "e5649523b9f5d265026b72e83b3a3731ab379dd9972bf4fc09420e3f948f337d"), looks := true }, kinds := [], alts := [], laidByText := true, laidKinds := [.data, .data, .data, .data, .sentinel, .sentinel, .pinned], laidTests := true, laidLooks := .later }
def ReadAtCardSaid : Prop := Claim7.holds Tryd.pinned (.plain (OpenSpec.ofChange readAtSpec)) readAtCard

/-- THE TIED CARD OF 'eddywheellaw06.ReadMay'. -/
def readMayCard : Claim7 := { stood := { row := readMayRow, standIns := [], harness := (true, "e5649523b9f5d265026b72e83b3a3731ab379dd9972bf4fc09420e3f948f337d"), looks := true }, kinds := [], alts := [], laidByText := true, laidKinds := [.data, .data, .data, .data, .sentinel, .sentinel, .pinned], laidTests := true, laidLooks := .later }
def ReadMayCardSaid : Prop := Claim7.holds Tryd.pinned (.plain (OpenSpec.ofChange readMaySpec)) readMayCard

/-- THE TIED CARD OF 'eddywheellaw06.ReadWhole'. -/
def readWholeCard : Claim7 := { stood := { row := readWholeRow, standIns := [], harness := (true, "e5649523b9f5d265026b72e83b3a3731ab379dd9972bf4fc09420e3f948f337d"), looks := true }, kinds := [], alts := [], laidByText := true, laidKinds := [.data, .data, .data, .data, .sentinel, .sentinel, .pinned], laidTests := true, laidLooks := .later }
def ReadWholeCardSaid : Prop := Claim7.holds Tryd.pinned (.plain (OpenSpec.ofChange readWholeSpec)) readWholeCard

/-- THE SECOND FORM's CARD OF 'eddywheellaw05.LexPlays'. -/
def lexPlaysUptoCard : Claim7 := { stood := { row := lexPlaysUptoRow, standIns := [], harness := (true, "e5649523b9f5d265026b72e83b3a3731ab379dd9972bf4fc09420e3f948f337d"), looks := true }, kinds := [], alts := [], laidByText := true, laidKinds := [.data, .data, .data, .data, .sentinel, .sentinel, .pinned], laidTests := true, laidLooks := .later }
def LexPlaysUptoCardSaid : Prop := Claim7.holds Tryd.pinned (.plain (OpenSpec.upto lexPlaysSpec)) lexPlaysUptoCard

/-- THE SECOND FORM's CARD OF 'eddywheellaw05.LexBack'. -/
def lexBackUptoCard : Claim7 := { stood := { row := lexBackUptoRow, standIns := [], harness := (true, "e5649523b9f5d265026b72e83b3a3731ab379dd9972bf4fc09420e3f948f337d"), looks := true }, kinds := [], alts := [], laidByText := true, laidKinds := [.data, .data, .data, .data, .sentinel, .sentinel, .pinned], laidTests := true, laidLooks := .later }
def LexBackUptoCardSaid : Prop := Claim7.holds Tryd.pinned (.plain (OpenSpec.upto lexBackSpec)) lexBackUptoCard

/-- THE SECOND FORM's CARD OF 'eddywheellaw05.LexPasses'. -/
def lexPassesUptoCard : Claim7 := { stood := { row := lexPassesUptoRow, standIns := [], harness := (true, "e5649523b9f5d265026b72e83b3a3731ab379dd9972bf4fc09420e3f948f337d"), looks := true }, kinds := [], alts := [], laidByText := true, laidKinds := [.data, .data, .data, .data, .sentinel, .sentinel, .pinned], laidTests := true, laidLooks := .later }
def LexPassesUptoCardSaid : Prop := Claim7.holds Tryd.pinned (.plain (OpenSpec.upto lexPassesSpec)) lexPassesUptoCard

/-- THE SECOND FORM's CARD OF 'eddywheellaw05.LexJoins'. -/
def lexJoinsUptoCard : Claim7 := { stood := { row := lexJoinsUptoRow, standIns := [], harness := (true, "e5649523b9f5d265026b72e83b3a3731ab379dd9972bf4fc09420e3f948f337d"), looks := true }, kinds := [], alts := [], laidByText := true, laidKinds := [.data, .data, .data, .data, .sentinel, .sentinel, .pinned], laidTests := true, laidLooks := .later }
def LexJoinsUptoCardSaid : Prop := Claim7.holds Tryd.pinned (.plain (OpenSpec.upto lexJoinsSpec)) lexJoinsUptoCard

/-- THE SECOND FORM's CARD OF 'eddywheellaw05.LexNames'. -/
def lexNamesUptoCard : Claim7 := { stood := { row := lexNamesUptoRow, standIns := [], harness := (true, "e5649523b9f5d265026b72e83b3a3731ab379dd9972bf4fc09420e3f948f337d"), looks := true }, kinds := [], alts := [], laidByText := true, laidKinds := [.data, .data, .data, .data, .sentinel, .sentinel, .pinned], laidTests := true, laidLooks := .later }
def LexNamesUptoCardSaid : Prop := Claim7.holds Tryd.pinned (.plain (OpenSpec.upto lexNamesSpec)) lexNamesUptoCard

/-- THE SECOND FORM's CARD OF 'eddywheellaw05.LexCuts'. -/
def lexCutsUptoCard : Claim7 := { stood := { row := lexCutsUptoRow, standIns := [], harness := (true, "e5649523b9f5d265026b72e83b3a3731ab379dd9972bf4fc09420e3f948f337d"), looks := true }, kinds := [], alts := [], laidByText := true, laidKinds := [.data, .data, .data, .data, .sentinel, .sentinel, .pinned], laidTests := true, laidLooks := .later }
def LexCutsUptoCardSaid : Prop := Claim7.holds Tryd.pinned (.plain (OpenSpec.upto lexCutsSpec)) lexCutsUptoCard

/-- THE SECOND FORM's CARD OF 'eddywheellaw06.ReadPlays'. -/
def readPlaysUptoCard : Claim7 := { stood := { row := readPlaysUptoRow, standIns := [], harness := (true, "e5649523b9f5d265026b72e83b3a3731ab379dd9972bf4fc09420e3f948f337d"), looks := true }, kinds := [], alts := [], laidByText := true, laidKinds := [.data, .data, .data, .data, .sentinel, .sentinel, .pinned], laidTests := true, laidLooks := .later }
def ReadPlaysUptoCardSaid : Prop := Claim7.holds Tryd.pinned (.plain (OpenSpec.upto readPlaysSpec)) readPlaysUptoCard

/-- THE SECOND FORM's CARD OF 'eddywheellaw06.ReadJoins'. -/
def readJoinsUptoCard : Claim7 := { stood := { row := readJoinsUptoRow, standIns := [], harness := (true, "e5649523b9f5d265026b72e83b3a3731ab379dd9972bf4fc09420e3f948f337d"), looks := true }, kinds := [], alts := [], laidByText := true, laidKinds := [.data, .data, .data, .data, .sentinel, .sentinel, .pinned], laidTests := true, laidLooks := .later }
def ReadJoinsUptoCardSaid : Prop := Claim7.holds Tryd.pinned (.plain (OpenSpec.upto readJoinsSpec)) readJoinsUptoCard

/-- THE SECOND FORM's CARD OF 'eddywheellaw06.ReadDeep'. -/
def readDeepUptoCard : Claim7 := { stood := { row := readDeepUptoRow, standIns := [], harness := (true, "e5649523b9f5d265026b72e83b3a3731ab379dd9972bf4fc09420e3f948f337d"), looks := true }, kinds := [], alts := [], laidByText := true, laidKinds := [.data, .data, .data, .data, .sentinel, .sentinel, .pinned], laidTests := true, laidLooks := .later }
def ReadDeepUptoCardSaid : Prop := Claim7.holds Tryd.pinned (.plain (OpenSpec.upto readDeepSpec)) readDeepUptoCard

/-- THE SECOND FORM's CARD OF 'eddywheellaw06.ReadQuotes'. -/
def readQuotesUptoCard : Claim7 := { stood := { row := readQuotesUptoRow, standIns := [], harness := (true, "e5649523b9f5d265026b72e83b3a3731ab379dd9972bf4fc09420e3f948f337d"), looks := true }, kinds := [], alts := [], laidByText := true, laidKinds := [.data, .data, .data, .data, .sentinel, .sentinel, .pinned], laidTests := true, laidLooks := .later }
def ReadQuotesUptoCardSaid : Prop := Claim7.holds Tryd.pinned (.plain (OpenSpec.upto readQuotesSpec)) readQuotesUptoCard

/-- THE SECOND FORM's CARD OF 'eddywheellaw06.ReadAt'. -/
def readAtUptoCard : Claim7 := { stood := { row := readAtUptoRow, standIns := [], harness := (true, "e5649523b9f5d265026b72e83b3a3731ab379dd9972bf4fc09420e3f948f337d"), looks := true }, kinds := [], alts := [], laidByText := true, laidKinds := [.data, .data, .data, .data, .sentinel, .sentinel, .pinned], laidTests := true, laidLooks := .later }
def ReadAtUptoCardSaid : Prop := Claim7.holds Tryd.pinned (.plain (OpenSpec.upto readAtSpec)) readAtUptoCard

/-- THE SECOND FORM's CARD OF 'eddywheellaw06.ReadMay'. -/
def readMayUptoCard : Claim7 := { stood := { row := readMayUptoRow, standIns := [], harness := (true, "e5649523b9f5d265026b72e83b3a3731ab379dd9972bf4fc09420e3f948f337d"), looks := true }, kinds := [], alts := [], laidByText := true, laidKinds := [.data, .data, .data, .data, .sentinel, .sentinel, .pinned], laidTests := true, laidLooks := .later }
def ReadMayUptoCardSaid : Prop := Claim7.holds Tryd.pinned (.plain (OpenSpec.upto readMaySpec)) readMayUptoCard

/-- THE SECOND FORM's CARD OF 'eddywheellaw06.ReadWhole'. -/
def readWholeUptoCard : Claim7 := { stood := { row := readWholeUptoRow, standIns := [], harness := (true, "e5649523b9f5d265026b72e83b3a3731ab379dd9972bf4fc09420e3f948f337d"), looks := true }, kinds := [], alts := [], laidByText := true, laidKinds := [.data, .data, .data, .data, .sentinel, .sentinel, .pinned], laidTests := true, laidLooks := .later }
def ReadWholeUptoCardSaid : Prop := Claim7.holds Tryd.pinned (.plain (OpenSpec.upto readWholeSpec)) readWholeUptoCard
end Rows
end Go.Proofs.YthempkdgmobocaaDoor
