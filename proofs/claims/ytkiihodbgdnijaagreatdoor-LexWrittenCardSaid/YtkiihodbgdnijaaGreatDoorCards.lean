/-
  DERIVED. GIVEN WITH THE SEED: THE CARDS: each row of YtkiihodbgdnijaaGreatDoorRows.lean that lists a variable, with what it lists TIED to the program's text (the seventh form; the later family's looks); each row that meets fmt, with fmt's text TOLD by the authors' own Lean function (tested against real Go, not proved from fmt's source: count such statements apart). THE CARD IS WHAT COUNTS. Prove the row's statement (the work); the ties are given (YtkiihodbgdnijaaGreatDoorTie.lean); close each card by the builder's one call (the guide's Derived/Test/ToyasCard.lean, 'card_holds'). Laid BY PROGRAM, IN A SANDBOX (cutbox-door.mjs). By AI agents, Wed Nov 11 2026. No macro, syntax, notation, axiom, sorry.
-/
import Derived.Test.YtkiihodbgdnijaaGreatDoorRows
import GoSem.ClaimSeven
namespace Go.Proofs.YtkiihodbgdnijaaGreatDoor
namespace Rows

/-- THE TIED CARD OF 'plumblaw09.LexNumerals'. -/
def lexNumeralsCard : Claim7 := { stood := { row := lexNumeralsRow, standIns := [], harness := (true, "7394cf8a0a0649f75bcb066a7d0e6bf9e10d61b70e5b050d6951ca709b1cec20"), looks := true }, kinds := [], alts := [], laidByText := true, laidKinds := [.data, .data, .data], laidTests := true, laidLooks := .later }
def LexNumeralsCardSaid : Prop := Claim7.holds Tryz.pinned (.plain (OpenSpec.ofChange lexNumeralsSpec)) lexNumeralsCard

/-- THE TIED CARD OF 'plumblaw09.LexLong'. -/
def lexLongCard : Claim7 := { stood := { row := lexLongRow, standIns := [], harness := (true, "7394cf8a0a0649f75bcb066a7d0e6bf9e10d61b70e5b050d6951ca709b1cec20"), looks := true }, kinds := [], alts := [], laidByText := true, laidKinds := [.data, .data, .data, .data, .sentinel, .sentinel, .pinned, .pinned], laidTests := true, laidLooks := .later }
def LexLongCardSaid : Prop := Claim7.holds Tryz.pinned (.plain (OpenSpec.ofChange lexLongSpec)) lexLongCard

/-- THE TIED CARD OF 'plumblaw09.LexWritten'. -/
def lexWrittenCard : Claim7 := { stood := { row := lexWrittenRow, standIns := [], harness := (true, "7394cf8a0a0649f75bcb066a7d0e6bf9e10d61b70e5b050d6951ca709b1cec20"), looks := true }, kinds := [], alts := [], laidByText := true, laidKinds := [.data, .data, .data, .data, .sentinel, .sentinel, .pinned, .pinned], laidTests := true, laidLooks := .later }
def LexWrittenCardSaid : Prop := Claim7.holds Tryz.pinned (.plain (OpenSpec.ofChange lexWrittenSpec)) lexWrittenCard

/-- THE TIED CARD OF 'plumblaw09.LexRound'. -/
def lexRoundCard : Claim7 := { stood := { row := lexRoundRow, standIns := [], harness := (true, "7394cf8a0a0649f75bcb066a7d0e6bf9e10d61b70e5b050d6951ca709b1cec20"), looks := true }, kinds := [], alts := [], laidByText := true, laidKinds := [.data, .data, .data, .data, .sentinel, .sentinel, .pinned, .pinned], laidTests := true, laidLooks := .later }
def LexRoundCardSaid : Prop := Claim7.holds Tryz.pinned (.plain (OpenSpec.ofChange lexRoundSpec)) lexRoundCard

/-- THE TIED CARD OF 'plumblaw09.LexExps'. -/
def lexExpsCard : Claim7 := { stood := { row := lexExpsRow, standIns := [], harness := (true, "7394cf8a0a0649f75bcb066a7d0e6bf9e10d61b70e5b050d6951ca709b1cec20"), looks := true }, kinds := [], alts := [], laidByText := true, laidKinds := [.data, .data, .data, .data, .sentinel, .sentinel, .pinned, .pinned], laidTests := true, laidLooks := .later }
def LexExpsCardSaid : Prop := Claim7.holds Tryz.pinned (.plain (OpenSpec.ofChange lexExpsSpec)) lexExpsCard

/-- THE TIED CARD OF 'plumblaw09.LexScans'. -/
def lexScansCard : Claim7 := { stood := { row := lexScansRow, standIns := [], harness := (true, "7394cf8a0a0649f75bcb066a7d0e6bf9e10d61b70e5b050d6951ca709b1cec20"), looks := true }, kinds := [], alts := [], laidByText := true, laidKinds := [.data, .data, .data, .data, .handle, .sentinel, .sentinel, .pinned, .pinned], laidTests := true, laidLooks := .later }
def LexScansCardSaid : Prop := Claim7.holds Tryz.pinned (.plain (OpenSpec.ofChange lexScansSpec)) lexScansCard

/-- THE TIED CARD OF 'plumblaw09.LexErrors'. -/
def lexErrorsCard : Claim7 := { stood := { row := lexErrorsRow, standIns := [], harness := (true, "7394cf8a0a0649f75bcb066a7d0e6bf9e10d61b70e5b050d6951ca709b1cec20"), looks := true }, kinds := [], alts := [], laidByText := true, laidKinds := [.data, .data, .data, .data, .handle, .sentinel, .sentinel, .pinned, .pinned], laidTests := true, laidLooks := .later }
def LexErrorsCardSaid : Prop := Claim7.holds Tryz.pinned (.plain (OpenSpec.ofChange lexErrorsSpec)) lexErrorsCard

/-- THE TIED CARD OF 'plumblaw09.LexLongest'. -/
def lexLongestCard : Claim7 := { stood := { row := lexLongestRow, standIns := [], harness := (true, "7394cf8a0a0649f75bcb066a7d0e6bf9e10d61b70e5b050d6951ca709b1cec20"), looks := true }, kinds := [], alts := [], laidByText := true, laidKinds := [.data, .data, .data, .data, .handle, .sentinel, .sentinel, .pinned, .pinned], laidTests := true, laidLooks := .later }
def LexLongestCardSaid : Prop := Claim7.holds Tryz.pinned (.plain (OpenSpec.ofChange lexLongestSpec)) lexLongestCard

/-- THE TIED CARD OF 'plumblaw18.TokenAlls'. -/
def tokenAllsCard : Claim7 := { stood := { row := tokenAllsRow, standIns := [], harness := (true, "7394cf8a0a0649f75bcb066a7d0e6bf9e10d61b70e5b050d6951ca709b1cec20"), looks := true }, kinds := [], alts := [], laidByText := true, laidKinds := [.data, .data, .data, .data, .handle, .sentinel, .sentinel, .pinned, .pinned], laidTests := true, laidLooks := .later }
def TokenAllsCardSaid : Prop := Claim7.holds Tryz.pinned (.plain (OpenSpec.ofChange tokenAllsSpec)) tokenAllsCard

/-- THE TIED CARD OF 'plumblaw18.TokenReads'. -/
def tokenReadsCard : Claim7 := { stood := { row := tokenReadsRow, standIns := [], harness := (true, "7394cf8a0a0649f75bcb066a7d0e6bf9e10d61b70e5b050d6951ca709b1cec20"), looks := true }, kinds := [], alts := [], laidByText := true, laidKinds := [.data, .data, .data, .data, .handle, .sentinel, .sentinel, .pinned, .pinned], laidTests := true, laidLooks := .later }
def TokenReadsCardSaid : Prop := Claim7.holds Tryz.pinned (.plain (OpenSpec.ofChange tokenReadsSpec)) tokenReadsCard

/-- THE TIED CARD OF 'plumblaw18.TokenTights'. -/
def tokenTightsCard : Claim7 := { stood := { row := tokenTightsRow, standIns := [], harness := (true, "7394cf8a0a0649f75bcb066a7d0e6bf9e10d61b70e5b050d6951ca709b1cec20"), looks := true }, kinds := [], alts := [], laidByText := true, laidKinds := [.data, .data, .data, .data, .handle, .sentinel, .sentinel, .pinned, .pinned], laidTests := true, laidLooks := .later }
def TokenTightsCardSaid : Prop := Claim7.holds Tryz.pinned (.plain (OpenSpec.ofChange tokenTightsSpec)) tokenTightsCard

/-- THE TIED CARD OF 'plumblaw18.TokenBlanks'. -/
def tokenBlanksCard : Claim7 := { stood := { row := tokenBlanksRow, standIns := [], harness := (true, "7394cf8a0a0649f75bcb066a7d0e6bf9e10d61b70e5b050d6951ca709b1cec20"), looks := true }, kinds := [], alts := [], laidByText := true, laidKinds := [.data, .data, .data, .data, .handle, .sentinel, .sentinel, .pinned, .pinned], laidTests := true, laidLooks := .later }
def TokenBlanksCardSaid : Prop := Claim7.holds Tryz.pinned (.plain (OpenSpec.ofChange tokenBlanksSpec)) tokenBlanksCard

/-- THE TIED CARD OF 'plumblaw18.TokenBack'. -/
def tokenBackCard : Claim7 := { stood := { row := tokenBackRow, standIns := [], harness := (true, "7394cf8a0a0649f75bcb066a7d0e6bf9e10d61b70e5b050d6951ca709b1cec20"), looks := true }, kinds := [], alts := [], laidByText := true, laidKinds := [.data, .data, .data, .data, .handle, .sentinel, .sentinel, .pinned, .pinned], laidTests := true, laidLooks := .later }
def TokenBackCardSaid : Prop := Claim7.holds Tryz.pinned (.plain (OpenSpec.ofChange tokenBackSpec)) tokenBackCard

/-- THE TIED CARD OF 'plumblaw18.TokenJoins'. -/
def tokenJoinsCard : Claim7 := { stood := { row := tokenJoinsRow, standIns := [], harness := (true, "7394cf8a0a0649f75bcb066a7d0e6bf9e10d61b70e5b050d6951ca709b1cec20"), looks := true }, kinds := [], alts := [], laidByText := true, laidKinds := [.data, .data, .data, .data, .handle, .sentinel, .sentinel, .pinned, .pinned], laidTests := true, laidLooks := .later }
def TokenJoinsCardSaid : Prop := Claim7.holds Tryz.pinned (.plain (OpenSpec.ofChange tokenJoinsSpec)) tokenJoinsCard

/-- THE TIED CARD OF 'plumblaw18.TokenFresh'. -/
def tokenFreshCard : Claim7 := { stood := { row := tokenFreshRow, standIns := [], harness := (true, "7394cf8a0a0649f75bcb066a7d0e6bf9e10d61b70e5b050d6951ca709b1cec20"), looks := true }, kinds := [], alts := [], laidByText := true, laidKinds := [.data, .data, .data, .data, .handle, .sentinel, .sentinel, .pinned, .pinned], laidTests := true, laidLooks := .later }
def TokenFreshCardSaid : Prop := Claim7.holds Tryz.pinned (.plain (OpenSpec.ofChange tokenFreshSpec)) tokenFreshCard

/-- THE TIED CARD OF 'plumblaw18.TokenPlaces'. -/
def tokenPlacesCard : Claim7 := { stood := { row := tokenPlacesRow, standIns := [], harness := (true, "7394cf8a0a0649f75bcb066a7d0e6bf9e10d61b70e5b050d6951ca709b1cec20"), looks := true }, kinds := [], alts := [], laidByText := true, laidKinds := [.data, .data, .data, .data, .handle, .sentinel, .sentinel, .pinned, .pinned], laidTests := true, laidLooks := .later }
def TokenPlacesCardSaid : Prop := Claim7.holds Tryz.pinned (.plain (OpenSpec.ofChange tokenPlacesSpec)) tokenPlacesCard

/-- THE TIED CARD OF 'plumblaw09.LexValues'. -/
def lexValuesCard : Claim7 := { stood := { row := lexValuesRow, standIns := [], harness := (true, "7394cf8a0a0649f75bcb066a7d0e6bf9e10d61b70e5b050d6951ca709b1cec20"), looks := true }, kinds := [], alts := [], laidByText := true, laidKinds := [.data, .data, .data, .data, .sentinel, .sentinel, .pinned, .pinned], laidTests := true, laidLooks := .later }
def LexValuesCardSaid : Prop := Claim7.holds Tryz.pinned (.plain (OpenSpec.ofChange lexValuesSpec)) lexValuesCard

/-- THE SECOND FORM's CARD OF 'plumblaw09.LexNumerals'. -/
def lexNumeralsUptoCard : Claim7 := { stood := { row := lexNumeralsUptoRow, standIns := [], harness := (true, "7394cf8a0a0649f75bcb066a7d0e6bf9e10d61b70e5b050d6951ca709b1cec20"), looks := true }, kinds := [], alts := [], laidByText := true, laidKinds := [.data, .data, .data], laidTests := true, laidLooks := .later }
def LexNumeralsUptoCardSaid : Prop := Claim7.holds Tryz.pinned (.plain (OpenSpec.upto lexNumeralsSpec)) lexNumeralsUptoCard

/-- THE SECOND FORM's CARD OF 'plumblaw09.LexLong'. -/
def lexLongUptoCard : Claim7 := { stood := { row := lexLongUptoRow, standIns := [], harness := (true, "7394cf8a0a0649f75bcb066a7d0e6bf9e10d61b70e5b050d6951ca709b1cec20"), looks := true }, kinds := [], alts := [], laidByText := true, laidKinds := [.data, .data, .data, .data, .sentinel, .sentinel, .pinned, .pinned], laidTests := true, laidLooks := .later }
def LexLongUptoCardSaid : Prop := Claim7.holds Tryz.pinned (.plain (OpenSpec.upto lexLongSpec)) lexLongUptoCard

/-- THE SECOND FORM's CARD OF 'plumblaw09.LexWritten'. -/
def lexWrittenUptoCard : Claim7 := { stood := { row := lexWrittenUptoRow, standIns := [], harness := (true, "7394cf8a0a0649f75bcb066a7d0e6bf9e10d61b70e5b050d6951ca709b1cec20"), looks := true }, kinds := [], alts := [], laidByText := true, laidKinds := [.data, .data, .data, .data, .sentinel, .sentinel, .pinned, .pinned], laidTests := true, laidLooks := .later }
def LexWrittenUptoCardSaid : Prop := Claim7.holds Tryz.pinned (.plain (OpenSpec.upto lexWrittenSpec)) lexWrittenUptoCard

/-- THE SECOND FORM's CARD OF 'plumblaw09.LexRound'. -/
def lexRoundUptoCard : Claim7 := { stood := { row := lexRoundUptoRow, standIns := [], harness := (true, "7394cf8a0a0649f75bcb066a7d0e6bf9e10d61b70e5b050d6951ca709b1cec20"), looks := true }, kinds := [], alts := [], laidByText := true, laidKinds := [.data, .data, .data, .data, .sentinel, .sentinel, .pinned, .pinned], laidTests := true, laidLooks := .later }
def LexRoundUptoCardSaid : Prop := Claim7.holds Tryz.pinned (.plain (OpenSpec.upto lexRoundSpec)) lexRoundUptoCard

/-- THE SECOND FORM's CARD OF 'plumblaw09.LexExps'. -/
def lexExpsUptoCard : Claim7 := { stood := { row := lexExpsUptoRow, standIns := [], harness := (true, "7394cf8a0a0649f75bcb066a7d0e6bf9e10d61b70e5b050d6951ca709b1cec20"), looks := true }, kinds := [], alts := [], laidByText := true, laidKinds := [.data, .data, .data, .data, .sentinel, .sentinel, .pinned, .pinned], laidTests := true, laidLooks := .later }
def LexExpsUptoCardSaid : Prop := Claim7.holds Tryz.pinned (.plain (OpenSpec.upto lexExpsSpec)) lexExpsUptoCard

/-- THE SECOND FORM's CARD OF 'plumblaw09.LexScans'. -/
def lexScansUptoCard : Claim7 := { stood := { row := lexScansUptoRow, standIns := [], harness := (true, "7394cf8a0a0649f75bcb066a7d0e6bf9e10d61b70e5b050d6951ca709b1cec20"), looks := true }, kinds := [], alts := [], laidByText := true, laidKinds := [.data, .data, .data, .data, .handle, .sentinel, .sentinel, .pinned, .pinned], laidTests := true, laidLooks := .later }
def LexScansUptoCardSaid : Prop := Claim7.holds Tryz.pinned (.plain (OpenSpec.upto lexScansSpec)) lexScansUptoCard

/-- THE SECOND FORM's CARD OF 'plumblaw09.LexErrors'. -/
def lexErrorsUptoCard : Claim7 := { stood := { row := lexErrorsUptoRow, standIns := [], harness := (true, "7394cf8a0a0649f75bcb066a7d0e6bf9e10d61b70e5b050d6951ca709b1cec20"), looks := true }, kinds := [], alts := [], laidByText := true, laidKinds := [.data, .data, .data, .data, .handle, .sentinel, .sentinel, .pinned, .pinned], laidTests := true, laidLooks := .later }
def LexErrorsUptoCardSaid : Prop := Claim7.holds Tryz.pinned (.plain (OpenSpec.upto lexErrorsSpec)) lexErrorsUptoCard

/-- THE SECOND FORM's CARD OF 'plumblaw09.LexLongest'. -/
def lexLongestUptoCard : Claim7 := { stood := { row := lexLongestUptoRow, standIns := [], harness := (true, "7394cf8a0a0649f75bcb066a7d0e6bf9e10d61b70e5b050d6951ca709b1cec20"), looks := true }, kinds := [], alts := [], laidByText := true, laidKinds := [.data, .data, .data, .data, .handle, .sentinel, .sentinel, .pinned, .pinned], laidTests := true, laidLooks := .later }
def LexLongestUptoCardSaid : Prop := Claim7.holds Tryz.pinned (.plain (OpenSpec.upto lexLongestSpec)) lexLongestUptoCard

/-- THE SECOND FORM's CARD OF 'plumblaw18.TokenAlls'. -/
def tokenAllsUptoCard : Claim7 := { stood := { row := tokenAllsUptoRow, standIns := [], harness := (true, "7394cf8a0a0649f75bcb066a7d0e6bf9e10d61b70e5b050d6951ca709b1cec20"), looks := true }, kinds := [], alts := [], laidByText := true, laidKinds := [.data, .data, .data, .data, .handle, .sentinel, .sentinel, .pinned, .pinned], laidTests := true, laidLooks := .later }
def TokenAllsUptoCardSaid : Prop := Claim7.holds Tryz.pinned (.plain (OpenSpec.upto tokenAllsSpec)) tokenAllsUptoCard

/-- THE SECOND FORM's CARD OF 'plumblaw18.TokenReads'. -/
def tokenReadsUptoCard : Claim7 := { stood := { row := tokenReadsUptoRow, standIns := [], harness := (true, "7394cf8a0a0649f75bcb066a7d0e6bf9e10d61b70e5b050d6951ca709b1cec20"), looks := true }, kinds := [], alts := [], laidByText := true, laidKinds := [.data, .data, .data, .data, .handle, .sentinel, .sentinel, .pinned, .pinned], laidTests := true, laidLooks := .later }
def TokenReadsUptoCardSaid : Prop := Claim7.holds Tryz.pinned (.plain (OpenSpec.upto tokenReadsSpec)) tokenReadsUptoCard

/-- THE SECOND FORM's CARD OF 'plumblaw18.TokenTights'. -/
def tokenTightsUptoCard : Claim7 := { stood := { row := tokenTightsUptoRow, standIns := [], harness := (true, "7394cf8a0a0649f75bcb066a7d0e6bf9e10d61b70e5b050d6951ca709b1cec20"), looks := true }, kinds := [], alts := [], laidByText := true, laidKinds := [.data, .data, .data, .data, .handle, .sentinel, .sentinel, .pinned, .pinned], laidTests := true, laidLooks := .later }
def TokenTightsUptoCardSaid : Prop := Claim7.holds Tryz.pinned (.plain (OpenSpec.upto tokenTightsSpec)) tokenTightsUptoCard

/-- THE SECOND FORM's CARD OF 'plumblaw18.TokenBlanks'. -/
def tokenBlanksUptoCard : Claim7 := { stood := { row := tokenBlanksUptoRow, standIns := [], harness := (true, "7394cf8a0a0649f75bcb066a7d0e6bf9e10d61b70e5b050d6951ca709b1cec20"), looks := true }, kinds := [], alts := [], laidByText := true, laidKinds := [.data, .data, .data, .data, .handle, .sentinel, .sentinel, .pinned, .pinned], laidTests := true, laidLooks := .later }
def TokenBlanksUptoCardSaid : Prop := Claim7.holds Tryz.pinned (.plain (OpenSpec.upto tokenBlanksSpec)) tokenBlanksUptoCard

/-- THE SECOND FORM's CARD OF 'plumblaw18.TokenBack'. -/
def tokenBackUptoCard : Claim7 := { stood := { row := tokenBackUptoRow, standIns := [], harness := (true, "7394cf8a0a0649f75bcb066a7d0e6bf9e10d61b70e5b050d6951ca709b1cec20"), looks := true }, kinds := [], alts := [], laidByText := true, laidKinds := [.data, .data, .data, .data, .handle, .sentinel, .sentinel, .pinned, .pinned], laidTests := true, laidLooks := .later }
def TokenBackUptoCardSaid : Prop := Claim7.holds Tryz.pinned (.plain (OpenSpec.upto tokenBackSpec)) tokenBackUptoCard

/-- THE SECOND FORM's CARD OF 'plumblaw18.TokenJoins'. -/
def tokenJoinsUptoCard : Claim7 := { stood := { row := tokenJoinsUptoRow, standIns := [], harness := (true, "7394cf8a0a0649f75bcb066a7d0e6bf9e10d61b70e5b050d6951ca709b1cec20"), looks := true }, kinds := [], alts := [], laidByText := true, laidKinds := [.data, .data, .data, .data, .handle, .sentinel, .sentinel, .pinned, .pinned], laidTests := true, laidLooks := .later }
def TokenJoinsUptoCardSaid : Prop := Claim7.holds Tryz.pinned (.plain (OpenSpec.upto tokenJoinsSpec)) tokenJoinsUptoCard

/-- THE SECOND FORM's CARD OF 'plumblaw18.TokenFresh'. -/
def tokenFreshUptoCard : Claim7 := { stood := { row := tokenFreshUptoRow, standIns := [], harness := (true, "7394cf8a0a0649f75bcb066a7d0e6bf9e10d61b70e5b050d6951ca709b1cec20"), looks := true }, kinds := [], alts := [], laidByText := true, laidKinds := [.data, .data, .data, .data, .handle, .sentinel, .sentinel, .pinned, .pinned], laidTests := true, laidLooks := .later }
def TokenFreshUptoCardSaid : Prop := Claim7.holds Tryz.pinned (.plain (OpenSpec.upto tokenFreshSpec)) tokenFreshUptoCard

/-- THE SECOND FORM's CARD OF 'plumblaw18.TokenPlaces'. -/
def tokenPlacesUptoCard : Claim7 := { stood := { row := tokenPlacesUptoRow, standIns := [], harness := (true, "7394cf8a0a0649f75bcb066a7d0e6bf9e10d61b70e5b050d6951ca709b1cec20"), looks := true }, kinds := [], alts := [], laidByText := true, laidKinds := [.data, .data, .data, .data, .handle, .sentinel, .sentinel, .pinned, .pinned], laidTests := true, laidLooks := .later }
def TokenPlacesUptoCardSaid : Prop := Claim7.holds Tryz.pinned (.plain (OpenSpec.upto tokenPlacesSpec)) tokenPlacesUptoCard

/-- THE SECOND FORM's CARD OF 'plumblaw09.LexValues'. -/
def lexValuesUptoCard : Claim7 := { stood := { row := lexValuesUptoRow, standIns := [], harness := (true, "7394cf8a0a0649f75bcb066a7d0e6bf9e10d61b70e5b050d6951ca709b1cec20"), looks := true }, kinds := [], alts := [], laidByText := true, laidKinds := [.data, .data, .data, .data, .sentinel, .sentinel, .pinned, .pinned], laidTests := true, laidLooks := .later }
def LexValuesUptoCardSaid : Prop := Claim7.holds Tryz.pinned (.plain (OpenSpec.upto lexValuesSpec)) lexValuesUptoCard
end Rows
end Go.Proofs.YtkiihodbgdnijaaGreatDoor
