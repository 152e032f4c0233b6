/-
  DERIVED. GIVEN WITH THE SEED: THE CARDS: each row of YtdppbnjjkjgknaaDoorRows.lean that lists a variable, with what it lists TIED to the program's text (the seventh form; the later family's looks); each row that meets fmt, with fmt's text TOLD by the authors' own Lean function (tested against real Go, not proved from fmt's source: count such statements apart). THE CARD IS WHAT COUNTS. Prove the row's statement (the work); the ties are given (YtdppbnjjkjgknaaDoorTie.lean); close each card by the builder's one call (the guide's Derived/Test/ToyasCard.lean, 'card_holds'). Laid BY PROGRAM, IN A SANDBOX (cutbox-door.mjs). By AI agents, Wed Nov 11 2026. No macro, syntax, notation, axiom, sorry.
-/
import Derived.Test.YtdppbnjjkjgknaaDoorRows
import GoSem.ClaimSeven
namespace Go.Proofs.YtdppbnjjkjgknaaDoor
namespace Rows

/-- THE TIED CARD OF 'purlieulaw01.TokenReads'. -/
def tokenReadsCard : Claim7 := { stood := { row := tokenReadsRow, standIns := [], harness := (true, "3cf92562d3c691ad5684ade8599be990021a9d39306ef04f2efaee12e0b29051"), looks := true }, kinds := [], alts := [], laidByText := true, laidKinds := [.listed, .data], laidTests := true, laidLooks := .later }
def TokenReadsCardSaid : Prop := Claim7.holds Tryd.pinned (.plain (OpenSpec.ofChange tokenReadsSpec)) tokenReadsCard

/-- THE TIED CARD OF 'purlieulaw01.TokenSpaced'. -/
def tokenSpacedCard : Claim7 := { stood := { row := tokenSpacedRow, standIns := [], harness := (true, "3cf92562d3c691ad5684ade8599be990021a9d39306ef04f2efaee12e0b29051"), looks := true }, kinds := [], alts := [], laidByText := true, laidKinds := [.listed, .data], laidTests := true, laidLooks := .later }
def TokenSpacedCardSaid : Prop := Claim7.holds Tryd.pinned (.plain (OpenSpec.ofChange tokenSpacedSpec)) tokenSpacedCard

/-- THE TIED CARD OF 'purlieulaw01.TokenPlaces'. -/
def tokenPlacesCard : Claim7 := { stood := { row := tokenPlacesRow, standIns := [], harness := (true, "3cf92562d3c691ad5684ade8599be990021a9d39306ef04f2efaee12e0b29051"), looks := true }, kinds := [], alts := [], laidByText := true, laidKinds := [.listed, .data], laidTests := true, laidLooks := .later }
def TokenPlacesCardSaid : Prop := Claim7.holds Tryd.pinned (.plain (OpenSpec.ofChange tokenPlacesSpec)) tokenPlacesCard

/-- THE TIED CARD OF 'purlieulaw01.TokenJoins'. -/
def tokenJoinsCard : Claim7 := { stood := { row := tokenJoinsRow, standIns := [], harness := (true, "3cf92562d3c691ad5684ade8599be990021a9d39306ef04f2efaee12e0b29051"), looks := true }, kinds := [], alts := [], laidByText := true, laidKinds := [.listed, .data], laidTests := true, laidLooks := .later }
def TokenJoinsCardSaid : Prop := Claim7.holds Tryd.pinned (.plain (OpenSpec.ofChange tokenJoinsSpec)) tokenJoinsCard

/-- THE TIED CARD OF 'purlieulaw01.TokenBack'. -/
def tokenBackCard : Claim7 := { stood := { row := tokenBackRow, standIns := [], harness := (true, "3cf92562d3c691ad5684ade8599be990021a9d39306ef04f2efaee12e0b29051"), looks := true }, kinds := [], alts := [], laidByText := true, laidKinds := [.listed, .data], laidTests := true, laidLooks := .later }
def TokenBackCardSaid : Prop := Claim7.holds Tryd.pinned (.plain (OpenSpec.ofChange tokenBackSpec)) tokenBackCard

/-- THE TIED CARD OF 'purlieulaw01.TokenAgain'. -/
def tokenAgainCard : Claim7 := { stood := { row := tokenAgainRow, standIns := [], harness := (true, "3cf92562d3c691ad5684ade8599be990021a9d39306ef04f2efaee12e0b29051"), looks := true }, kinds := [], alts := [], laidByText := true, laidKinds := [.listed, .data], laidTests := true, laidLooks := .later }
def TokenAgainCardSaid : Prop := Claim7.holds Tryd.pinned (.plain (OpenSpec.ofChange tokenAgainSpec)) tokenAgainCard

/-- THE TIED CARD OF 'purlieulaw01.TokenLines'. -/
def tokenLinesCard : Claim7 := { stood := { row := tokenLinesRow, standIns := [], harness := (true, "3cf92562d3c691ad5684ade8599be990021a9d39306ef04f2efaee12e0b29051"), looks := true }, kinds := [], alts := [], laidByText := true, laidKinds := [.listed, .data], laidTests := true, laidLooks := .later }
def TokenLinesCardSaid : Prop := Claim7.holds Tryd.pinned (.plain (OpenSpec.ofChange tokenLinesSpec)) tokenLinesCard

/-- THE TIED CARD OF 'purlieulaw01.TokenWords'. -/
def tokenWordsCard : Claim7 := { stood := { row := tokenWordsRow, standIns := [], harness := (true, "3cf92562d3c691ad5684ade8599be990021a9d39306ef04f2efaee12e0b29051"), looks := true }, kinds := [], alts := [], laidByText := true, laidKinds := [.data, .data, .data, .sentinel, .sentinel, .listed, .data], laidTests := true, laidLooks := .later }
def TokenWordsCardSaid : Prop := Claim7.holds Tryd.pinned (.plain (OpenSpec.ofChange tokenWordsSpec)) tokenWordsCard

/-- THE SECOND FORM's CARD OF 'purlieulaw01.TokenReads'. -/
def tokenReadsUptoCard : Claim7 := { stood := { row := tokenReadsUptoRow, standIns := [], harness := (true, "3cf92562d3c691ad5684ade8599be990021a9d39306ef04f2efaee12e0b29051"), looks := true }, kinds := [], alts := [], laidByText := true, laidKinds := [.listed, .data], laidTests := true, laidLooks := .later }
def TokenReadsUptoCardSaid : Prop := Claim7.holds Tryd.pinned (.plain (OpenSpec.upto tokenReadsSpec)) tokenReadsUptoCard

/-- THE SECOND FORM's CARD OF 'purlieulaw01.TokenSpaced'. -/
def tokenSpacedUptoCard : Claim7 := { stood := { row := tokenSpacedUptoRow, standIns := [], harness := (true, "3cf92562d3c691ad5684ade8599be990021a9d39306ef04f2efaee12e0b29051"), looks := true }, kinds := [], alts := [], laidByText := true, laidKinds := [.listed, .data], laidTests := true, laidLooks := .later }
def TokenSpacedUptoCardSaid : Prop := Claim7.holds Tryd.pinned (.plain (OpenSpec.upto tokenSpacedSpec)) tokenSpacedUptoCard

/-- THE SECOND FORM's CARD OF 'purlieulaw01.TokenPlaces'. -/
def tokenPlacesUptoCard : Claim7 := { stood := { row := tokenPlacesUptoRow, standIns := [], harness := (true, "3cf92562d3c691ad5684ade8599be990021a9d39306ef04f2efaee12e0b29051"), looks := true }, kinds := [], alts := [], laidByText := true, laidKinds := [.listed, .data], laidTests := true, laidLooks := .later }
def TokenPlacesUptoCardSaid : Prop := Claim7.holds Tryd.pinned (.plain (OpenSpec.upto tokenPlacesSpec)) tokenPlacesUptoCard

/-- THE SECOND FORM's CARD OF 'purlieulaw01.TokenJoins'. -/
def tokenJoinsUptoCard : Claim7 := { stood := { row := tokenJoinsUptoRow, standIns := [], harness := (true, "3cf92562d3c691ad5684ade8599be990021a9d39306ef04f2efaee12e0b29051"), looks := true }, kinds := [], alts := [], laidByText := true, laidKinds := [.listed, .data], laidTests := true, laidLooks := .later }
def TokenJoinsUptoCardSaid : Prop := Claim7.holds Tryd.pinned (.plain (OpenSpec.upto tokenJoinsSpec)) tokenJoinsUptoCard

/-- THE SECOND FORM's CARD OF 'purlieulaw01.TokenBack'. -/
def tokenBackUptoCard : Claim7 := { stood := { row := tokenBackUptoRow, standIns := [], harness := (true, "3cf92562d3c691ad5684ade8599be990021a9d39306ef04f2efaee12e0b29051"), looks := true }, kinds := [], alts := [], laidByText := true, laidKinds := [.listed, .data], laidTests := true, laidLooks := .later }
def TokenBackUptoCardSaid : Prop := Claim7.holds Tryd.pinned (.plain (OpenSpec.upto tokenBackSpec)) tokenBackUptoCard

/-- THE SECOND FORM's CARD OF 'purlieulaw01.TokenAgain'. -/
def tokenAgainUptoCard : Claim7 := { stood := { row := tokenAgainUptoRow, standIns := [], harness := (true, "3cf92562d3c691ad5684ade8599be990021a9d39306ef04f2efaee12e0b29051"), looks := true }, kinds := [], alts := [], laidByText := true, laidKinds := [.listed, .data], laidTests := true, laidLooks := .later }
def TokenAgainUptoCardSaid : Prop := Claim7.holds Tryd.pinned (.plain (OpenSpec.upto tokenAgainSpec)) tokenAgainUptoCard

/-- THE SECOND FORM's CARD OF 'purlieulaw01.TokenLines'. -/
def tokenLinesUptoCard : Claim7 := { stood := { row := tokenLinesUptoRow, standIns := [], harness := (true, "3cf92562d3c691ad5684ade8599be990021a9d39306ef04f2efaee12e0b29051"), looks := true }, kinds := [], alts := [], laidByText := true, laidKinds := [.listed, .data], laidTests := true, laidLooks := .later }
def TokenLinesUptoCardSaid : Prop := Claim7.holds Tryd.pinned (.plain (OpenSpec.upto tokenLinesSpec)) tokenLinesUptoCard

/-- THE SECOND FORM's CARD OF 'purlieulaw01.TokenWords'. -/
def tokenWordsUptoCard : Claim7 := { stood := { row := tokenWordsUptoRow, standIns := [], harness := (true, "3cf92562d3c691ad5684ade8599be990021a9d39306ef04f2efaee12e0b29051"), looks := true }, kinds := [], alts := [], laidByText := true, laidKinds := [.data, .data, .data, .sentinel, .sentinel, .listed, .data], laidTests := true, laidLooks := .later }
def TokenWordsUptoCardSaid : Prop := Claim7.holds Tryd.pinned (.plain (OpenSpec.upto tokenWordsSpec)) tokenWordsUptoCard
end Rows
end Go.Proofs.YtdppbnjjkjgknaaDoor
