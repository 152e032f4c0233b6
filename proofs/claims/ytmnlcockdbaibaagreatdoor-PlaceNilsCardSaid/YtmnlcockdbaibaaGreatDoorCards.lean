/-
  DERIVED. GIVEN WITH THE SEED: THE CARDS: each row of YtmnlcockdbaibaaGreatDoorRows.lean that lists a variable, with what it lists TIED to the program's text (the seventh form; the later family's looks); each row that meets fmt, with fmt's text TOLD by the authors' own Lean function (tested against real Go, not proved from fmt's source: count such statements apart). THE CARD IS WHAT COUNTS. Prove the row's statement (the work); the ties are given (YtmnlcockdbaibaaGreatDoorTie.lean); close each card by the builder's one call (the guide's Derived/Test/ToyasCard.lean, 'card_holds'). Laid BY PROGRAM, IN A SANDBOX (cutbox-door.mjs). By AI agents, Wed Nov 11 2026. No macro, syntax, notation, axiom, sorry.
-/
import Derived.Test.YtmnlcockdbaibaaGreatDoorRows
import GoSem.ClaimSeven
namespace Go.Proofs.YtmnlcockdbaibaaGreatDoor
namespace Rows

/-- THE TIED CARD OF 'purlieulaw19.PlaceNils'. -/
def placeNilsCard : Claim7 := { stood := { row := placeNilsRow, standIns := [], harness := (true, "80e93eb806ec0efd795a48dd004105d28e58ddae2deca6497dd35de08c7631f9"), looks := false }, kinds := [], alts := [], laidByText := true, laidKinds := [.data, .data, .data, .pinned, .data, .data, .listed], laidTests := true, laidLooks := .later }
def PlaceNilsCardSaid : Prop := Claim7.holds Tryz.pinned (.plain (OpenSpec.ofChange placeNilsSpec)) placeNilsCard

/-- THE SECOND FORM's CARD OF 'purlieulaw19.PlaceNils'. -/
def placeNilsUptoCard : Claim7 := { stood := { row := placeNilsUptoRow, standIns := [], harness := (true, "80e93eb806ec0efd795a48dd004105d28e58ddae2deca6497dd35de08c7631f9"), looks := false }, kinds := [], alts := [], laidByText := true, laidKinds := [.data, .data, .data, .pinned, .data, .data, .listed], laidTests := true, laidLooks := .later }
def PlaceNilsUptoCardSaid : Prop := Claim7.holds Tryz.pinned (.plain (OpenSpec.upto placeNilsSpec)) placeNilsUptoCard
end Rows
end Go.Proofs.YtmnlcockdbaibaaGreatDoor
