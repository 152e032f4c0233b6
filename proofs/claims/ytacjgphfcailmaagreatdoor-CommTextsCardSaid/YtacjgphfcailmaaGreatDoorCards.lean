/-
  DERIVED. GIVEN WITH THE SEED: THE CARDS: each row of YtacjgphfcailmaaGreatDoorRows.lean that lists a variable, with what it lists TIED to the program's text (the seventh form; the later family's looks); each row that meets fmt, with fmt's text TOLD by the authors' own Lean function (tested against real Go, not proved from fmt's source: count such statements apart). THE CARD IS WHAT COUNTS. Prove the row's statement (the work); the ties are given (YtacjgphfcailmaaGreatDoorTie.lean); close each card by the builder's one call (the guide's Derived/Test/ToyasCard.lean, 'card_holds'). Laid BY PROGRAM, IN A SANDBOX (cutbox-door.mjs). By AI agents, Wed Nov 11 2026. No macro, syntax, notation, axiom, sorry.
-/
import Derived.Test.YtacjgphfcailmaaGreatDoorRows
import GoSem.ClaimSeven
namespace Go.Proofs.YtacjgphfcailmaaGreatDoor
namespace Rows

/-- THE TIED CARD OF 'purlieulaw20.CommTexts'. -/
def commTextsCard : Claim7 := { stood := { row := commTextsRow, standIns := [], harness := (true, "8c047c84308bee8b6113babfa78eee217bd0e57d09c091d06fd196fb43b27874"), looks := false }, kinds := [], alts := [], laidByText := true, laidKinds := [.data, .listed, .data, .data, .data], laidTests := true, laidLooks := .later }
def CommTextsCardSaid : Prop := Claim7.holds Tryz.pinned (.plain (OpenSpec.ofChange commTextsSpec)) commTextsCard

/-- THE SECOND FORM's CARD OF 'purlieulaw20.CommTexts'. -/
def commTextsUptoCard : Claim7 := { stood := { row := commTextsUptoRow, standIns := [], harness := (true, "8c047c84308bee8b6113babfa78eee217bd0e57d09c091d06fd196fb43b27874"), looks := false }, kinds := [], alts := [], laidByText := true, laidKinds := [.data, .listed, .data, .data, .data], laidTests := true, laidLooks := .later }
def CommTextsUptoCardSaid : Prop := Claim7.holds Tryz.pinned (.plain (OpenSpec.upto commTextsSpec)) commTextsUptoCard
end Rows
end Go.Proofs.YtacjgphfcailmaaGreatDoor
