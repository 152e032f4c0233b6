/-
  DERIVED. GIVEN WITH THE SEED: THE CARDS: each row of YtdajlkmagmmdiaaGreatDoorRows.lean that lists a variable, with what it lists TIED to the program's text (the seventh form; the later family's looks); each row that meets fmt, with fmt's text TOLD by the authors' own Lean function (tested against real Go, not proved from fmt's source: count such statements apart). THE CARD IS WHAT COUNTS. Prove the row's statement (the work); the ties are given (YtdajlkmagmmdiaaGreatDoorTie.lean); close each card by the builder's one call (the guide's Derived/Test/ToyasCard.lean, 'card_holds'). Laid BY PROGRAM, IN A SANDBOX (cutbox-door.mjs). By AI agents, Wed Nov 11 2026. No macro, syntax, notation, axiom, sorry.
-/
import Derived.Test.YtdajlkmagmmdiaaGreatDoorRows
import GoSem.ClaimSeven
namespace Go.Proofs.YtdajlkmagmmdiaaGreatDoor
namespace Rows

/-- THE TIED CARD OF 'purlieulaw27.ViewNils'. -/
def viewNilsCard : Claim7 := { stood := { row := viewNilsRow, standIns := [], harness := (true, "2a4864c48fd325cd7ce184c606ec5b5f69822e44e81c9d8428d46f5e7c81eef3"), looks := false }, kinds := [], alts := [], laidByText := true, laidKinds := [.data, .data, .data, .data, .listed, .pinned, .data], laidTests := true, laidLooks := .later }
def ViewNilsCardSaid : Prop := Claim7.holds Tryz.pinned (.plain (OpenSpec.ofChange viewNilsSpec)) viewNilsCard

/-- THE SECOND FORM's CARD OF 'purlieulaw27.ViewNils'. -/
def viewNilsUptoCard : Claim7 := { stood := { row := viewNilsUptoRow, standIns := [], harness := (true, "2a4864c48fd325cd7ce184c606ec5b5f69822e44e81c9d8428d46f5e7c81eef3"), looks := false }, kinds := [], alts := [], laidByText := true, laidKinds := [.data, .data, .data, .data, .listed, .pinned, .data], laidTests := true, laidLooks := .later }
def ViewNilsUptoCardSaid : Prop := Claim7.holds Tryz.pinned (.plain (OpenSpec.upto viewNilsSpec)) viewNilsUptoCard
end Rows
end Go.Proofs.YtdajlkmagmmdiaaGreatDoor
