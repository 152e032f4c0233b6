/-
  DERIVED. GIVEN WITH THE SEED: THE CARDS: each row of YtdmdfokkibijjaaGreatDoorRows.lean that lists a variable, with what it lists TIED to the program's text (the seventh form; the later family's looks); each row that meets fmt, with fmt's text TOLD by the authors' own Lean function (tested against real Go, not proved from fmt's source: count such statements apart). THE CARD IS WHAT COUNTS. Prove the row's statement (the work); the ties are given (YtdmdfokkibijjaaGreatDoorTie.lean); close each card by the builder's one call (the guide's Derived/Test/ToyasCard.lean, 'card_holds'). Laid BY PROGRAM, IN A SANDBOX (cutbox-door.mjs). By AI agents, Wed Nov 11 2026. No macro, syntax, notation, axiom, sorry.
-/
import Derived.Test.YtdmdfokkibijjaaGreatDoorRows
import GoSem.ClaimSeven
namespace Go.Proofs.YtdmdfokkibijjaaGreatDoor
namespace Rows

/-- THE TIED CARD OF 'purlieulaw09.SignParses'. -/
def signParsesCard : Claim7 := { stood := { row := signParsesRow, standIns := [], harness := (true, "c86f8a7d2969b24193887f2252e2b7819fb50319e07994be3a1f6f1ae06e1f1b"), looks := true }, kinds := [], alts := [], laidByText := true, laidKinds := [.data, .data, .data, .data, .sentinel, .sentinel, .listed, .data, .pinned], laidTests := true, laidLooks := .later }
def SignParsesCardSaid : Prop := Claim7.holds Tryz.pinned (.plain (OpenSpec.ofChange signParsesSpec)) signParsesCard

/-- THE TIED CARD OF 'purlieulaw09.SignTexts'. -/
def signTextsCard : Claim7 := { stood := { row := signTextsRow, standIns := [], harness := (true, "c86f8a7d2969b24193887f2252e2b7819fb50319e07994be3a1f6f1ae06e1f1b"), looks := true }, kinds := [], alts := [], laidByText := true, laidKinds := [.data, .data, .data, .data, .sentinel, .sentinel, .listed, .data, .pinned], laidTests := true, laidLooks := .later }
def SignTextsCardSaid : Prop := Claim7.holds Tryz.pinned (.plain (OpenSpec.ofChange signTextsSpec)) signTextsCard

/-- THE SECOND FORM's CARD OF 'purlieulaw09.SignParses'. -/
def signParsesUptoCard : Claim7 := { stood := { row := signParsesUptoRow, standIns := [], harness := (true, "c86f8a7d2969b24193887f2252e2b7819fb50319e07994be3a1f6f1ae06e1f1b"), looks := true }, kinds := [], alts := [], laidByText := true, laidKinds := [.data, .data, .data, .data, .sentinel, .sentinel, .listed, .data, .pinned], laidTests := true, laidLooks := .later }
def SignParsesUptoCardSaid : Prop := Claim7.holds Tryz.pinned (.plain (OpenSpec.upto signParsesSpec)) signParsesUptoCard

/-- THE SECOND FORM's CARD OF 'purlieulaw09.SignTexts'. -/
def signTextsUptoCard : Claim7 := { stood := { row := signTextsUptoRow, standIns := [], harness := (true, "c86f8a7d2969b24193887f2252e2b7819fb50319e07994be3a1f6f1ae06e1f1b"), looks := true }, kinds := [], alts := [], laidByText := true, laidKinds := [.data, .data, .data, .data, .sentinel, .sentinel, .listed, .data, .pinned], laidTests := true, laidLooks := .later }
def SignTextsUptoCardSaid : Prop := Claim7.holds Tryz.pinned (.plain (OpenSpec.upto signTextsSpec)) signTextsUptoCard
end Rows
end Go.Proofs.YtdmdfokkibijjaaGreatDoor
