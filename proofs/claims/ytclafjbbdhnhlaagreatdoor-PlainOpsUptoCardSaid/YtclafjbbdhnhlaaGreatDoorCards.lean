/-
  DERIVED. GIVEN WITH THE SEED: THE CARDS: each row of YtclafjbbdhnhlaaGreatDoorRows.lean that lists a variable, with what it lists TIED to the program's text (the seventh form; the later family's looks); each row that meets fmt, with fmt's text TOLD by the authors' own Lean function (tested against real Go, not proved from fmt's source: count such statements apart). THE CARD IS WHAT COUNTS. Prove the row's statement (the work); the ties are given (YtclafjbbdhnhlaaGreatDoorTie.lean); close each card by the builder's one call (the guide's Derived/Test/ToyasCard.lean, 'card_holds'). Laid BY PROGRAM, IN A SANDBOX (cutbox-door.mjs). By AI agents, Wed Nov 11 2026. No macro, syntax, notation, axiom, sorry.
-/
import Derived.Test.YtclafjbbdhnhlaaGreatDoorRows
import GoSem.ClaimSeven
namespace Go.Proofs.YtclafjbbdhnhlaaGreatDoor
namespace Rows

/-- THE TIED CARD OF 'purlieulaw12.PlainSame'. -/
def plainSameCard : Claim7 := { stood := { row := plainSameRow, standIns := [], harness := (true, "f73c31784a6e7d432f0515cc8273e045664727e72248d5243637538af720c2f0"), looks := false }, kinds := [], alts := [], laidByText := true, laidKinds := [.data, .data, .data, .listed, .data], laidTests := true, laidLooks := .later }
def PlainSameCardSaid : Prop := Claim7.holds Tryz.pinned (.plain (OpenSpec.ofChange plainSameSpec)) plainSameCard

/-- THE TIED CARD OF 'purlieulaw12.PlainOps'. -/
def plainOpsCard : Claim7 := { stood := { row := plainOpsRow, standIns := [], harness := (true, "f73c31784a6e7d432f0515cc8273e045664727e72248d5243637538af720c2f0"), looks := false }, kinds := [], alts := [], laidByText := true, laidKinds := [.data, .data, .data, .listed, .data], laidTests := true, laidLooks := .later }
def PlainOpsCardSaid : Prop := Claim7.holds Tryz.pinned (.plain (OpenSpec.ofChange plainOpsSpec)) plainOpsCard

/-- THE SECOND FORM's CARD OF 'purlieulaw12.PlainSame'. -/
def plainSameUptoCard : Claim7 := { stood := { row := plainSameUptoRow, standIns := [], harness := (true, "f73c31784a6e7d432f0515cc8273e045664727e72248d5243637538af720c2f0"), looks := false }, kinds := [], alts := [], laidByText := true, laidKinds := [.data, .data, .data, .listed, .data], laidTests := true, laidLooks := .later }
def PlainSameUptoCardSaid : Prop := Claim7.holds Tryz.pinned (.plain (OpenSpec.upto plainSameSpec)) plainSameUptoCard

/-- THE SECOND FORM's CARD OF 'purlieulaw12.PlainOps'. -/
def plainOpsUptoCard : Claim7 := { stood := { row := plainOpsUptoRow, standIns := [], harness := (true, "f73c31784a6e7d432f0515cc8273e045664727e72248d5243637538af720c2f0"), looks := false }, kinds := [], alts := [], laidByText := true, laidKinds := [.data, .data, .data, .listed, .data], laidTests := true, laidLooks := .later }
def PlainOpsUptoCardSaid : Prop := Claim7.holds Tryz.pinned (.plain (OpenSpec.upto plainOpsSpec)) plainOpsUptoCard
end Rows
end Go.Proofs.YtclafjbbdhnhlaaGreatDoor
