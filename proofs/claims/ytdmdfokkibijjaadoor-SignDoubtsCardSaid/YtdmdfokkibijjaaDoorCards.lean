/-
  DERIVED. GIVEN WITH THE SEED: THE CARDS: each row of YtdmdfokkibijjaaDoorRows.lean that lists a variable, with what it lists TIED to the program's text (the seventh form; the later family's looks); each row that meets fmt, with fmt's text TOLD by the authors' own Lean function (tested against real Go, not proved from fmt's source: count such statements apart). THE CARD IS WHAT COUNTS. Prove the row's statement (the work); the ties are given (YtdmdfokkibijjaaDoorTie.lean); close each card by the builder's one call (the guide's Derived/Test/ToyasCard.lean, 'card_holds'). Laid BY PROGRAM, IN A SANDBOX (cutbox-door.mjs). By AI agents, Wed Nov 11 2026. No macro, syntax, notation, axiom, sorry.
-/
import Derived.Test.YtdmdfokkibijjaaDoorRows
import GoSem.ClaimSeven
namespace Go.Proofs.YtdmdfokkibijjaaDoor
namespace Rows

/-- THE TIED CARD OF 'purlieulaw09.SignResolves'. -/
def signResolvesCard : Claim7 := { stood := { row := signResolvesRow, standIns := [], harness := (true, "6093db4fb9c1da1b49972340d6db8b9d60058296663584ab76036c963876533d"), looks := false }, kinds := [], alts := [], laidByText := true, laidKinds := [.listed, .data], laidTests := true, laidLooks := .later }
def SignResolvesCardSaid : Prop := Claim7.holds Tryd.pinned (.plain (OpenSpec.ofChange signResolvesSpec)) signResolvesCard

/-- THE TIED CARD OF 'purlieulaw09.SignOrder'. -/
def signOrderCard : Claim7 := { stood := { row := signOrderRow, standIns := [], harness := (true, "6093db4fb9c1da1b49972340d6db8b9d60058296663584ab76036c963876533d"), looks := false }, kinds := [], alts := [], laidByText := true, laidKinds := [.listed, .data], laidTests := true, laidLooks := .later }
def SignOrderCardSaid : Prop := Claim7.holds Tryd.pinned (.plain (OpenSpec.ofChange signOrderSpec)) signOrderCard

/-- THE TIED CARD OF 'purlieulaw09.SignWays'. -/
def signWaysCard : Claim7 := { stood := { row := signWaysRow, standIns := [], harness := (true, "6093db4fb9c1da1b49972340d6db8b9d60058296663584ab76036c963876533d"), looks := false }, kinds := [], alts := [], laidByText := true, laidKinds := [.listed, .data], laidTests := true, laidLooks := .later }
def SignWaysCardSaid : Prop := Claim7.holds Tryd.pinned (.plain (OpenSpec.ofChange signWaysSpec)) signWaysCard

/-- THE TIED CARD OF 'purlieulaw09.SignFits'. -/
def signFitsCard : Claim7 := { stood := { row := signFitsRow, standIns := [], harness := (true, "6093db4fb9c1da1b49972340d6db8b9d60058296663584ab76036c963876533d"), looks := false }, kinds := [], alts := [], laidByText := true, laidKinds := [.listed, .data], laidTests := true, laidLooks := .later }
def SignFitsCardSaid : Prop := Claim7.holds Tryd.pinned (.plain (OpenSpec.ofChange signFitsSpec)) signFitsCard

/-- THE TIED CARD OF 'purlieulaw09.SignBetter'. -/
def signBetterCard : Claim7 := { stood := { row := signBetterRow, standIns := [], harness := (true, "6093db4fb9c1da1b49972340d6db8b9d60058296663584ab76036c963876533d"), looks := false }, kinds := [], alts := [], laidByText := true, laidKinds := [.listed, .data], laidTests := true, laidLooks := .later }
def SignBetterCardSaid : Prop := Claim7.holds Tryd.pinned (.plain (OpenSpec.ofChange signBetterSpec)) signBetterCard

/-- THE TIED CARD OF 'purlieulaw09.SignBest'. -/
def signBestCard : Claim7 := { stood := { row := signBestRow, standIns := [], harness := (true, "6093db4fb9c1da1b49972340d6db8b9d60058296663584ab76036c963876533d"), looks := false }, kinds := [], alts := [], laidByText := true, laidKinds := [.listed, .data], laidTests := true, laidLooks := .later }
def SignBestCardSaid : Prop := Claim7.holds Tryd.pinned (.plain (OpenSpec.ofChange signBestSpec)) signBestCard

/-- THE TIED CARD OF 'purlieulaw09.SignDoubts'. -/
def signDoubtsCard : Claim7 := { stood := { row := signDoubtsRow, standIns := [], harness := (true, "6093db4fb9c1da1b49972340d6db8b9d60058296663584ab76036c963876533d"), looks := false }, kinds := [], alts := [], laidByText := true, laidKinds := [.listed, .data], laidTests := true, laidLooks := .later }
def SignDoubtsCardSaid : Prop := Claim7.holds Tryd.pinned (.plain (OpenSpec.ofChange signDoubtsSpec)) signDoubtsCard

/-- THE SECOND FORM's CARD OF 'purlieulaw09.SignResolves'. -/
def signResolvesUptoCard : Claim7 := { stood := { row := signResolvesUptoRow, standIns := [], harness := (true, "6093db4fb9c1da1b49972340d6db8b9d60058296663584ab76036c963876533d"), looks := false }, kinds := [], alts := [], laidByText := true, laidKinds := [.listed, .data], laidTests := true, laidLooks := .later }
def SignResolvesUptoCardSaid : Prop := Claim7.holds Tryd.pinned (.plain (OpenSpec.upto signResolvesSpec)) signResolvesUptoCard

/-- THE SECOND FORM's CARD OF 'purlieulaw09.SignOrder'. -/
def signOrderUptoCard : Claim7 := { stood := { row := signOrderUptoRow, standIns := [], harness := (true, "6093db4fb9c1da1b49972340d6db8b9d60058296663584ab76036c963876533d"), looks := false }, kinds := [], alts := [], laidByText := true, laidKinds := [.listed, .data], laidTests := true, laidLooks := .later }
def SignOrderUptoCardSaid : Prop := Claim7.holds Tryd.pinned (.plain (OpenSpec.upto signOrderSpec)) signOrderUptoCard

/-- THE SECOND FORM's CARD OF 'purlieulaw09.SignWays'. -/
def signWaysUptoCard : Claim7 := { stood := { row := signWaysUptoRow, standIns := [], harness := (true, "6093db4fb9c1da1b49972340d6db8b9d60058296663584ab76036c963876533d"), looks := false }, kinds := [], alts := [], laidByText := true, laidKinds := [.listed, .data], laidTests := true, laidLooks := .later }
def SignWaysUptoCardSaid : Prop := Claim7.holds Tryd.pinned (.plain (OpenSpec.upto signWaysSpec)) signWaysUptoCard

/-- THE SECOND FORM's CARD OF 'purlieulaw09.SignFits'. -/
def signFitsUptoCard : Claim7 := { stood := { row := signFitsUptoRow, standIns := [], harness := (true, "6093db4fb9c1da1b49972340d6db8b9d60058296663584ab76036c963876533d"), looks := false }, kinds := [], alts := [], laidByText := true, laidKinds := [.listed, .data], laidTests := true, laidLooks := .later }
def SignFitsUptoCardSaid : Prop := Claim7.holds Tryd.pinned (.plain (OpenSpec.upto signFitsSpec)) signFitsUptoCard

/-- THE SECOND FORM's CARD OF 'purlieulaw09.SignBetter'. -/
def signBetterUptoCard : Claim7 := { stood := { row := signBetterUptoRow, standIns := [], harness := (true, "6093db4fb9c1da1b49972340d6db8b9d60058296663584ab76036c963876533d"), looks := false }, kinds := [], alts := [], laidByText := true, laidKinds := [.listed, .data], laidTests := true, laidLooks := .later }
def SignBetterUptoCardSaid : Prop := Claim7.holds Tryd.pinned (.plain (OpenSpec.upto signBetterSpec)) signBetterUptoCard

/-- THE SECOND FORM's CARD OF 'purlieulaw09.SignBest'. -/
def signBestUptoCard : Claim7 := { stood := { row := signBestUptoRow, standIns := [], harness := (true, "6093db4fb9c1da1b49972340d6db8b9d60058296663584ab76036c963876533d"), looks := false }, kinds := [], alts := [], laidByText := true, laidKinds := [.listed, .data], laidTests := true, laidLooks := .later }
def SignBestUptoCardSaid : Prop := Claim7.holds Tryd.pinned (.plain (OpenSpec.upto signBestSpec)) signBestUptoCard

/-- THE SECOND FORM's CARD OF 'purlieulaw09.SignDoubts'. -/
def signDoubtsUptoCard : Claim7 := { stood := { row := signDoubtsUptoRow, standIns := [], harness := (true, "6093db4fb9c1da1b49972340d6db8b9d60058296663584ab76036c963876533d"), looks := false }, kinds := [], alts := [], laidByText := true, laidKinds := [.listed, .data], laidTests := true, laidLooks := .later }
def SignDoubtsUptoCardSaid : Prop := Claim7.holds Tryd.pinned (.plain (OpenSpec.upto signDoubtsSpec)) signDoubtsUptoCard
end Rows
end Go.Proofs.YtdmdfokkibijjaaDoor
