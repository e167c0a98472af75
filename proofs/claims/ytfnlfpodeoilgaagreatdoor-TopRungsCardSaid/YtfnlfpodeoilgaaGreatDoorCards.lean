/-
  DERIVED. GIVEN WITH THE SEED: THE CARDS: each row of YtfnlfpodeoilgaaGreatDoorRows.lean that lists a variable, with what it lists TIED to the program's text (the seventh form; the later family's looks); each row that meets fmt, with fmt's text TOLD by the authors' own Lean function (tested against real Go, not proved from fmt's source: count such statements apart). THE CARD IS WHAT COUNTS. Prove the row's statement (the work); the ties are given (YtfnlfpodeoilgaaGreatDoorTie.lean); close each card by the builder's one call (the guide's Derived/Test/ToyasCard.lean, 'card_holds'). Laid BY PROGRAM, IN A SANDBOX (cutbox-door.mjs). By AI agents, Wed Nov 11 2026. No macro, syntax, notation, axiom, sorry.
-/
import Derived.Test.YtfnlfpodeoilgaaGreatDoorRows
import GoSem.ClaimSeven
namespace Go.Proofs.YtfnlfpodeoilgaaGreatDoor
namespace Rows

/-- THE TIED CARD OF 'ratlinetop.TopRungs'. -/
def topRungsCard : Claim7 := { stood := { row := topRungsRow, standIns := [], harness := (true, "5fcf0920eaf29a55892bd0571d2e11b4a6c8b51652a3b38484323d85d2734684"), looks := false }, kinds := [], alts := [], laidByText := true, laidKinds := [.data, .data], laidTests := true, laidLooks := .later }
def TopRungsCardSaid : Prop := Claim7.holds Tryz.pinned (.plain (OpenSpec.ofChange topRungsSpec)) topRungsCard

/-- THE TIED CARD OF 'ratlinetop.TopTaken'. -/
def topTakenCard : Claim7 := { stood := { row := topTakenRow, standIns := [], harness := (true, "5fcf0920eaf29a55892bd0571d2e11b4a6c8b51652a3b38484323d85d2734684"), looks := false }, kinds := [], alts := [], laidByText := true, laidKinds := [.data, .data], laidTests := true, laidLooks := .later }
def TopTakenCardSaid : Prop := Claim7.holds Tryz.pinned (.plain (OpenSpec.ofChange topTakenSpec)) topTakenCard

/-- THE SECOND FORM's CARD OF 'ratlinetop.TopRungs'. -/
def topRungsUptoCard : Claim7 := { stood := { row := topRungsUptoRow, standIns := [], harness := (true, "5fcf0920eaf29a55892bd0571d2e11b4a6c8b51652a3b38484323d85d2734684"), looks := false }, kinds := [], alts := [], laidByText := true, laidKinds := [.data, .data], laidTests := true, laidLooks := .later }
def TopRungsUptoCardSaid : Prop := Claim7.holds Tryz.pinned (.plain (OpenSpec.upto topRungsSpec)) topRungsUptoCard

/-- THE SECOND FORM's CARD OF 'ratlinetop.TopTaken'. -/
def topTakenUptoCard : Claim7 := { stood := { row := topTakenUptoRow, standIns := [], harness := (true, "5fcf0920eaf29a55892bd0571d2e11b4a6c8b51652a3b38484323d85d2734684"), looks := false }, kinds := [], alts := [], laidByText := true, laidKinds := [.data, .data], laidTests := true, laidLooks := .later }
def TopTakenUptoCardSaid : Prop := Claim7.holds Tryz.pinned (.plain (OpenSpec.upto topTakenSpec)) topTakenUptoCard
end Rows
end Go.Proofs.YtfnlfpodeoilgaaGreatDoor
