/-
  DERIVED. GIVEN WITH THE SEED: THE CARDS: each row of YtpaeihdkggbeoaaGreatDoorRows.lean that lists a variable, with what it lists TIED to the program's text (the seventh form; the later family's looks); each row that meets fmt, with fmt's text TOLD by the authors' own Lean function (tested against real Go, not proved from fmt's source: count such statements apart). THE CARD IS WHAT COUNTS. Prove the row's statement (the work); the ties are given (YtpaeihdkggbeoaaGreatDoorTie.lean); close each card by the builder's one call (the guide's Derived/Test/ToyasCard.lean, 'card_holds'). Laid BY PROGRAM, IN A SANDBOX (cutbox-door.mjs). By AI agents, Wed Nov 11 2026. No macro, syntax, notation, axiom, sorry.
-/
import Derived.Test.YtpaeihdkggbeoaaGreatDoorRows
import GoSem.ClaimSeven
namespace Go.Proofs.YtpaeihdkggbeoaaGreatDoor
namespace Rows

/-- THE TIED CARD OF 'hawserlaw12.ReconTells'. -/
def reconTellsCard : Claim7 := { stood := { row := reconTellsRow, standIns := [], harness := (true, "45d660edc390362d40d513e725481bcde7b862243e23638da34d13e01417767a"), looks := false }, kinds := [], alts := [], laidByText := true, laidKinds := [.data, .pinned], laidTests := true, laidLooks := .later }
def ReconTellsCardSaid : Prop := Claim7.holds Tryz.pinned (.plain (OpenSpec.ofChange reconTellsSpec)) reconTellsCard

/-- THE TIED CARD OF 'hawserlaw12.ReconApart'. -/
def reconApartCard : Claim7 := { stood := { row := reconApartRow, standIns := [], harness := (true, "45d660edc390362d40d513e725481bcde7b862243e23638da34d13e01417767a"), looks := false }, kinds := [], alts := [], laidByText := true, laidKinds := [.data, .pinned], laidTests := true, laidLooks := .later }
def ReconApartCardSaid : Prop := Claim7.holds Tryz.pinned (.plain (OpenSpec.ofChange reconApartSpec)) reconApartCard

/-- THE SECOND FORM's CARD OF 'hawserlaw12.ReconTells'. -/
def reconTellsUptoCard : Claim7 := { stood := { row := reconTellsUptoRow, standIns := [], harness := (true, "45d660edc390362d40d513e725481bcde7b862243e23638da34d13e01417767a"), looks := false }, kinds := [], alts := [], laidByText := true, laidKinds := [.data, .pinned], laidTests := true, laidLooks := .later }
def ReconTellsUptoCardSaid : Prop := Claim7.holds Tryz.pinned (.plain (OpenSpec.upto reconTellsSpec)) reconTellsUptoCard

/-- THE SECOND FORM's CARD OF 'hawserlaw12.ReconApart'. -/
def reconApartUptoCard : Claim7 := { stood := { row := reconApartUptoRow, standIns := [], harness := (true, "45d660edc390362d40d513e725481bcde7b862243e23638da34d13e01417767a"), looks := false }, kinds := [], alts := [], laidByText := true, laidKinds := [.data, .pinned], laidTests := true, laidLooks := .later }
def ReconApartUptoCardSaid : Prop := Claim7.holds Tryz.pinned (.plain (OpenSpec.upto reconApartSpec)) reconApartUptoCard
end Rows
end Go.Proofs.YtpaeihdkggbeoaaGreatDoor
