/-
  DERIVED. GIVEN WITH THE SEED: THE CARDS: each row of YtgcfkljooabjjaaGreatDoorRows.lean that lists a variable, with what it lists TIED to the program's text (the seventh form; the later family's looks); each row that meets fmt, with fmt's text TOLD by the authors' own Lean function (tested against real Go, not proved from fmt's source: count such statements apart). THE CARD IS WHAT COUNTS. Prove the row's statement (the work); the ties are given (YtgcfkljooabjjaaGreatDoorTie.lean); close each card by the builder's one call (the guide's Derived/Test/ToyasCard.lean, 'card_holds'). Laid BY PROGRAM, IN A SANDBOX (cutbox-door.mjs). By AI agents, Wed Nov 11 2026. No macro, syntax, notation, axiom, sorry.
-/
import Derived.Test.YtgcfkljooabjjaaGreatDoorRows
import GoSem.ClaimSeven
namespace Go.Proofs.YtgcfkljooabjjaaGreatDoor
namespace Rows

/-- THE TIED CARD OF 'hawserlaw07.DiskWhole'. -/
def diskWholeCard : Claim7 := { stood := { row := diskWholeRow, standIns := [], harness := (true, "f6f0a620baf1612e7faeec7d0bc8a98dfdd3fee21f919341e568c6350d8697f9"), looks := true }, kinds := [], alts := [], laidByText := true, laidKinds := [.data, .pinned], laidTests := true, laidLooks := .later }
def DiskWholeCardSaid : Prop := Claim7.holds Tryz.pinned (.plain (OpenSpec.ofChange diskWholeSpec)) diskWholeCard

/-- THE TIED CARD OF 'hawserlaw10.StoreWhole'. -/
def storeWholeCard : Claim7 := { stood := { row := storeWholeRow, standIns := [], harness := (true, "f6f0a620baf1612e7faeec7d0bc8a98dfdd3fee21f919341e568c6350d8697f9"), looks := true }, kinds := [], alts := [], laidByText := true, laidKinds := [.data, .pinned], laidTests := true, laidLooks := .later }
def StoreWholeCardSaid : Prop := Claim7.holds Tryz.pinned (.plain (OpenSpec.ofChange storeWholeSpec)) storeWholeCard

/-- THE TIED CARD OF 'hawserlaw10.StoreStays'. -/
def storeStaysCard : Claim7 := { stood := { row := storeStaysRow, standIns := [], harness := (true, "f6f0a620baf1612e7faeec7d0bc8a98dfdd3fee21f919341e568c6350d8697f9"), looks := true }, kinds := [], alts := [], laidByText := true, laidKinds := [.data, .pinned], laidTests := true, laidLooks := .later }
def StoreStaysCardSaid : Prop := Claim7.holds Tryz.pinned (.plain (OpenSpec.ofChange storeStaysSpec)) storeStaysCard

/-- THE TIED CARD OF 'hawserlaw10.StoreApart'. -/
def storeApartCard : Claim7 := { stood := { row := storeApartRow, standIns := [], harness := (true, "f6f0a620baf1612e7faeec7d0bc8a98dfdd3fee21f919341e568c6350d8697f9"), looks := true }, kinds := [], alts := [], laidByText := true, laidKinds := [.data, .pinned], laidTests := true, laidLooks := .later }
def StoreApartCardSaid : Prop := Claim7.holds Tryz.pinned (.plain (OpenSpec.ofChange storeApartSpec)) storeApartCard

/-- THE TIED CARD OF 'hawserlaw10.StoreRuns'. -/
def storeRunsCard : Claim7 := { stood := { row := storeRunsRow, standIns := [], harness := (true, "f6f0a620baf1612e7faeec7d0bc8a98dfdd3fee21f919341e568c6350d8697f9"), looks := true }, kinds := [], alts := [], laidByText := true, laidKinds := [.data, .pinned], laidTests := true, laidLooks := .later }
def StoreRunsCardSaid : Prop := Claim7.holds Tryz.pinned (.plain (OpenSpec.ofChange storeRunsSpec)) storeRunsCard

/-- THE TIED CARD OF 'hawserlaw07.DiskSafe'. -/
def diskSafeCard : Claim7 := { stood := { row := diskSafeRow, standIns := [], harness := (true, "f6f0a620baf1612e7faeec7d0bc8a98dfdd3fee21f919341e568c6350d8697f9"), looks := true }, kinds := [], alts := [], laidByText := true, laidKinds := [.data, .pinned], laidTests := true, laidLooks := .later }
def DiskSafeCardSaid : Prop := Claim7.holds Tryz.pinned (.plain (OpenSpec.ofChange diskSafeSpec)) diskSafeCard

/-- THE TIED CARD OF 'hawserlaw07.DiskReads'. -/
def diskReadsCard : Claim7 := { stood := { row := diskReadsRow, standIns := [], harness := (true, "f6f0a620baf1612e7faeec7d0bc8a98dfdd3fee21f919341e568c6350d8697f9"), looks := true }, kinds := [], alts := [], laidByText := true, laidKinds := [.data, .pinned], laidTests := true, laidLooks := .later }
def DiskReadsCardSaid : Prop := Claim7.holds Tryz.pinned (.plain (OpenSpec.ofChange diskReadsSpec)) diskReadsCard

/-- THE TIED CARD OF 'hawserlaw07.DiskStamps'. -/
def diskStampsCard : Claim7 := { stood := { row := diskStampsRow, standIns := [], harness := (true, "f6f0a620baf1612e7faeec7d0bc8a98dfdd3fee21f919341e568c6350d8697f9"), looks := true }, kinds := [], alts := [], laidByText := true, laidKinds := [.data, .pinned], laidTests := true, laidLooks := .later }
def DiskStampsCardSaid : Prop := Claim7.holds Tryz.pinned (.plain (OpenSpec.ofChange diskStampsSpec)) diskStampsCard

/-- THE TIED CARD OF 'hawserlaw07.DiskRuns'. -/
def diskRunsCard : Claim7 := { stood := { row := diskRunsRow, standIns := [], harness := (true, "f6f0a620baf1612e7faeec7d0bc8a98dfdd3fee21f919341e568c6350d8697f9"), looks := true }, kinds := [], alts := [], laidByText := true, laidKinds := [.data, .pinned], laidTests := true, laidLooks := .later }
def DiskRunsCardSaid : Prop := Claim7.holds Tryz.pinned (.plain (OpenSpec.ofChange diskRunsSpec)) diskRunsCard

/-- THE TIED CARD OF 'hawserlaw07.DiskOff'. -/
def diskOffCard : Claim7 := { stood := { row := diskOffRow, standIns := [], harness := (true, "f6f0a620baf1612e7faeec7d0bc8a98dfdd3fee21f919341e568c6350d8697f9"), looks := true }, kinds := [], alts := [], laidByText := true, laidKinds := [.data, .pinned], laidTests := true, laidLooks := .later }
def DiskOffCardSaid : Prop := Claim7.holds Tryz.pinned (.plain (OpenSpec.ofChange diskOffSpec)) diskOffCard

/-- THE SECOND FORM's CARD OF 'hawserlaw07.DiskWhole'. -/
def diskWholeUptoCard : Claim7 := { stood := { row := diskWholeUptoRow, standIns := [], harness := (true, "f6f0a620baf1612e7faeec7d0bc8a98dfdd3fee21f919341e568c6350d8697f9"), looks := true }, kinds := [], alts := [], laidByText := true, laidKinds := [.data, .pinned], laidTests := true, laidLooks := .later }
def DiskWholeUptoCardSaid : Prop := Claim7.holds Tryz.pinned (.plain (OpenSpec.upto diskWholeSpec)) diskWholeUptoCard

/-- THE SECOND FORM's CARD OF 'hawserlaw10.StoreWhole'. -/
def storeWholeUptoCard : Claim7 := { stood := { row := storeWholeUptoRow, standIns := [], harness := (true, "f6f0a620baf1612e7faeec7d0bc8a98dfdd3fee21f919341e568c6350d8697f9"), looks := true }, kinds := [], alts := [], laidByText := true, laidKinds := [.data, .pinned], laidTests := true, laidLooks := .later }
def StoreWholeUptoCardSaid : Prop := Claim7.holds Tryz.pinned (.plain (OpenSpec.upto storeWholeSpec)) storeWholeUptoCard

/-- THE SECOND FORM's CARD OF 'hawserlaw10.StoreStays'. -/
def storeStaysUptoCard : Claim7 := { stood := { row := storeStaysUptoRow, standIns := [], harness := (true, "f6f0a620baf1612e7faeec7d0bc8a98dfdd3fee21f919341e568c6350d8697f9"), looks := true }, kinds := [], alts := [], laidByText := true, laidKinds := [.data, .pinned], laidTests := true, laidLooks := .later }
def StoreStaysUptoCardSaid : Prop := Claim7.holds Tryz.pinned (.plain (OpenSpec.upto storeStaysSpec)) storeStaysUptoCard

/-- THE SECOND FORM's CARD OF 'hawserlaw10.StoreApart'. -/
def storeApartUptoCard : Claim7 := { stood := { row := storeApartUptoRow, standIns := [], harness := (true, "f6f0a620baf1612e7faeec7d0bc8a98dfdd3fee21f919341e568c6350d8697f9"), looks := true }, kinds := [], alts := [], laidByText := true, laidKinds := [.data, .pinned], laidTests := true, laidLooks := .later }
def StoreApartUptoCardSaid : Prop := Claim7.holds Tryz.pinned (.plain (OpenSpec.upto storeApartSpec)) storeApartUptoCard

/-- THE SECOND FORM's CARD OF 'hawserlaw10.StoreRuns'. -/
def storeRunsUptoCard : Claim7 := { stood := { row := storeRunsUptoRow, standIns := [], harness := (true, "f6f0a620baf1612e7faeec7d0bc8a98dfdd3fee21f919341e568c6350d8697f9"), looks := true }, kinds := [], alts := [], laidByText := true, laidKinds := [.data, .pinned], laidTests := true, laidLooks := .later }
def StoreRunsUptoCardSaid : Prop := Claim7.holds Tryz.pinned (.plain (OpenSpec.upto storeRunsSpec)) storeRunsUptoCard

/-- THE SECOND FORM's CARD OF 'hawserlaw07.DiskSafe'. -/
def diskSafeUptoCard : Claim7 := { stood := { row := diskSafeUptoRow, standIns := [], harness := (true, "f6f0a620baf1612e7faeec7d0bc8a98dfdd3fee21f919341e568c6350d8697f9"), looks := true }, kinds := [], alts := [], laidByText := true, laidKinds := [.data, .pinned], laidTests := true, laidLooks := .later }
def DiskSafeUptoCardSaid : Prop := Claim7.holds Tryz.pinned (.plain (OpenSpec.upto diskSafeSpec)) diskSafeUptoCard

/-- THE SECOND FORM's CARD OF 'hawserlaw07.DiskReads'. -/
def diskReadsUptoCard : Claim7 := { stood := { row := diskReadsUptoRow, standIns := [], harness := (true, "f6f0a620baf1612e7faeec7d0bc8a98dfdd3fee21f919341e568c6350d8697f9"), looks := true }, kinds := [], alts := [], laidByText := true, laidKinds := [.data, .pinned], laidTests := true, laidLooks := .later }
def DiskReadsUptoCardSaid : Prop := Claim7.holds Tryz.pinned (.plain (OpenSpec.upto diskReadsSpec)) diskReadsUptoCard

/-- THE SECOND FORM's CARD OF 'hawserlaw07.DiskStamps'. -/
def diskStampsUptoCard : Claim7 := { stood := { row := diskStampsUptoRow, standIns := [], harness := (true, "f6f0a620baf1612e7faeec7d0bc8a98dfdd3fee21f919341e568c6350d8697f9"), looks := true }, kinds := [], alts := [], laidByText := true, laidKinds := [.data, .pinned], laidTests := true, laidLooks := .later }
def DiskStampsUptoCardSaid : Prop := Claim7.holds Tryz.pinned (.plain (OpenSpec.upto diskStampsSpec)) diskStampsUptoCard

/-- THE SECOND FORM's CARD OF 'hawserlaw07.DiskRuns'. -/
def diskRunsUptoCard : Claim7 := { stood := { row := diskRunsUptoRow, standIns := [], harness := (true, "f6f0a620baf1612e7faeec7d0bc8a98dfdd3fee21f919341e568c6350d8697f9"), looks := true }, kinds := [], alts := [], laidByText := true, laidKinds := [.data, .pinned], laidTests := true, laidLooks := .later }
def DiskRunsUptoCardSaid : Prop := Claim7.holds Tryz.pinned (.plain (OpenSpec.upto diskRunsSpec)) diskRunsUptoCard

/-- THE SECOND FORM's CARD OF 'hawserlaw07.DiskOff'. -/
def diskOffUptoCard : Claim7 := { stood := { row := diskOffUptoRow, standIns := [], harness := (true, "f6f0a620baf1612e7faeec7d0bc8a98dfdd3fee21f919341e568c6350d8697f9"), looks := true }, kinds := [], alts := [], laidByText := true, laidKinds := [.data, .pinned], laidTests := true, laidLooks := .later }
def DiskOffUptoCardSaid : Prop := Claim7.holds Tryz.pinned (.plain (OpenSpec.upto diskOffSpec)) diskOffUptoCard
end Rows
end Go.Proofs.YtgcfkljooabjjaaGreatDoor
