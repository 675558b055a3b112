/-
  DERIVED. GIVEN WITH THE SEED: THE CARDS: each row of YthciejabapdbgaaGreatDoorRows.lean that lists a variable, with what it lists TIED to the program's text (the seventh form; the later family's looks); each row that meets fmt, with fmt's text TOLD by the authors' own Lean function (tested against real Go, not proved from fmt's source: count such statements apart). THE CARD IS WHAT COUNTS. Prove the row's statement (the work); the ties are given (YthciejabapdbgaaGreatDoorTie.lean); close each card by the builder's one call (the guide's Derived/Test/ToyasCard.lean, 'card_holds'). Laid BY PROGRAM, IN A SANDBOX (cutbox-door.mjs). By AI agents, Wed Nov 11 2026. No macro, syntax, notation, axiom, sorry.
-/
import Derived.Test.YthciejabapdbgaaGreatDoorRows
import GoSem.ClaimSeven
namespace Go.Proofs.YthciejabapdbgaaGreatDoor
namespace Rows

/-- THE TIED CARD OF 'hawserlaw11.ScanRuns'. -/
def scanRunsCard : Claim7 := { stood := { row := scanRunsRow, standIns := [], harness := (true, "7e6eea7d3edded3ba0937d67aebb6eba7b6ff56cf25aecb0e7c534499b60577c"), looks := true }, kinds := [], alts := [], laidByText := true, laidKinds := [.data, .pinned], laidTests := true, laidLooks := .later }
def ScanRunsCardSaid : Prop := Claim7.holds Tryz.pinned (.plain (OpenSpec.ofChange scanRunsSpec)) scanRunsCard

/-- THE TIED CARD OF 'hawserlaw11.ScanFast'. -/
def scanFastCard : Claim7 := { stood := { row := scanFastRow, standIns := [], harness := (true, "7e6eea7d3edded3ba0937d67aebb6eba7b6ff56cf25aecb0e7c534499b60577c"), looks := true }, kinds := [], alts := [], laidByText := true, laidKinds := [.data, .pinned], laidTests := true, laidLooks := .later }
def ScanFastCardSaid : Prop := Claim7.holds Tryz.pinned (.plain (OpenSpec.ofChange scanFastSpec)) scanFastCard

/-- THE TIED CARD OF 'hawserlaw18.HostInstalls'. -/
def hostInstallsCard : Claim7 := { stood := { row := hostInstallsRow, standIns := [], harness := (true, "7e6eea7d3edded3ba0937d67aebb6eba7b6ff56cf25aecb0e7c534499b60577c"), looks := true }, kinds := [], alts := [], laidByText := true, laidKinds := [.data, .data, .data, .data, .pinned], laidTests := true, laidLooks := .later }
def HostInstallsCardSaid : Prop := Claim7.holds Tryz.pinned (.plain (OpenSpec.ofChange hostInstallsSpec)) hostInstallsCard

/-- THE TIED CARD OF 'hawserlaw18.HostStages'. -/
def hostStagesCard : Claim7 := { stood := { row := hostStagesRow, standIns := [], harness := (true, "7e6eea7d3edded3ba0937d67aebb6eba7b6ff56cf25aecb0e7c534499b60577c"), looks := true }, kinds := [], alts := [], laidByText := true, laidKinds := [.data, .data, .data, .data, .pinned], laidTests := true, laidLooks := .later }
def HostStagesCardSaid : Prop := Claim7.holds Tryz.pinned (.plain (OpenSpec.ofChange hostStagesSpec)) hostStagesCard

/-- THE TIED CARD OF 'hawserlaw19.MoveLess'. -/
def moveLessCard : Claim7 := { stood := { row := moveLessRow, standIns := [], harness := (true, "7e6eea7d3edded3ba0937d67aebb6eba7b6ff56cf25aecb0e7c534499b60577c"), looks := true }, kinds := [], alts := [], laidByText := true, laidKinds := [.data, .pinned], laidTests := true, laidLooks := .later }
def MoveLessCardSaid : Prop := Claim7.holds Tryz.pinned (.plain (OpenSpec.ofChange moveLessSpec)) moveLessCard

/-- THE SECOND FORM's CARD OF 'hawserlaw11.ScanRuns'. -/
def scanRunsUptoCard : Claim7 := { stood := { row := scanRunsUptoRow, standIns := [], harness := (true, "7e6eea7d3edded3ba0937d67aebb6eba7b6ff56cf25aecb0e7c534499b60577c"), looks := true }, kinds := [], alts := [], laidByText := true, laidKinds := [.data, .pinned], laidTests := true, laidLooks := .later }
def ScanRunsUptoCardSaid : Prop := Claim7.holds Tryz.pinned (.plain (OpenSpec.upto scanRunsSpec)) scanRunsUptoCard

/-- THE SECOND FORM's CARD OF 'hawserlaw11.ScanFast'. -/
def scanFastUptoCard : Claim7 := { stood := { row := scanFastUptoRow, standIns := [], harness := (true, "7e6eea7d3edded3ba0937d67aebb6eba7b6ff56cf25aecb0e7c534499b60577c"), looks := true }, kinds := [], alts := [], laidByText := true, laidKinds := [.data, .pinned], laidTests := true, laidLooks := .later }
def ScanFastUptoCardSaid : Prop := Claim7.holds Tryz.pinned (.plain (OpenSpec.upto scanFastSpec)) scanFastUptoCard

/-- THE SECOND FORM's CARD OF 'hawserlaw18.HostInstalls'. -/
def hostInstallsUptoCard : Claim7 := { stood := { row := hostInstallsUptoRow, standIns := [], harness := (true, "7e6eea7d3edded3ba0937d67aebb6eba7b6ff56cf25aecb0e7c534499b60577c"), looks := true }, kinds := [], alts := [], laidByText := true, laidKinds := [.data, .data, .data, .data, .pinned], laidTests := true, laidLooks := .later }
def HostInstallsUptoCardSaid : Prop := Claim7.holds Tryz.pinned (.plain (OpenSpec.upto hostInstallsSpec)) hostInstallsUptoCard

/-- THE SECOND FORM's CARD OF 'hawserlaw18.HostStages'. -/
def hostStagesUptoCard : Claim7 := { stood := { row := hostStagesUptoRow, standIns := [], harness := (true, "7e6eea7d3edded3ba0937d67aebb6eba7b6ff56cf25aecb0e7c534499b60577c"), looks := true }, kinds := [], alts := [], laidByText := true, laidKinds := [.data, .data, .data, .data, .pinned], laidTests := true, laidLooks := .later }
def HostStagesUptoCardSaid : Prop := Claim7.holds Tryz.pinned (.plain (OpenSpec.upto hostStagesSpec)) hostStagesUptoCard

/-- THE SECOND FORM's CARD OF 'hawserlaw19.MoveLess'. -/
def moveLessUptoCard : Claim7 := { stood := { row := moveLessUptoRow, standIns := [], harness := (true, "7e6eea7d3edded3ba0937d67aebb6eba7b6ff56cf25aecb0e7c534499b60577c"), looks := true }, kinds := [], alts := [], laidByText := true, laidKinds := [.data, .pinned], laidTests := true, laidLooks := .later }
def MoveLessUptoCardSaid : Prop := Claim7.holds Tryz.pinned (.plain (OpenSpec.upto moveLessSpec)) moveLessUptoCard
end Rows
end Go.Proofs.YthciejabapdbgaaGreatDoor
