/-
  DERIVED. GIVEN WITH THE SEED: THE CARDS: each row of YtoicjadioiomkaaGreatDoorRows.lean that lists a variable, with what it lists TIED to the program's text (the seventh form; the later family's looks); each row that meets fmt, with fmt's text TOLD by the authors' own Lean function (tested against real Go, not proved from fmt's source: count such statements apart). THE CARD IS WHAT COUNTS. Prove the row's statement (the work); the ties are given (YtoicjadioiomkaaGreatDoorTie.lean); close each card by the builder's one call (the guide's Derived/Test/ToyasCard.lean, 'card_holds'). Laid BY PROGRAM, IN A SANDBOX (cutbox-door.mjs). By AI agents, Wed Nov 11 2026. No macro, syntax, notation, axiom, sorry.
-/
import Derived.Test.YtoicjadioiomkaaGreatDoorRows
import GoSem.ClaimSeven
namespace Go.Proofs.YtoicjadioiomkaaGreatDoor
namespace Rows

/-- THE TIED CARD OF 'hawserlaw11.ScanHides'. -/
def scanHidesCard : Claim7 := { stood := { row := scanHidesRow, standIns := [], harness := (true, "ee5d55f197a43c704c9d42c7294dc0f2cc43c901121830f876fe8756fff3ad27"), looks := true }, kinds := [], alts := [], laidByText := true, laidKinds := [.data, .pinned], laidTests := true, laidLooks := .later }
def ScanHidesCardSaid : Prop := Claim7.holds Tryz.pinned (.plain (OpenSpec.ofChange scanHidesSpec)) scanHidesCard

/-- THE TIED CARD OF 'hawserlaw11.ScanSees'. -/
def scanSeesCard : Claim7 := { stood := { row := scanSeesRow, standIns := [], harness := (true, "ee5d55f197a43c704c9d42c7294dc0f2cc43c901121830f876fe8756fff3ad27"), looks := true }, kinds := [], alts := [], laidByText := true, laidKinds := [.data, .pinned], laidTests := true, laidLooks := .later }
def ScanSeesCardSaid : Prop := Claim7.holds Tryz.pinned (.plain (OpenSpec.ofChange scanSeesSpec)) scanSeesCard

/-- THE TIED CARD OF 'hawserlaw11.ScanRuns'. -/
def scanRunsCard : Claim7 := { stood := { row := scanRunsRow, standIns := [], harness := (true, "ee5d55f197a43c704c9d42c7294dc0f2cc43c901121830f876fe8756fff3ad27"), looks := true }, kinds := [], alts := [], laidByText := true, laidKinds := [.data, .pinned], laidTests := true, laidLooks := .later }
def ScanRunsCardSaid : Prop := Claim7.holds Tryz.pinned (.plain (OpenSpec.ofChange scanRunsSpec)) scanRunsCard

/-- THE TIED CARD OF 'hawserlaw11.ScanFast'. -/
def scanFastCard : Claim7 := { stood := { row := scanFastRow, standIns := [], harness := (true, "ee5d55f197a43c704c9d42c7294dc0f2cc43c901121830f876fe8756fff3ad27"), looks := true }, kinds := [], alts := [], laidByText := true, laidKinds := [.data, .pinned], laidTests := true, laidLooks := .later }
def ScanFastCardSaid : Prop := Claim7.holds Tryz.pinned (.plain (OpenSpec.ofChange scanFastSpec)) scanFastCard

/-- THE TIED CARD OF 'hawserlaw20.CommitDamaged'. -/
def commitDamagedCard : Claim7 := { stood := { row := commitDamagedRow, standIns := [], harness := (true, "ee5d55f197a43c704c9d42c7294dc0f2cc43c901121830f876fe8756fff3ad27"), looks := true }, kinds := [], alts := [], laidByText := true, laidKinds := [.data, .pinned], laidTests := true, laidLooks := .later }
def CommitDamagedCardSaid : Prop := Claim7.holds Tryz.pinned (.plain (OpenSpec.ofChange commitDamagedSpec)) commitDamagedCard

/-- THE TIED CARD OF 'hawserlaw20.CommitWrites'. -/
def commitWritesCard : Claim7 := { stood := { row := commitWritesRow, standIns := [], harness := (true, "ee5d55f197a43c704c9d42c7294dc0f2cc43c901121830f876fe8756fff3ad27"), looks := true }, kinds := [], alts := [], laidByText := true, laidKinds := [.data, .pinned], laidTests := true, laidLooks := .later }
def CommitWritesCardSaid : Prop := Claim7.holds Tryz.pinned (.plain (OpenSpec.ofChange commitWritesSpec)) commitWritesCard

/-- THE TIED CARD OF 'hawserlaw20.CommitStays'. -/
def commitStaysCard : Claim7 := { stood := { row := commitStaysRow, standIns := [], harness := (true, "ee5d55f197a43c704c9d42c7294dc0f2cc43c901121830f876fe8756fff3ad27"), looks := true }, kinds := [], alts := [], laidByText := true, laidKinds := [.data, .pinned], laidTests := true, laidLooks := .later }
def CommitStaysCardSaid : Prop := Claim7.holds Tryz.pinned (.plain (OpenSpec.ofChange commitStaysSpec)) commitStaysCard

/-- THE SECOND FORM's CARD OF 'hawserlaw11.ScanHides'. -/
def scanHidesUptoCard : Claim7 := { stood := { row := scanHidesUptoRow, standIns := [], harness := (true, "ee5d55f197a43c704c9d42c7294dc0f2cc43c901121830f876fe8756fff3ad27"), looks := true }, kinds := [], alts := [], laidByText := true, laidKinds := [.data, .pinned], laidTests := true, laidLooks := .later }
def ScanHidesUptoCardSaid : Prop := Claim7.holds Tryz.pinned (.plain (OpenSpec.upto scanHidesSpec)) scanHidesUptoCard

/-- THE SECOND FORM's CARD OF 'hawserlaw11.ScanSees'. -/
def scanSeesUptoCard : Claim7 := { stood := { row := scanSeesUptoRow, standIns := [], harness := (true, "ee5d55f197a43c704c9d42c7294dc0f2cc43c901121830f876fe8756fff3ad27"), looks := true }, kinds := [], alts := [], laidByText := true, laidKinds := [.data, .pinned], laidTests := true, laidLooks := .later }
def ScanSeesUptoCardSaid : Prop := Claim7.holds Tryz.pinned (.plain (OpenSpec.upto scanSeesSpec)) scanSeesUptoCard

/-- THE SECOND FORM's CARD OF 'hawserlaw11.ScanRuns'. -/
def scanRunsUptoCard : Claim7 := { stood := { row := scanRunsUptoRow, standIns := [], harness := (true, "ee5d55f197a43c704c9d42c7294dc0f2cc43c901121830f876fe8756fff3ad27"), looks := true }, kinds := [], alts := [], laidByText := true, laidKinds := [.data, .pinned], laidTests := true, laidLooks := .later }
def ScanRunsUptoCardSaid : Prop := Claim7.holds Tryz.pinned (.plain (OpenSpec.upto scanRunsSpec)) scanRunsUptoCard

/-- THE SECOND FORM's CARD OF 'hawserlaw11.ScanFast'. -/
def scanFastUptoCard : Claim7 := { stood := { row := scanFastUptoRow, standIns := [], harness := (true, "ee5d55f197a43c704c9d42c7294dc0f2cc43c901121830f876fe8756fff3ad27"), looks := true }, kinds := [], alts := [], laidByText := true, laidKinds := [.data, .pinned], laidTests := true, laidLooks := .later }
def ScanFastUptoCardSaid : Prop := Claim7.holds Tryz.pinned (.plain (OpenSpec.upto scanFastSpec)) scanFastUptoCard

/-- THE SECOND FORM's CARD OF 'hawserlaw20.CommitDamaged'. -/
def commitDamagedUptoCard : Claim7 := { stood := { row := commitDamagedUptoRow, standIns := [], harness := (true, "ee5d55f197a43c704c9d42c7294dc0f2cc43c901121830f876fe8756fff3ad27"), looks := true }, kinds := [], alts := [], laidByText := true, laidKinds := [.data, .pinned], laidTests := true, laidLooks := .later }
def CommitDamagedUptoCardSaid : Prop := Claim7.holds Tryz.pinned (.plain (OpenSpec.upto commitDamagedSpec)) commitDamagedUptoCard

/-- THE SECOND FORM's CARD OF 'hawserlaw20.CommitWrites'. -/
def commitWritesUptoCard : Claim7 := { stood := { row := commitWritesUptoRow, standIns := [], harness := (true, "ee5d55f197a43c704c9d42c7294dc0f2cc43c901121830f876fe8756fff3ad27"), looks := true }, kinds := [], alts := [], laidByText := true, laidKinds := [.data, .pinned], laidTests := true, laidLooks := .later }
def CommitWritesUptoCardSaid : Prop := Claim7.holds Tryz.pinned (.plain (OpenSpec.upto commitWritesSpec)) commitWritesUptoCard

/-- THE SECOND FORM's CARD OF 'hawserlaw20.CommitStays'. -/
def commitStaysUptoCard : Claim7 := { stood := { row := commitStaysUptoRow, standIns := [], harness := (true, "ee5d55f197a43c704c9d42c7294dc0f2cc43c901121830f876fe8756fff3ad27"), looks := true }, kinds := [], alts := [], laidByText := true, laidKinds := [.data, .pinned], laidTests := true, laidLooks := .later }
def CommitStaysUptoCardSaid : Prop := Claim7.holds Tryz.pinned (.plain (OpenSpec.upto commitStaysSpec)) commitStaysUptoCard
end Rows
end Go.Proofs.YtoicjadioiomkaaGreatDoor
