/-
  DERIVED. GIVEN WITH THE SEED: THE CARDS: each row of YtpaeihdkggbeoaaDoorRows.lean that lists a variable, with what it lists TIED to the program's text (the seventh form; the later family's looks); each row that meets fmt, with fmt's text TOLD by the authors' own Lean function (tested against real Go, not proved from fmt's source: count such statements apart). THE CARD IS WHAT COUNTS. Prove the row's statement (the work); the ties are given (YtpaeihdkggbeoaaDoorTie.lean); close each card by the builder's one call (the guide's Derived/Test/ToyasCard.lean, 'card_holds'). Laid BY PROGRAM, IN A SANDBOX (cutbox-door.mjs). By AI agents, Wed Nov 11 2026. No macro, syntax, notation, axiom, sorry.
-/
import Derived.Test.YtpaeihdkggbeoaaDoorRows
import GoSem.ClaimSeven
namespace Go.Proofs.YtpaeihdkggbeoaaDoor
namespace Rows

/-- THE TIED CARD OF 'hawserlaw06.TreeNames'. -/
def treeNamesCard : Claim7 := { stood := { row := treeNamesRow, standIns := [], harness := (true, "6168589e57211e957a7875a66f25b334361ccaf8c6fe49a129c444df3ec9575f"), looks := false }, kinds := [], alts := [], laidByText := true, laidKinds := [.data, .pinned], laidTests := true, laidLooks := .later }
def TreeNamesCardSaid : Prop := Claim7.holds Tryd.pinned (.plain (OpenSpec.ofChange treeNamesSpec)) treeNamesCard

/-- THE TIED CARD OF 'hawserlaw06.TreePairs'. -/
def treePairsCard : Claim7 := { stood := { row := treePairsRow, standIns := [], harness := (true, "6168589e57211e957a7875a66f25b334361ccaf8c6fe49a129c444df3ec9575f"), looks := false }, kinds := [], alts := [], laidByText := true, laidKinds := [.data, .pinned], laidTests := true, laidLooks := .later }
def TreePairsCardSaid : Prop := Claim7.holds Tryd.pinned (.plain (OpenSpec.ofChange treePairsSpec)) treePairsCard

/-- THE TIED CARD OF 'hawserlaw06.TreePuts'. -/
def treePutsCard : Claim7 := { stood := { row := treePutsRow, standIns := [], harness := (true, "6168589e57211e957a7875a66f25b334361ccaf8c6fe49a129c444df3ec9575f"), looks := false }, kinds := [], alts := [], laidByText := true, laidKinds := [.data, .pinned], laidTests := true, laidLooks := .later }
def TreePutsCardSaid : Prop := Claim7.holds Tryd.pinned (.plain (OpenSpec.ofChange treePutsSpec)) treePutsCard

/-- THE TIED CARD OF 'hawserlaw06.TreeMoves'. -/
def treeMovesCard : Claim7 := { stood := { row := treeMovesRow, standIns := [], harness := (true, "6168589e57211e957a7875a66f25b334361ccaf8c6fe49a129c444df3ec9575f"), looks := false }, kinds := [], alts := [], laidByText := true, laidKinds := [.data, .pinned], laidTests := true, laidLooks := .later }
def TreeMovesCardSaid : Prop := Claim7.holds Tryd.pinned (.plain (OpenSpec.ofChange treeMovesSpec)) treeMovesCard

/-- THE TIED CARD OF 'hawserlaw06.TreeBack'. -/
def treeBackCard : Claim7 := { stood := { row := treeBackRow, standIns := [], harness := (true, "6168589e57211e957a7875a66f25b334361ccaf8c6fe49a129c444df3ec9575f"), looks := false }, kinds := [], alts := [], laidByText := true, laidKinds := [.data, .pinned], laidTests := true, laidLooks := .later }
def TreeBackCardSaid : Prop := Claim7.holds Tryd.pinned (.plain (OpenSpec.ofChange treeBackSpec)) treeBackCard

/-- THE TIED CARD OF 'hawserlaw12.ReconEven'. -/
def reconEvenCard : Claim7 := { stood := { row := reconEvenRow, standIns := [], harness := (true, "6168589e57211e957a7875a66f25b334361ccaf8c6fe49a129c444df3ec9575f"), looks := false }, kinds := [], alts := [], laidByText := true, laidKinds := [.data, .pinned], laidTests := true, laidLooks := .later }
def ReconEvenCardSaid : Prop := Claim7.holds Tryd.pinned (.plain (OpenSpec.ofChange reconEvenSpec)) reconEvenCard

/-- THE TIED CARD OF 'hawserlaw12.ReconSame'. -/
def reconSameCard : Claim7 := { stood := { row := reconSameRow, standIns := [], harness := (true, "6168589e57211e957a7875a66f25b334361ccaf8c6fe49a129c444df3ec9575f"), looks := false }, kinds := [], alts := [], laidByText := true, laidKinds := [.data, .pinned], laidTests := true, laidLooks := .later }
def ReconSameCardSaid : Prop := Claim7.holds Tryd.pinned (.plain (OpenSpec.ofChange reconSameSpec)) reconSameCard

/-- THE SECOND FORM's CARD OF 'hawserlaw06.TreeNames'. -/
def treeNamesUptoCard : Claim7 := { stood := { row := treeNamesUptoRow, standIns := [], harness := (true, "6168589e57211e957a7875a66f25b334361ccaf8c6fe49a129c444df3ec9575f"), looks := false }, kinds := [], alts := [], laidByText := true, laidKinds := [.data, .pinned], laidTests := true, laidLooks := .later }
def TreeNamesUptoCardSaid : Prop := Claim7.holds Tryd.pinned (.plain (OpenSpec.upto treeNamesSpec)) treeNamesUptoCard

/-- THE SECOND FORM's CARD OF 'hawserlaw06.TreePairs'. -/
def treePairsUptoCard : Claim7 := { stood := { row := treePairsUptoRow, standIns := [], harness := (true, "6168589e57211e957a7875a66f25b334361ccaf8c6fe49a129c444df3ec9575f"), looks := false }, kinds := [], alts := [], laidByText := true, laidKinds := [.data, .pinned], laidTests := true, laidLooks := .later }
def TreePairsUptoCardSaid : Prop := Claim7.holds Tryd.pinned (.plain (OpenSpec.upto treePairsSpec)) treePairsUptoCard

/-- THE SECOND FORM's CARD OF 'hawserlaw06.TreePuts'. -/
def treePutsUptoCard : Claim7 := { stood := { row := treePutsUptoRow, standIns := [], harness := (true, "6168589e57211e957a7875a66f25b334361ccaf8c6fe49a129c444df3ec9575f"), looks := false }, kinds := [], alts := [], laidByText := true, laidKinds := [.data, .pinned], laidTests := true, laidLooks := .later }
def TreePutsUptoCardSaid : Prop := Claim7.holds Tryd.pinned (.plain (OpenSpec.upto treePutsSpec)) treePutsUptoCard

/-- THE SECOND FORM's CARD OF 'hawserlaw06.TreeMoves'. -/
def treeMovesUptoCard : Claim7 := { stood := { row := treeMovesUptoRow, standIns := [], harness := (true, "6168589e57211e957a7875a66f25b334361ccaf8c6fe49a129c444df3ec9575f"), looks := false }, kinds := [], alts := [], laidByText := true, laidKinds := [.data, .pinned], laidTests := true, laidLooks := .later }
def TreeMovesUptoCardSaid : Prop := Claim7.holds Tryd.pinned (.plain (OpenSpec.upto treeMovesSpec)) treeMovesUptoCard

/-- THE SECOND FORM's CARD OF 'hawserlaw06.TreeBack'. -/
def treeBackUptoCard : Claim7 := { stood := { row := treeBackUptoRow, standIns := [], harness := (true, "6168589e57211e957a7875a66f25b334361ccaf8c6fe49a129c444df3ec9575f"), looks := false }, kinds := [], alts := [], laidByText := true, laidKinds := [.data, .pinned], laidTests := true, laidLooks := .later }
def TreeBackUptoCardSaid : Prop := Claim7.holds Tryd.pinned (.plain (OpenSpec.upto treeBackSpec)) treeBackUptoCard

/-- THE SECOND FORM's CARD OF 'hawserlaw12.ReconEven'. -/
def reconEvenUptoCard : Claim7 := { stood := { row := reconEvenUptoRow, standIns := [], harness := (true, "6168589e57211e957a7875a66f25b334361ccaf8c6fe49a129c444df3ec9575f"), looks := false }, kinds := [], alts := [], laidByText := true, laidKinds := [.data, .pinned], laidTests := true, laidLooks := .later }
def ReconEvenUptoCardSaid : Prop := Claim7.holds Tryd.pinned (.plain (OpenSpec.upto reconEvenSpec)) reconEvenUptoCard

/-- THE SECOND FORM's CARD OF 'hawserlaw12.ReconSame'. -/
def reconSameUptoCard : Claim7 := { stood := { row := reconSameUptoRow, standIns := [], harness := (true, "6168589e57211e957a7875a66f25b334361ccaf8c6fe49a129c444df3ec9575f"), looks := false }, kinds := [], alts := [], laidByText := true, laidKinds := [.data, .pinned], laidTests := true, laidLooks := .later }
def ReconSameUptoCardSaid : Prop := Claim7.holds Tryd.pinned (.plain (OpenSpec.upto reconSameSpec)) reconSameUptoCard
end Rows
end Go.Proofs.YtpaeihdkggbeoaaDoor
