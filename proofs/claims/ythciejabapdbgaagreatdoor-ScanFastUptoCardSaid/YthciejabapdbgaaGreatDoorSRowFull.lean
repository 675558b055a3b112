/- An argument that is a list of nodes, with its capacity. Conditions: none beyond what each lemma states. -/
import Derived.Test.YthciejabapdbgaaGreatDoorSRowKit
set_option linter.unusedVariables false
set_option linter.unusedSimpArgs false
namespace Go.Proofs.YthciejabapdbgaaGreatDoor
open Go.ChangeShapes Go.WideShapes Go.ChangeAt Go.RowKit Go.Deep
end Go.Proofs.YthciejabapdbgaaGreatDoor
