/- An argument that is a list of rules, where the bulk of what is read is bounded. Conditions: none beyond what each lemma states. -/
import Derived.Test.YthciejabapdbgaaGreatDoorSRowUpD
import Derived.Test.YthciejabapdbgaaGreatDoorKl
set_option linter.unusedVariables false
set_option linter.unusedSimpArgs false
namespace Go.Proofs.YthciejabapdbgaaGreatDoor
open Go.ChangeShapes Go.WideShapes Go.ChangeAt Go.RowKit Go.Deep
end Go.Proofs.YthciejabapdbgaaGreatDoor
