/- An argument that is a list of calls. Conditions: none beyond what each lemma states. -/
import Derived.Test.YthciejabapdbgaaGreatDoorSRowDisk
import Derived.Test.YthciejabapdbgaaGreatDoorSRowFull
import Derived.Test.YthciejabapdbgaaGreatDoorKi
set_option linter.unusedVariables false
set_option linter.unusedSimpArgs false
namespace Go.Proofs.YthciejabapdbgaaGreatDoor
open Go.ChangeShapes Go.WideShapes Go.ChangeAt Go.RowKit Go.Deep
end Go.Proofs.YthciejabapdbgaaGreatDoor
