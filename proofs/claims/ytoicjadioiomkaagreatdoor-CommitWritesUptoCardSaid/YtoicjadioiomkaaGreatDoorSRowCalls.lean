/- An argument that is a list of calls. Conditions: none beyond what each lemma states. -/
import Derived.Test.YtoicjadioiomkaaGreatDoorSRowDisk
import Derived.Test.YtoicjadioiomkaaGreatDoorSRowFull
import Derived.Test.YtoicjadioiomkaaGreatDoorJp
set_option linter.unusedVariables false
set_option linter.unusedSimpArgs false
namespace Go.Proofs.YtoicjadioiomkaaGreatDoor
open Go.ChangeShapes Go.WideShapes Go.ChangeAt Go.RowKit Go.Deep
end Go.Proofs.YtoicjadioiomkaaGreatDoor
