/- An argument that is a fate. Conditions: none beyond what each lemma states. -/
import Derived.Test.YtoicjadioiomkaaGreatDoorSRowKit
import Derived.Test.YtoicjadioiomkaaGreatDoorIe
namespace Go.Proofs.YtoicjadioiomkaaGreatDoor
open Go.ChangeShapes Go.WideShapes Go.ChangeAt Go.RowKit Go.Deep
end Go.Proofs.YtoicjadioiomkaaGreatDoor
