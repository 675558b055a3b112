/- An argument that is a list of nodes, with its capacity. Conditions: none beyond what each lemma states. -/
import Derived.Test.YtoicjadioiomkaaGreatDoorSRowKit
namespace Go.Proofs.YtoicjadioiomkaaGreatDoor
open Go.ChangeShapes Go.WideShapes Go.ChangeAt Go.RowKit Go.Deep
end Go.Proofs.YtoicjadioiomkaaGreatDoor
