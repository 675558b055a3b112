/- An argument that is a fate. Conditions: none beyond what each lemma states. -/
import Derived.Test.YtgcfkljooabjjaaGreatDoorWRowKit
import Derived.Test.YtgcfkljooabjjaaGreatDoorFe
namespace Go.Proofs.YtgcfkljooabjjaaGreatDoor
open Go.ChangeShapes Go.WideShapes Go.ChangeAt Go.RowKit Go.Deep
end Go.Proofs.YtgcfkljooabjjaaGreatDoor
