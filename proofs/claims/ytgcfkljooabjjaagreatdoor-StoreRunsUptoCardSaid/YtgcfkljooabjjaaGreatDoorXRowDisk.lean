/- An argument that is a fate. Conditions: none beyond what each lemma states. -/
import Derived.Test.YtgcfkljooabjjaaGreatDoorXRowKit
import Derived.Test.YtgcfkljooabjjaaGreatDoorHe
namespace Go.Proofs.YtgcfkljooabjjaaGreatDoor
open Go.ChangeShapes Go.WideShapes Go.ChangeAt Go.RowKit Go.Deep
end Go.Proofs.YtgcfkljooabjjaaGreatDoor
