/- An argument that is a list of calls. Conditions: none beyond what each lemma states. -/
import Derived.Test.YtgcfkljooabjjaaGreatDoorXRowDisk
import Derived.Test.YtgcfkljooabjjaaGreatDoorXRowFull
import Derived.Test.YtgcfkljooabjjaaGreatDoorHi
namespace Go.Proofs.YtgcfkljooabjjaaGreatDoor
open Go.ChangeShapes Go.WideShapes Go.ChangeAt Go.RowKit Go.Deep
end Go.Proofs.YtgcfkljooabjjaaGreatDoor
