/- An argument that is a list of calls. Conditions: none beyond what each lemma states. -/
import Derived.Test.YtgcfkljooabjjaaGreatDoorWRowDisk
import Derived.Test.YtgcfkljooabjjaaGreatDoorWRowFull
import Derived.Test.YtgcfkljooabjjaaGreatDoorFi
namespace Go.Proofs.YtgcfkljooabjjaaGreatDoor
open Go.ChangeShapes Go.WideShapes Go.ChangeAt Go.RowKit Go.Deep
end Go.Proofs.YtgcfkljooabjjaaGreatDoor
