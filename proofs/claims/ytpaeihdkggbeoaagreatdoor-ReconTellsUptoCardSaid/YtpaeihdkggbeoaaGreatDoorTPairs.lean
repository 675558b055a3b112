/- hawserlaw06.TreePairs: the walk. Conditions: the tables of unicode/utf8 are laid; no string is longer than 1048576 bytes. -/
import Derived.Test.YtpaeihdkggbeoaaGreatDoorTDif
namespace Go.Proofs.YtpaeihdkggbeoaaGreatDoor
open Go.RowKit Go.Op

end Go.Proofs.YtpaeihdkggbeoaaGreatDoor
