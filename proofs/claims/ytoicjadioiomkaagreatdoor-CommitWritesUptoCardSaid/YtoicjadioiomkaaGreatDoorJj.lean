/- Texts of this claim, one behind the other: GlobH GlobM GlobN GlobQ GlobR GlobC Calm RunK RunP AskE StampLaw RunE RunC. Conditions: what each lemma states. -/
import Derived.Test.YtoicjadioiomkaaGreatDoorJi
import Derived.Test.YtoicjadioiomkaaGreatDoorJb
import Derived.Test.YtoicjadioiomkaaGreatDoorJe
import Derived.Deep.RegionHeld3
import Derived.Lib.QuietBelow
import Derived.Laws.EntriesVeiled
import Derived.Test.YtoicjadioiomkaaGreatDoorJh
set_option linter.unusedVariables false
set_option linter.unusedSimpArgs false
namespace Go.Proofs.YtoicjadioiomkaaGreatDoor
section
open Go.RowKit Go.Op
open Go.Lib (validD decodeL)
end
section
open Go.RowKit Go.Op
open Go.Lib (validD decodeL)
end
section
open Go.RowKit Go.Op
open Go.Lib (validD decodeL)
section
variable {p0 n0 p n ag fr : ByteArray} {st : Bool}
end
end
section
open Go.RowKit Go.Op Go.Maps Go.Sort
section
variable {w w' : World} {g2 g3 g5 g6 gm pc nc : Nat} {pp np : Option Addr} {P N : List ByteArray}
end
end
section
open Go.RowKit Go.Op Go.Maps
section
variable {g2 g3 g5 g6 gm pc nc : Nat} {pp np : Option Addr} {P N : List ByteArray}
end
end
section
open Go.RowKit Go.Op
open Go.Lib (validD decodeL)
end
section
open Go.RowKit Go.Op Go.Maps
end
section
open Go.RowKit Go.Op Go.Maps
end
section
open Go.RowKit Go.Op Go.Maps
def Kept (k : List Nat) (w w' : World) : Prop := ∀ b ∈ k, w'.heap[b]? = w.heap[b]?
section
variable {w0 wr w w' : World} {p n : Nat} {D : PDisk} {k : List Nat}
theorem Kept.blk {b : Nat} {t : TypeId} {cs : Array Value} (h : Kept k w w') (hB : Blk w b t cs) (hb : b ∈ k) : Blk w' b t cs := by
  unfold Blk at hB ⊢; rw [h b hb]; exact hB
theorem Kept.trans {w2 : World} (h : Kept k w w') (h2 : Kept k w' w2) : Kept k w w2 := fun b hb => (h2 b hb).trans (h b hb)
end
end
section
open Go.RowKit Go.Op Go.Maps
end
section
open Go.RowKit Go.Op Go.Maps
end
section
open Go.RowKit Go.Op Go.Maps
section
variable {w0 wr w w' : World} {p n : Nat} {D : PDisk} {k : List Nat}
end
end
section
open Go.RowKit Go.Op Go.Maps
section
variable {w0 w w' : World} {p n C : Nat} {D : PDisk} {k : List Nat}
end
end
end Go.Proofs.YtoicjadioiomkaaGreatDoor
