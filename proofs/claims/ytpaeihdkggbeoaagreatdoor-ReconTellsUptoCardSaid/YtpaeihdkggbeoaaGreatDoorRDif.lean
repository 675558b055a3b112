/- hawserref06.Differ: the walk. Conditions: no string is longer than 1048576 bytes; no list is longer than 2^40. -/
import Derived.Test.YtpaeihdkggbeoaaGreatDoorDifLaw
namespace Go.Proofs.YtpaeihdkggbeoaaGreatDoor
open Go.RowKit Go.Op

/-- a list of strings that the call has made so far -/
def DRel (w : World) (A B : List Node) (i j : Nat) (v : Value) (wr : World) : Prop :=
  ∃ D : List ByteArray, DifAt A B i j D ∧ wr.ownsRow w.heap.size 9 1 v D.length (D.map Value.string) ∧ Off [] w wr
theorem rcheck_v (p : Option Addr) (t : List Node) (n cap : Nat) (w : World) (hR : Row w p t) (hn : t.length = n) (hbig : n ≤ 1099511627776) (hF : Fits1 t) (c : Int) (hc : chkV t = c) :
    Calls Tryz.prog 37 #[.slice p n cap] w fun e w' => e = .returned (.int .i64 c) ∧ Off [] w w' := hc ▸ rcheck_any p t n cap w hR hn hbig hF
end Go.Proofs.YtpaeihdkggbeoaaGreatDoor
