/- An argument that is a list of strings. Conditions: none beyond what each lemma states. -/
import Derived.Test.YtgcfkljooabjjaaGreatDoorZRowDisk
import Derived.Test.YtgcfkljooabjjaaGreatDoorGf
namespace Go.Proofs.YtgcfkljooabjjaaGreatDoor
open Go.ChangeShapes Go.WideShapes Go.ChangeAt Go.RowKit Go.Deep

set_option maxRecDepth 100000 in
/-- an argument that is a list of strings -/
theorem open_strings {H : Type} {enc : TypeId × Value → H} {w : World} {base : Nat} {spare : Nat → Bool} {held : Bool} {fuel : Nat} {cs : List Value} {x : DataW H × List MemPlace} (h : DataW.trod enc Tryz.prog w base spare held fuel 47 cs = some x) :
    ∃ (p : Option Addr) (ts : List ByteArray) (cap : Nat), cs = [.slice p ts.length cap] ∧ SRow w p ts ∧ ts.length ≤ cap ∧ cap ≤ maxLen := by
  rcases open_slice1 Tryz.underlying47 (by kernel_rfl) h with ⟨hcs, _⟩ | ⟨a, len, cap, m, n, V, D, Pl, hcs, _, hl, hm, hmm, _, hi⟩
  · exact ⟨none, [], 0, hcs, fun h => absurd rfl h, Nat.le_refl _, by decide⟩
  · have hlm : len ≤ m := by rw [hmm]; split <;> omega
    obtain ⟨ts, ht, hq⟩ := list_of (Q := fun i (s : ByteArray) => w.cell? (a.add i) = some (.string s)) len (fun i hik => by
      obtain ⟨hc, ht⟩ := hi i (by omega)
      obtain ⟨s, e, -, -⟩ := DataW.trod_string Tryz.underlying9 ht
      simp only [List.cons.injEq, and_true] at e
      exact ⟨s, by rw [hc, e]⟩)
    refine ⟨some a, ts, cap, by rw [ht]; exact hcs, fun hne => ⟨a, rfl, ?_, hq⟩, by rw [ht]; exact hl, hm⟩
    obtain ⟨s, hs⟩ := List.exists_mem_of_ne_nil ts hne
    obtain ⟨i, hi, rfl⟩ := List.getElem_of_mem hs
    have := World.block_lt_of_cell? _ _ (hq i _ (List.getElem?_eq_getElem hi))
    rwa [add_block] at this
end Go.Proofs.YtgcfkljooabjjaaGreatDoor
