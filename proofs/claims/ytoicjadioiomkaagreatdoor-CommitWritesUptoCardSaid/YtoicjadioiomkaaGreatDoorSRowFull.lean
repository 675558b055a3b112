/- An argument that is a list of nodes, with its capacity. Conditions: none beyond what each lemma states. -/
import Derived.Test.YtoicjadioiomkaaGreatDoorSRowKit
set_option linter.unusedVariables false
set_option linter.unusedSimpArgs false
namespace Go.Proofs.YtoicjadioiomkaaGreatDoor
open Go.ChangeShapes Go.WideShapes Go.ChangeAt Go.RowKit Go.Deep
theorem open_nodes_cap {H : Type} {enc : TypeId × Value → H} {w : World} {base : Nat} {spare : Nat → Bool} {held : Bool} {fuel : Nat} {cs : List Value} {x : DataW H × List MemPlace} (h : DataW.trod enc Tryz.prog w base spare held fuel 22 cs = some x) :
    ∃ (p : Option Addr) (t : List Node) (cap : Nat), cs = [.slice p t.length cap] ∧ Row w p t ∧ t.length ≤ cap ∧ cap ≤ maxLen ∧ Fits t ∧ (p = none → t = [] ∧ cap = 0) := by
  rcases open_slice_fields Tryz.underlying22 Tryz.underlying30 (by kernel_rfl) (by kernel_rfl) h with ⟨hcs, _⟩ | ⟨a, len, cap, m, D, Pl, hcs, _, hl, hm, hmm, _, hi⟩
  · exact ⟨none, [], 0, hcs, fun h => absurd rfl h, Nat.le_refl _, by decide, (fun n hn => by cases hn), fun _ => ⟨rfl, rfl⟩⟩
  have hlm : len ≤ m := by rw [hmm]; split <;> omega
  obtain ⟨t, ht, hq⟩ := list_of (Q := fun i (n : Node) => NodeAt w (a.add (i * 4)) n ∧ n.path.size ≤ maxLen ∧ n.data.size ≤ maxLen) len (fun i hik => by
    obtain ⟨ys, n, _, _, _, hfld⟩ := hi i (by omega); obtain ⟨v0, y0, hc0, _, ht0⟩ := hfld 0 _ rfl; obtain ⟨v1, y1, hc1, _, ht1⟩ := hfld 1 _ rfl; obtain ⟨v2, y2, hc2, _, ht2⟩ := hfld 2 _ rfl; obtain ⟨v3, y3, hc3, _, ht3⟩ := hfld 3 _ rfl; obtain ⟨s0, e0, -, z0⟩ := DataW.trod_string Tryz.underlying9 ht0; obtain ⟨k1, e1, -, -⟩ := DataW.trod_int Tryz.underlying3 ht1
    obtain ⟨s2, e2, -, z2⟩ := DataW.trod_string Tryz.underlying9 ht2; obtain ⟨k3, e3, -, -⟩ := DataW.trod_int Tryz.underlying3 ht3; simp only [List.cons.injEq, and_true] at e0 e1 e2 e3; subst e0; subst e1; subst e2; subst e3; rw [← Go.Deep.add_add] at hc1 hc2 hc3; exact ⟨⟨s0, k1, s2, k3⟩, ⟨hc0, hc1, hc2, hc3⟩, z0, z2⟩)
  refine ⟨some a, t, cap, by rw [ht]; exact hcs, fun hne => ⟨a, rfl, ?_, fun i n hin => (hq i n hin).1⟩, by rw [ht]; exact hl, hm, fun n hn => ?_, (fun h => by cases h)⟩
  · obtain ⟨n, hn⟩ := List.exists_mem_of_ne_nil t hne
    obtain ⟨i, hi, rfl⟩ := List.getElem_of_mem hn; have := World.block_lt_of_cell? _ _ (hq i _ (List.getElem?_eq_getElem hi)).1.path
    rwa [add_block] at this
  obtain ⟨i, hi, rfl⟩ := List.getElem_of_mem hn; exact (hq i _ (List.getElem?_eq_getElem hi)).2
end Go.Proofs.YtoicjadioiomkaaGreatDoor
