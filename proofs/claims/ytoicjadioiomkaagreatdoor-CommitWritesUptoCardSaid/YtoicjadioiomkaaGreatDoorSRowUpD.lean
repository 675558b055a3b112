/- Disk's arguments (nodes, calls, what befalls) where the bulk of what is read is bounded. Conditions: none beyond what each lemma states. -/
import Derived.Test.YtoicjadioiomkaaGreatDoorSRowWea
import Derived.Test.YtoicjadioiomkaaGreatDoorSBulk
import Derived.Test.YtoicjadioiomkaaGreatDoorJi
set_option linter.unusedVariables false
set_option linter.unusedSimpArgs false
namespace Go.Proofs.YtoicjadioiomkaaGreatDoor
open Go.ChangeShapes Go.WideShapes Go.ChangeAt Go.RowKit Go.Deep
theorem str_bulk {H : Type} (s : ByteArray) : s.size + 1 ≤ Rows.uptoBulk (DataW.lit (H := H) (.string s.data.toList)) := by
  rw [bulks.string_eq, Array.length_toList]; exact Nat.le_refl _
theorem open_nodes_up {H : Type} {enc : TypeId × Value → H} {w : World} {base : Nat} {spare : Nat → Bool} {held : Bool} {fuel : Nat} {cs : List Value} {x : DataW H × List MemPlace} (h : DataW.trod enc Tryz.prog w base spare held fuel 22 cs = some x) (hk : Rows.uptoBulk x.1 ≤ 1048576) :
    ∃ (p : Option Addr) (t : List Node) (cap : Nat), cs = [.slice p t.length cap] ∧ Row w p t ∧ t.length ≤ cap ∧ cap ≤ maxLen ∧ t.length ≤ 1048576 ∧ Fits1 t ∧ (p = none → t = [] ∧ cap = 0) := by
  rcases open_slice_fields Tryz.underlying22 Tryz.underlying30 (by kernel_rfl) (by kernel_rfl) h with ⟨hcs, _⟩ | ⟨a, len, cap, m, D, Pl, hcs, _, hl, hm, hmm, hx, hi⟩
  · exact ⟨none, [], 0, hcs, fun h => absurd rfl h, Nat.le_refl _, by decide, by decide, (fun n hn => by cases hn), fun _ => ⟨rfl, rfl⟩⟩
  have hlm : len ≤ m := by rw [hmm]; split <;> omega
  rw [hx] at hk; have hel := bulks.slice_elems ((List.range len).map D) ((List.range (m - len)).map fun j => D (len + j)); have hle := bulks.slice_le ((List.range len).map D) ((List.range (m - len)).map fun j => D (len + j)); simp only [List.length_map, List.length_range] at hle; dsimp only at hk; have hDi : ∀ i, i < len → Rows.uptoBulk (D i) ≤ 1048576 := fun i hil => by
    have := bulks.part_le (d := D i) (l := (List.range len).map D) (List.mem_map.2 ⟨i, List.mem_range.2 hil, rfl⟩); omega
  obtain ⟨t, ht, hq⟩ := list_of (Q := fun i (n : Node) => NodeAt w (a.add (i * 4)) n ∧ n.path.size ≤ 1048576 ∧ n.data.size ≤ 1048576) len (fun i hik => by
    obtain ⟨ys, n, hD, _, _, hfld⟩ := hi i (by omega); obtain ⟨v0, y0, hc0, hy0, ht0⟩ := hfld 0 _ rfl; obtain ⟨v1, y1, hc1, _, ht1⟩ := hfld 1 _ rfl; obtain ⟨v2, y2, hc2, hy2, ht2⟩ := hfld 2 _ rfl; obtain ⟨v3, y3, hc3, _, ht3⟩ := hfld 3 _ rfl; obtain ⟨s0, e0, d0, z0⟩ := DataW.trod_string Tryz.underlying9 ht0; obtain ⟨k1, e1, -, -⟩ := DataW.trod_int Tryz.underlying3 ht1
    obtain ⟨s2, e2, d2, z2⟩ := DataW.trod_string Tryz.underlying9 ht2; obtain ⟨k3, e3, -, -⟩ := DataW.trod_int Tryz.underlying3 ht3; simp only [List.cons.injEq, and_true] at e0 e1 e2 e3; subst e0; subst e1; subst e2; subst e3; rw [← Go.Deep.add_add] at hc1 hc2 hc3; have hb := hDi i hik; rw [hD] at hb
    have hagg : Rows.uptoBulkAll (ys.map (·.1)) ≤ Rows.uptoBulk (DataW.agg (ys.map (·.1))) := by simp only [Rows.uptoBulk]; omega
    have hp0 := bulks.part_le (d := y0.1) (l := ys.map (·.1)) (List.mem_map.2 ⟨y0, List.mem_of_getElem? hy0, rfl⟩); have hp2 := bulks.part_le (d := y2.1) (l := ys.map (·.1)) (List.mem_map.2 ⟨y2, List.mem_of_getElem? hy2, rfl⟩); rw [d0] at hp0; rw [d2] at hp2; have hs0 := str_bulk (H := H) s0; have hs2 := str_bulk (H := H) s2
    exact ⟨⟨s0, k1, s2, k3⟩, ⟨hc0, hc1, hc2, hc3⟩, by dsimp only at *; omega, by dsimp only at *; omega⟩)
  refine ⟨some a, t, cap, by rw [ht]; exact hcs, fun hne => ⟨a, rfl, ?_, fun i n hin => (hq i n hin).1⟩, by rw [ht]; exact hl, hm, by rw [ht]; omega, fun n hn => ?_, (fun h => by cases h)⟩
  · obtain ⟨n, hn⟩ := List.exists_mem_of_ne_nil t hne
    obtain ⟨i, hi, rfl⟩ := List.getElem_of_mem hn; have := World.block_lt_of_cell? _ _ (hq i _ (List.getElem?_eq_getElem hi)).1.path
    rwa [add_block] at this
  obtain ⟨i, hi, rfl⟩ := List.getElem_of_mem hn; exact (hq i _ (List.getElem?_eq_getElem hi)).2
section
variable {H : Type} {enc : TypeId × Value → H} {w : World} {base : Nat} {spare : Nat → Bool} {held : Bool} {fuel : Nat} {cs : List Value} {x : DataW H × List MemPlace}
end
end Go.Proofs.YtoicjadioiomkaaGreatDoor
