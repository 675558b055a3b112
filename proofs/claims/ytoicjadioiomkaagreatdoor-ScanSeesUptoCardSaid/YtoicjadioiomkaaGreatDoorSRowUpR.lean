/- An argument that is a list of rules, where the bulk of what is read is bounded. Conditions: none beyond what each lemma states. -/
import Derived.Test.YtoicjadioiomkaaGreatDoorSRowUpD
import Derived.Test.YtoicjadioiomkaaGreatDoorIl
namespace Go.Proofs.YtoicjadioiomkaaGreatDoor
open Go.ChangeShapes Go.WideShapes Go.ChangeAt Go.RowKit Go.Deep
set_option maxRecDepth 100000 in
theorem open_rules_up {H : Type} {enc : TypeId × Value → H} {w : World} {base : Nat} {spare : Nat → Bool} {held : Bool} {fuel : Nat} {cs : List Value} {x : DataW H × List MemPlace} (h : DataW.trod enc Tryz.prog w base spare held fuel 37 cs = some x) (hk : Rows.uptoBulk x.1 ≤ 1048576) :
    ∃ (p : Option Addr) (L : List RuleP) (cap : Nat), cs = [.slice p L.length cap] ∧ RlOk w L p cap ∧ L.length ≤ 1048576 := by
  rcases open_slice_fields Tryz.underlying37 Tryz.underlying36 (by kernel_rfl) (by kernel_rfl) h with ⟨hcs, _⟩ | ⟨a, len, cap, m, D, Pl, hcs, _, hl, hm, hmm, hx, hi⟩
  · exact ⟨none, [], 0, hcs, ⟨Nat.le_refl _, by decide, fun h => absurd rfl h, fun n hn => by cases hn⟩, by decide⟩
  have hlm : len ≤ m := by rw [hmm]; split <;> omega
  rw [hx] at hk; have hel := bulks.slice_elems ((List.range len).map D) ((List.range (m - len)).map fun j => D (len + j)); have hle := bulks.slice_le ((List.range len).map D) ((List.range (m - len)).map fun j => D (len + j)); simp only [List.length_map, List.length_range] at hle; dsimp only at hk; have hDi : ∀ i, i < len → Rows.uptoBulk (D i) ≤ 1048576 := fun i hil => by
    have := bulks.part_le (d := D i) (l := (List.range len).map D) (List.mem_map.2 ⟨i, List.mem_range.2 hil, rfl⟩); omega
  obtain ⟨t, ht, hq⟩ := list_of (Q := fun i (n : RuleP) => (w.cell? (a.add (i * 2)) = some (.bool n.ignore) ∧ w.cell? ⟨(a.add (i * 2)).block, (a.add (i * 2)).off + 1, none⟩ = some (.string n.pattern)) ∧ n.pattern.size ≤ 1048576) len (fun i hik => by
    obtain ⟨ys, n, hD, _, _, hfld⟩ := hi i (by omega); obtain ⟨v0, y0, hc0, _, ht0⟩ := hfld 0 _ rfl; obtain ⟨v1, y1, hc1, hy1, ht1⟩ := hfld 1 _ rfl; obtain ⟨b0, e0, -⟩ := DataW.trod_bool Tryz.underlying4 ht0; obtain ⟨s1, e1, d1, -⟩ := DataW.trod_string Tryz.underlying9 ht1; simp only [List.cons.injEq, and_true] at e0 e1; subst e0; subst e1; rw [← Go.Deep.add_add] at hc1; have hb := hDi i hik
    rw [hD] at hb; have hagg : Rows.uptoBulkAll (ys.map (·.1)) ≤ Rows.uptoBulk (DataW.agg (ys.map (·.1))) := by simp only [Rows.uptoBulk]; omega
    have hp1 := bulks.part_le (d := y1.1) (l := ys.map (·.1)) (List.mem_map.2 ⟨y1, List.mem_of_getElem? hy1, rfl⟩); rw [d1] at hp1; have hs1 := str_bulk (H := H) s1; exact ⟨⟨b0, s1⟩, ⟨hc0, hc1⟩, by dsimp only at *; omega⟩)
  refine ⟨some a, t, cap, by rw [ht]; exact hcs, ⟨by rw [ht]; exact hl, by have : maxLen = 9223372036854775807 := rfl; omega, fun hne => ⟨a, rfl, ?_, fun i n hin => (hq i n hin).1⟩, fun n hn => ?_⟩, by rw [ht]; omega⟩
  · obtain ⟨n, hn⟩ := List.exists_mem_of_ne_nil t hne
    obtain ⟨i, hi, rfl⟩ := List.getElem_of_mem hn; have := World.block_lt_of_cell? _ _ (hq i _ (List.getElem?_eq_getElem hi)).1.1
    rwa [add_block] at this
  obtain ⟨i, hi, rfl⟩ := List.getElem_of_mem hn; exact (hq i _ (List.getElem?_eq_getElem hi)).2
end Go.Proofs.YtoicjadioiomkaaGreatDoor
