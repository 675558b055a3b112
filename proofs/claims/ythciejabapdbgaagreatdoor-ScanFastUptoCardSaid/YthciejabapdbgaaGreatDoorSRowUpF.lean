/- ScanFast's arguments (what befalls, changes) where the bulk of what is read is bounded. (Printed by gen_upf.py.) Conditions: none beyond what each lemma states. -/
import Derived.Test.YthciejabapdbgaaGreatDoorSRowUpD
import Derived.Test.YthciejabapdbgaaGreatDoorKp
set_option linter.unusedVariables false
set_option linter.unusedSimpArgs false
namespace Go.Proofs.YthciejabapdbgaaGreatDoor
open Go.ChangeShapes Go.WideShapes Go.ChangeAt Go.RowKit Go.Deep
set_option maxRecDepth 100000 in
theorem open_changes_up {H : Type} {enc : TypeId × Value → H} {w : World} {base : Nat} {spare : Nat → Bool} {held : Bool} {fuel : Nat} {cs : List Value} {x : DataW H × List MemPlace} (h : DataW.trod enc Tryz.prog w base spare held fuel 71 cs = some x) (hk : Rows.uptoBulk x.1 ≤ 1048576) :
    ∃ (p : Option Addr) (t : List ChgP) (cap : Nat), cs = [.slice p t.length cap] ∧ ChgRow w p t ∧ t.length ≤ cap ∧ cap ≤ maxLen ∧ t.length ≤ 1048576 ∧ ∀ c ∈ t, c.path.size ≤ 1048576 ∧ c.to_.size ≤ 1048576 ∧ c.data.size ≤ maxLen := by
  rcases open_slice_fields Tryz.underlying71 Tryz.underlying73 (by kernel_rfl) (by kernel_rfl) h with ⟨hcs, _⟩ | ⟨a, len, cap, m, D, Pl, hcs, _, hl, hm, hmm, hx, hi⟩
  · exact ⟨none, [], 0, hcs, fun h => absurd rfl h, Nat.le_refl _, by decide, by decide, (fun n hn => by cases hn)⟩
  have hlm : len ≤ m := by rw [hmm]; split <;> omega
  rw [hx] at hk; have hel := bulks.slice_elems ((List.range len).map D) ((List.range (m - len)).map fun j => D (len + j)); have hle := bulks.slice_le ((List.range len).map D) ((List.range (m - len)).map fun j => D (len + j)); simp only [List.length_map, List.length_range] at hle; dsimp only at hk; have hDi : ∀ i, i < len → Rows.uptoBulk (D i) ≤ 1048576 := fun i hil => by
    have := bulks.part_le (d := D i) (l := (List.range len).map D) (List.mem_map.2 ⟨i, List.mem_range.2 hil, rfl⟩); omega
  obtain ⟨t, ht, hq⟩ := list_of (Q := fun i (n : ChgP) => ChgAt w (a.add (i * 4)) n ∧ n.path.size ≤ 1048576 ∧ n.to_.size ≤ 1048576 ∧ n.data.size ≤ maxLen) len (fun i hik => by
    obtain ⟨ys, n, hD, _, _, hfld⟩ := hi i (by omega); obtain ⟨v0, y0, hc0, _, ht0⟩ := hfld 0 _ rfl; obtain ⟨v1, y1, hc1, hy1, ht1⟩ := hfld 1 _ rfl; obtain ⟨v2, y2, hc2, hy2, ht2⟩ := hfld 2 _ rfl; obtain ⟨v3, y3, hc3, _, ht3⟩ := hfld 3 _ rfl; obtain ⟨k0, e0, -, -⟩ := DataW.trod_int Tryz.underlying3 ht0; obtain ⟨s1, e1, d1, -⟩ := DataW.trod_string Tryz.underlying9 ht1
    obtain ⟨s2, e2, d2, -⟩ := DataW.trod_string Tryz.underlying9 ht2; obtain ⟨s3, e3, -, z3⟩ := DataW.trod_string Tryz.underlying9 ht3; simp only [List.cons.injEq, and_true] at e0 e1 e2 e3; subst e0; subst e1; subst e2; subst e3; rw [← Go.Deep.add_add] at hc1 hc2 hc3; have hb := hDi i hik; rw [hD] at hb
    have hagg : Rows.uptoBulkAll (ys.map (·.1)) ≤ Rows.uptoBulk (DataW.agg (ys.map (·.1))) := by simp only [Rows.uptoBulk]; omega
    have hp1 := bulks.part_le (d := y1.1) (l := ys.map (·.1)) (List.mem_map.2 ⟨y1, List.mem_of_getElem? hy1, rfl⟩); have hp2 := bulks.part_le (d := y2.1) (l := ys.map (·.1)) (List.mem_map.2 ⟨y2, List.mem_of_getElem? hy2, rfl⟩); rw [d1] at hp1; rw [d2] at hp2; have hs1 := str_bulk (H := H) s1; have hs2 := str_bulk (H := H) s2
    exact ⟨⟨k0, s1, s2, s3⟩, ⟨hc0, hc1, hc2, hc3⟩, by dsimp only at *; omega, by dsimp only at *; omega, z3⟩)
  refine ⟨some a, t, cap, by rw [ht]; exact hcs, fun hne => ⟨a, rfl, ?_, fun i n hin => (hq i n hin).1⟩, by rw [ht]; exact hl, hm, by rw [ht]; omega, fun n hn => ?_⟩
  · obtain ⟨n, hn⟩ := List.exists_mem_of_ne_nil t hne
    obtain ⟨i, hi, rfl⟩ := List.getElem_of_mem hn; have := World.block_lt_of_cell? _ _ (hq i _ (List.getElem?_eq_getElem hi)).1.what
    rwa [add_block] at this
  obtain ⟨i, hi, rfl⟩ := List.getElem_of_mem hn; exact (hq i _ (List.getElem?_eq_getElem hi)).2
section
variable {H : Type} {enc : TypeId × Value → H} {w : World} {base : Nat} {spare : Nat → Bool} {held : Bool} {fuel : Nat} {cs : List Value} {x : DataW H × List MemPlace}
set_option maxRecDepth 100000 in
theorem open_weather11_up (h : DataW.trod enc Tryz.prog w base spare held fuel 26 cs = some x) (hk : Rows.uptoBulk x.1 ≤ 1048576) :
    ∃ (ap : Option Addr) (fs : List FateP) (fc : Nat) (ep : Option Addr) (es : List EditP) (ec : Nat), cs = [.slice ap fs.length fc, .slice ep es.length ec] ∧ FRow w ap fs ∧ fs.length ≤ 1048576 ∧ (ap = none → fs = []) ∧ ERow w ep es ∧ costE es ≤ 262144 ∧ ∀ e ∈ es, (e.value.length ≤ 1048576 ∧ Fits e.value) ∧ Fits1 e.value ∧ e.path.size ≤ 1048576 := by
  obtain ⟨ys, n, -, hx, hlen, hys, hf⟩ := DataW.trod_struct Tryz.underlying26 h; have hl : cs.length = 2 := hlen.trans (by kernel_rfl)
  have hyl : ys.length = 2 := hys
  obtain ⟨a, b, rfl⟩ : ∃ a b, cs = [a, b] := by
    match cs, hl with
    | [a, b], _ => exact ⟨a, b, rfl⟩
  have h0 := hf 0 _ rfl; have h1 := hf 1 _ rfl; have e0 : ys[0]? = some ys[0] := List.getElem?_eq_getElem (by omega)
  have e1 : ys[1]? = some ys[1] := List.getElem?_eq_getElem (by omega)
  rw [hx] at hk; have hagg : Rows.uptoBulkAll (ys.map (·.1)) + 1 ≤ Rows.uptoBulk (DataW.agg (ys.map (·.1))) := by simp only [Rows.uptoBulk]; omega
  dsimp only at hk
  have w0 : Rows.uptoBulk ys[0].1 ≤ 1048576 := by
    have := bulks.part_le (d := ys[0].1) (l := ys.map (·.1)) (List.mem_map.2 ⟨ys[0], List.getElem_mem _, rfl⟩); omega
  have w1 : Rows.uptoBulk ys[1].1 ≤ 1048576 := by
    have := bulks.part_le (d := ys[1].1) (l := ys.map (·.1)) (List.mem_map.2 ⟨ys[1], List.getElem_mem _, rfl⟩); omega
  have h0 : DataW.trod enc Tryz.prog w base spare held n 23 [a] = ys[0]? := h0
  have h1 : DataW.trod enc Tryz.prog w base spare held n 24 [b] = ys[1]? := h1
  rw [e0] at h0; rw [e1] at h1; obtain ⟨ap, fs, fc, q1, r1, r2, r3⟩ := open_fates_up h0 w0; obtain ⟨ep, es, ec, q2, s1, s2, s3⟩ := open_edits_up h1 w1; simp only [List.cons.injEq, and_true] at q1 q2; subst q1; subst q2; exact ⟨ap, fs, fc, ep, es, ec, rfl, r1, r2, r3, s1, by omega, s3⟩
end
end Go.Proofs.YthciejabapdbgaaGreatDoor
