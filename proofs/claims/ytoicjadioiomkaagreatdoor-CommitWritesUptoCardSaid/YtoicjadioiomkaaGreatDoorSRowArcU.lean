/- Arguments that are archives, where the bulk of what is read is bounded. Conditions: none beyond what each lemma states. -/
import Derived.Test.YtoicjadioiomkaaGreatDoorSRowArc
import Derived.Test.YtoicjadioiomkaaGreatDoorSRowUpD
set_option linter.unusedVariables false
set_option linter.unusedSimpArgs false
namespace Go.Proofs.YtoicjadioiomkaaGreatDoor
open Go.ChangeShapes Go.WideShapes Go.ChangeAt Go.RowKit Go.Deep
section
variable {H : Type} {enc : TypeId × Value → H} {w : World} {base : Nat} {spare : Nat → Bool} {held : Bool} {fuel : Nat} {cs : List Value} {x : DataW H × List MemPlace}
set_option maxRecDepth 100000 in
theorem open_stamps_up (h : DataW.trod enc Tryz.prog w base spare held fuel 31 cs = some x) (hk : Rows.uptoBulk x.1 ≤ 1048576) :
    ∃ (p : Option Addr) (t : List (Int × Int × Int)) (cap : Nat), cs = [.slice p t.length cap] ∧ SRow3 w p t ∧ t.length ≤ cap ∧ cap ≤ maxLen ∧ t.length ≤ 1048576 ∧ ∀ s ∈ t, stmIn s := by
  rcases open_slice_fields Tryz.underlying31 Tryz.underlying93 (by kernel_rfl) (by kernel_rfl) h with ⟨hcs, _⟩ | ⟨a, len, cap, m, D, Pl, hcs, _, hl, hm, hmm, hx, hi⟩
  · exact ⟨none, [], 0, hcs, fun h => absurd rfl h, Nat.le_refl _, by decide, by decide, fun s hs => by cases hs⟩
  have hlm : len ≤ m := by rw [hmm]; split <;> omega
  rw [hx] at hk; have hle := bulks.slice_le ((List.range len).map D) ((List.range (m - len)).map fun j => D (len + j)); simp only [List.length_map, List.length_range] at hle; dsimp only at hk; obtain ⟨t, ht, hq⟩ := list_of (Q := fun i (s : Int × Int × Int) => StmAt w (a.add (i * 3)) s ∧ stmIn s) len (fun i hik => by
    obtain ⟨ys, n, _, _, _, hfld⟩ := hi i (by omega); obtain ⟨v0, y0, hc0, _, ht0⟩ := hfld 0 _ rfl; obtain ⟨v1, y1, hc1, _, ht1⟩ := hfld 1 _ rfl; obtain ⟨v2, y2, hc2, _, ht2⟩ := hfld 2 _ rfl; obtain ⟨k0, e0, -, g0⟩ := DataW.trod_int Tryz.underlying3 ht0; obtain ⟨k1, e1, -, g1⟩ := DataW.trod_int Tryz.underlying3 ht1; obtain ⟨k2, e2, -, g2⟩ := DataW.trod_int Tryz.underlying3 ht2
    simp only [List.cons.injEq, and_true] at e0 e1 e2
    subst e0; subst e1; subst e2; rw [← Go.Deep.add_add] at hc1 hc2; exact ⟨⟨k0, k1, k2⟩, ⟨hc0, hc1, hc2⟩, lit_wf g0, lit_wf g1, lit_wf g2⟩)
  refine ⟨some a, t, cap, by rw [ht]; exact hcs, fun hne => ⟨a, rfl, ?_, fun i n hin => (hq i n hin).1⟩, by rw [ht]; exact hl, hm, ?_, fun s hs => ?_⟩
  · obtain ⟨n, hn⟩ := List.exists_mem_of_ne_nil t hne
    obtain ⟨i, hi, rfl⟩ := List.getElem_of_mem hn; have := World.block_lt_of_cell? _ _ (hq i _ (List.getElem?_eq_getElem hi)).1.i0
    rwa [add_block] at this
  · omega
  obtain ⟨i, hi, rfl⟩ := List.getElem_of_mem hs; exact (hq i _ (List.getElem?_eq_getElem hi)).2
set_option maxRecDepth 100000 in
theorem open_arc_up (h : DataW.trod enc Tryz.prog w base spare held fuel 52 cs = some x) (hk : Rows.uptoBulk x.1 ≤ 1048576) :
    ∃ (a : Arc) (v0 v1 v2 v3 : Value), cs = [v0, v1, v2, v3] ∧ ArcAt w (.agg #[v0, v1, v2, v3]) a ∧ Fits1 a.tree := by
  obtain ⟨ys, n, -, hx, hlen, hys, hf⟩ := DataW.trod_struct Tryz.underlying52 h; have hl : cs.length = 4 := hlen.trans (by kernel_rfl)
  have hyl : ys.length = 4 := hys
  obtain ⟨a, b, c, d, rfl⟩ : ∃ a b c d, cs = [a, b, c, d] := by
    match cs, hl with
    | [a, b, c, d], _ => exact ⟨a, b, c, d, rfl⟩
  have h0 := hf 0 _ rfl; have h1 := hf 1 _ rfl; have h2 := hf 2 _ rfl; have h3 := hf 3 _ rfl; have e0 : ys[0]? = some ys[0] := List.getElem?_eq_getElem (by omega)
  have e1 : ys[1]? = some ys[1] := List.getElem?_eq_getElem (by omega)
  have e2 : ys[2]? = some ys[2] := List.getElem?_eq_getElem (by omega)
  have e3 : ys[3]? = some ys[3] := List.getElem?_eq_getElem (by omega)
  rw [hx] at hk; have hagg : Rows.uptoBulkAll (ys.map (·.1)) ≤ Rows.uptoBulk (DataW.agg (ys.map (·.1))) := by simp only [Rows.uptoBulk]; omega
  have w2 : Rows.uptoBulk (ys[2].1) ≤ 1048576 := by have := bulks.part_le (d := ys[2].1) (l := ys.map (·.1)) (List.mem_map.2 ⟨ys[2], List.getElem_mem (by omega), rfl⟩); dsimp only at hk; omega
  have w3 : Rows.uptoBulk (ys[3].1) ≤ 1048576 := by have := bulks.part_le (d := ys[3].1) (l := ys.map (·.1)) (List.mem_map.2 ⟨ys[3], List.getElem_mem (by omega), rfl⟩); dsimp only at hk; omega
  have h0 : DataW.trod enc Tryz.prog w base spare held n 9 [a] = ys[0]? := h0
  have h1 : DataW.trod enc Tryz.prog w base spare held n 3 [b] = ys[1]? := h1
  have h2 : DataW.trod enc Tryz.prog w base spare held n 22 [c] = ys[2]? := h2
  have h3 : DataW.trod enc Tryz.prog w base spare held n 31 [d] = ys[3]? := h3
  rw [e0] at h0; rw [e1] at h1; rw [e2] at h2; rw [e3] at h3; obtain ⟨s, q0, -, r0⟩ := DataW.trod_string Tryz.underlying9 h0; obtain ⟨k, q1, -, r1⟩ := DataW.trod_int Tryz.underlying3 h1; obtain ⟨tp, t, c', q2, r2, r3, r4, r7, r5, r6⟩ := open_nodes_up h2 w2; obtain ⟨sp, ss, d', q3, s2, s3, s4, s5, s6⟩ := open_stamps_up h3 w3; simp only [List.cons.injEq, and_true] at q0 q1 q2 q3
  subst q0; subst q1; subst q2; subst q3; exact ⟨⟨s, k, t, ss⟩, _, _, _, _, rfl, ⟨⟨tp, c', sp, d', rfl, r2, s2, r3, r4, s3, s4, r6⟩, r5.fits, by constructor <;> (dsimp only; omega), r0, lit_wf r1, s6⟩, r5⟩
set_option maxRecDepth 100000 in
theorem open_two_up (h : DataW.trod enc Tryz.prog w base spare held fuel 88 cs = some x) (hk : Rows.uptoBulk x.1 ≤ 1048576) :
    ∃ (a b : Arc) (v0 v1 v2 v3 u0 u1 u2 u3 : Value), cs = [v0, v1, v2, v3, u0, u1, u2, u3] ∧ ArcAt w (.agg #[v0, v1, v2, v3]) a ∧ ArcAt w (.agg #[u0, u1, u2, u3]) b ∧ Fits1 a.tree ∧ Fits1 b.tree := by
  obtain ⟨ys, n, -, hx, hlen, hys, hf⟩ := DataW.trod_struct Tryz.underlying88 h; have hl : cs.length = 8 := hlen.trans (by kernel_rfl)
  have hyl : ys.length = 2 := hys
  obtain ⟨a, b, c, d, a', b', c', d', rfl⟩ : ∃ a b c d a' b' c' d', cs = [a, b, c, d, a', b', c', d'] := by
    match cs, hl with
    | [a, b, c, d, a', b', c', d'], _ => exact ⟨a, b, c, d, a', b', c', d', rfl⟩
  have h0 := hf 0 _ rfl; have h1 := hf 1 _ rfl; have e0 : ys[0]? = some ys[0] := List.getElem?_eq_getElem (by omega)
  have e1 : ys[1]? = some ys[1] := List.getElem?_eq_getElem (by omega)
  rw [hx] at hk; have hagg : Rows.uptoBulkAll (ys.map (·.1)) ≤ Rows.uptoBulk (DataW.agg (ys.map (·.1))) := by simp only [Rows.uptoBulk]; omega
  have w0 : Rows.uptoBulk (ys[0].1) ≤ 1048576 := by have := bulks.part_le (d := ys[0].1) (l := ys.map (·.1)) (List.mem_map.2 ⟨ys[0], List.getElem_mem (by omega), rfl⟩); dsimp only at hk; omega
  have w1 : Rows.uptoBulk (ys[1].1) ≤ 1048576 := by have := bulks.part_le (d := ys[1].1) (l := ys.map (·.1)) (List.mem_map.2 ⟨ys[1], List.getElem_mem (by omega), rfl⟩); dsimp only at hk; omega
  have h0 : DataW.trod enc Tryz.prog w base spare held n 52 [a, b, c, d] = ys[0]? := h0
  have h1 : DataW.trod enc Tryz.prog w base spare held n 52 [a', b', c', d'] = ys[1]? := h1
  rw [e0] at h0; rw [e1] at h1; obtain ⟨x1, v0, v1, v2, v3, q0, r0, f0⟩ := open_arc_up h0 w0; obtain ⟨x2, u0, u1, u2, u3, q1, r1, f1⟩ := open_arc_up h1 w1; simp only [List.cons.injEq, and_true] at q0 q1; obtain ⟨rfl, rfl, rfl, rfl⟩ := q0; obtain ⟨rfl, rfl, rfl, rfl⟩ := q1; exact ⟨x1, x2, _, _, _, _, _, _, _, _, rfl, r0, r1, f0, f1⟩
end
end Go.Proofs.YtoicjadioiomkaaGreatDoor
