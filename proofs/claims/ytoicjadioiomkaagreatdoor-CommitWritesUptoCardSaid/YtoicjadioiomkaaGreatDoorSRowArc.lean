/- Arguments that are archives. Conditions: none beyond what each lemma states. -/
import Derived.Test.YtoicjadioiomkaaGreatDoorSRowWea
import Derived.Test.YtoicjadioiomkaaGreatDoorJl
set_option linter.unusedVariables false
set_option linter.unusedSimpArgs false
namespace Go.Proofs.YtoicjadioiomkaaGreatDoor
open Go.ChangeShapes Go.WideShapes Go.ChangeAt Go.RowKit Go.Deep
theorem lit_wf {n : Int} (h : (Lit.int .i64 n).wf = true) : -9223372036854775808 ≤ n ∧ n ≤ 9223372036854775807 := by
  have h : (decide (IntKind.i64.min ≤ n) && decide (n ≤ IntKind.i64.max)) = true := h
  simp only [Bool.and_eq_true, decide_eq_true_eq] at h
  have h1 : IntKind.i64.min = -9223372036854775808 := by decide
  have h2 : IntKind.i64.max = 9223372036854775807 := by decide
  omega
theorem lit_wf8 {n : Int} (h : (Lit.int .u8 n).wf = true) : 0 ≤ n ∧ n < 256 := by
  have h : (decide (IntKind.u8.min ≤ n) && decide (n ≤ IntKind.u8.max)) = true := h
  simp only [Bool.and_eq_true, decide_eq_true_eq] at h
  have h1 : IntKind.u8.min = 0 := by decide
  have h2 : IntKind.u8.max = 255 := by decide
  omega
section
variable {H : Type} {enc : TypeId × Value → H} {w : World} {base : Nat} {spare : Nat → Bool} {held : Bool} {fuel : Nat} {cs : List Value} {x : DataW H × List MemPlace}
def stmIn (s : Int × Int × Int) : Prop := (-9223372036854775808 ≤ s.1 ∧ s.1 ≤ 9223372036854775807) ∧ (-9223372036854775808 ≤ s.2.1 ∧ s.2.1 ≤ 9223372036854775807) ∧ (-9223372036854775808 ≤ s.2.2 ∧ s.2.2 ≤ 9223372036854775807)
set_option maxRecDepth 100000 in
theorem open_stamps (h : DataW.trod enc Tryz.prog w base spare held fuel 31 cs = some x) (hw : ∀ y ∈ x.1.weights Tryz.prog 31, y ≤ reachBytes) :
    ∃ (p : Option Addr) (t : List (Int × Int × Int)) (cap : Nat), cs = [.slice p t.length cap] ∧ SRow3 w p t ∧ t.length ≤ cap ∧ cap ≤ maxLen ∧ t.length ≤ 5864062014805 ∧ ∀ s ∈ t, stmIn s := by
  rcases open_slice_fields Tryz.underlying31 Tryz.underlying93 (by kernel_rfl) (by kernel_rfl) h with ⟨hcs, _⟩ | ⟨a, len, cap, m, D, Pl, hcs, _, hl, hm, hmm, hx, hi⟩
  · exact ⟨none, [], 0, hcs, fun h => absurd rfl h, Nat.le_refl _, by decide, by decide, fun s hs => by cases hs⟩
  have hlm : len ≤ m := by rw [hmm]; split <;> omega
  obtain ⟨t, ht, hq⟩ := list_of (Q := fun i (s : Int × Int × Int) => StmAt w (a.add (i * 3)) s ∧ stmIn s) len (fun i hik => by
    obtain ⟨ys, n, _, _, _, hfld⟩ := hi i (by omega); obtain ⟨v0, y0, hc0, _, ht0⟩ := hfld 0 _ rfl; obtain ⟨v1, y1, hc1, _, ht1⟩ := hfld 1 _ rfl; obtain ⟨v2, y2, hc2, _, ht2⟩ := hfld 2 _ rfl; obtain ⟨k0, e0, -, g0⟩ := DataW.trod_int Tryz.underlying3 ht0; obtain ⟨k1, e1, -, g1⟩ := DataW.trod_int Tryz.underlying3 ht1; obtain ⟨k2, e2, -, g2⟩ := DataW.trod_int Tryz.underlying3 ht2
    simp only [List.cons.injEq, and_true] at e0 e1 e2
    subst e0; subst e1; subst e2; rw [← Go.Deep.add_add] at hc1 hc2; exact ⟨⟨k0, k1, k2⟩, ⟨hc0, hc1, hc2⟩, lit_wf g0, lit_wf g1, lit_wf g2⟩)
  refine ⟨some a, t, cap, by rw [ht]; exact hcs, fun hne => ⟨a, rfl, ?_, fun i n hin => (hq i n hin).1⟩, by rw [ht]; exact hl, hm, ?_, fun s hs => ?_⟩
  · obtain ⟨n, hn⟩ := List.exists_mem_of_ne_nil t hne
    obtain ⟨i, hi, rfl⟩ := List.getElem_of_mem hn; have := World.block_lt_of_cell? _ _ (hq i _ (List.getElem?_eq_getElem hi)).1.i0
    rwa [add_block] at this
  · rw [hx] at hw
    have h6 := (slice_reach Tryz.underlying31 hw).1; rw [show Tryz.prog.bytesOf 93 = 24 by kernel_rfl, List.length_map, List.length_range] at h6; have h7 : reachBytes = 140737488351232 := rfl
    rw [h7] at h6; have h8 : len * 24 ≤ 140737488351232 := Nat.le_trans (Nat.mul_le_mul_right 24 (Nat.le_add_right _ _)) h6
    omega
  obtain ⟨i, hi, rfl⟩ := List.getElem_of_mem hs; exact (hq i _ (List.getElem?_eq_getElem hi)).2
set_option maxRecDepth 100000 in
theorem open_arc (h : DataW.trod enc Tryz.prog w base spare held fuel 52 cs = some x) (hw : ∀ y ∈ x.1.weights Tryz.prog 52, y ≤ reachBytes) :
    ∃ (a : Arc) (v0 v1 v2 v3 : Value), cs = [v0, v1, v2, v3] ∧ ArcAt w (.agg #[v0, v1, v2, v3]) a := by
  obtain ⟨ys, n, -, hx, hlen, hys, hf⟩ := DataW.trod_struct Tryz.underlying52 h; have hl : cs.length = 4 := hlen.trans (by kernel_rfl)
  have hyl : ys.length = 4 := hys
  obtain ⟨a, b, c, d, rfl⟩ : ∃ a b c d, cs = [a, b, c, d] := by
    match cs, hl with
    | [a, b, c, d], _ => exact ⟨a, b, c, d, rfl⟩
  have h0 := hf 0 _ rfl; have h1 := hf 1 _ rfl; have h2 := hf 2 _ rfl; have h3 := hf 3 _ rfl; have e0 : ys[0]? = some ys[0] := List.getElem?_eq_getElem (by omega)
  have e1 : ys[1]? = some ys[1] := List.getElem?_eq_getElem (by omega)
  have e2 : ys[2]? = some ys[2] := List.getElem?_eq_getElem (by omega)
  have e3 : ys[3]? = some ys[3] := List.getElem?_eq_getElem (by omega)
  rw [hx] at hw; have w2 := struct_reach (j := 2) (d := ys[2].1) Tryz.underlying52 hw rfl (by rw [List.getElem?_map, e2]; rfl); have w3 := struct_reach (j := 3) (d := ys[3].1) Tryz.underlying52 hw rfl (by rw [List.getElem?_map, e3]; rfl); have h0 : DataW.trod enc Tryz.prog w base spare held n 9 [a] = ys[0]? := h0
  have h1 : DataW.trod enc Tryz.prog w base spare held n 3 [b] = ys[1]? := h1
  have h2 : DataW.trod enc Tryz.prog w base spare held n 22 [c] = ys[2]? := h2
  have h3 : DataW.trod enc Tryz.prog w base spare held n 31 [d] = ys[3]? := h3
  rw [e0] at h0; rw [e1] at h1; rw [e2] at h2; rw [e3] at h3; obtain ⟨s, q0, -, r0⟩ := DataW.trod_string Tryz.underlying9 h0; obtain ⟨k, q1, -, r1⟩ := DataW.trod_int Tryz.underlying3 h1; obtain ⟨tp, t, c', q2, r2, r3, r4, r5, r6, r7⟩ := open_nodes_reach h2 w2; obtain ⟨sp, ss, d', q3, s2, s3, s4, s5, s6⟩ := open_stamps h3 w3; simp only [List.cons.injEq, and_true] at q0 q1 q2 q3
  subst q0; subst q1; subst q2; subst q3; exact ⟨⟨s, k, t, ss⟩, _, _, _, _, rfl, ⟨tp, c', sp, d', rfl, r2, s2, r3, r4, s3, s4, r6⟩, r5, by constructor <;> (dsimp only; omega), r0, lit_wf r1, s6⟩
set_option maxRecDepth 100000 in
theorem open_two (h : DataW.trod enc Tryz.prog w base spare held fuel 88 cs = some x) (hw : ∀ y ∈ x.1.weights Tryz.prog 88, y ≤ reachBytes) :
    ∃ (a b : Arc) (v0 v1 v2 v3 u0 u1 u2 u3 : Value), cs = [v0, v1, v2, v3, u0, u1, u2, u3] ∧ ArcAt w (.agg #[v0, v1, v2, v3]) a ∧ ArcAt w (.agg #[u0, u1, u2, u3]) b := by
  obtain ⟨ys, n, -, hx, hlen, hys, hf⟩ := DataW.trod_struct Tryz.underlying88 h; have hl : cs.length = 8 := hlen.trans (by kernel_rfl)
  have hyl : ys.length = 2 := hys
  obtain ⟨a, b, c, d, a', b', c', d', rfl⟩ : ∃ a b c d a' b' c' d', cs = [a, b, c, d, a', b', c', d'] := by
    match cs, hl with
    | [a, b, c, d, a', b', c', d'], _ => exact ⟨a, b, c, d, a', b', c', d', rfl⟩
  have h0 := hf 0 _ rfl; have h1 := hf 1 _ rfl; have e0 : ys[0]? = some ys[0] := List.getElem?_eq_getElem (by omega)
  have e1 : ys[1]? = some ys[1] := List.getElem?_eq_getElem (by omega)
  rw [hx] at hw; have w0 := struct_reach (j := 0) (d := ys[0].1) Tryz.underlying88 hw rfl (by rw [List.getElem?_map, e0]; rfl); have w1 := struct_reach (j := 1) (d := ys[1].1) Tryz.underlying88 hw rfl (by rw [List.getElem?_map, e1]; rfl); have h0 : DataW.trod enc Tryz.prog w base spare held n 52 [a, b, c, d] = ys[0]? := h0
  have h1 : DataW.trod enc Tryz.prog w base spare held n 52 [a', b', c', d'] = ys[1]? := h1
  rw [e0] at h0; rw [e1] at h1; obtain ⟨x1, v0, v1, v2, v3, q0, r0⟩ := open_arc h0 w0; obtain ⟨x2, u0, u1, u2, u3, q1, r1⟩ := open_arc h1 w1; simp only [List.cons.injEq, and_true] at q0 q1; obtain ⟨rfl, rfl, rfl, rfl⟩ := q0; obtain ⟨rfl, rfl, rfl, rfl⟩ := q1; exact ⟨x1, x2, _, _, _, _, _, _, _, _, rfl, r0, r1⟩
end
end Go.Proofs.YtoicjadioiomkaaGreatDoor
