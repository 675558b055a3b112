/- Disk's arguments (nodes, calls, what befalls) where the bulk of what is read is bounded. Conditions: none beyond what each lemma states. -/
import Derived.Test.YthciejabapdbgaaGreatDoorSRowWea
import Derived.Test.YthciejabapdbgaaGreatDoorSBulk
import Derived.Test.YthciejabapdbgaaGreatDoorKi
set_option linter.unusedVariables false
set_option linter.unusedSimpArgs false
namespace Go.Proofs.YthciejabapdbgaaGreatDoor
open Go.ChangeShapes Go.WideShapes Go.ChangeAt Go.RowKit Go.Deep
theorem str_bulk {H : Type} (s : ByteArray) : s.size + 1 ≤ Rows.uptoBulk (DataW.lit (H := H) (.string s.data.toList)) := by
  rw [bulks.string_eq, Array.length_toList]; exact Nat.le_refl _
theorem open_nodes_up {H : Type} {enc : TypeId × Value → H} {w : World} {base : Nat} {spare : Nat → Bool} {held : Bool} {fuel : Nat} {cs : List Value} {x : DataW H × List MemPlace} (h : DataW.trod enc Tryz.prog w base spare held fuel 22 cs = some x) (hk : Rows.uptoBulk x.1 ≤ 1048576) :
    ∃ (p : Option Addr) (t : List Node) (cap : Nat), cs = [.slice p t.length cap] ∧ Row w p t ∧ t.length ≤ cap ∧ cap ≤ maxLen ∧ t.length ≤ 1048576 ∧ Fits1 t ∧ (p = none → t = [] ∧ cap = 0) := by
  rcases open_slice_fields Tryz.underlying22 Tryz.underlying105 (by kernel_rfl) (by kernel_rfl) h with ⟨hcs, _⟩ | ⟨a, len, cap, m, D, Pl, hcs, _, hl, hm, hmm, hx, hi⟩
  · exact ⟨none, [], 0, hcs, fun h => absurd rfl h, Nat.le_refl _, by decide, by decide, (fun n hn => by cases hn), fun _ => ⟨rfl, rfl⟩⟩
  have hlm : len ≤ m := by rw [hmm]; split <;> omega
  rw [hx] at hk; have hel := bulks.slice_elems ((List.range len).map D) ((List.range (m - len)).map fun j => D (len + j)); have hle := bulks.slice_le ((List.range len).map D) ((List.range (m - len)).map fun j => D (len + j)); simp only [List.length_map, List.length_range] at hle; dsimp only at hk; have hDi : ∀ i, i < len → Rows.uptoBulk (D i) ≤ 1048576 := fun i hil => by
    have := bulks.part_le (d := D i) (l := (List.range len).map D) (List.mem_map.2 ⟨i, List.mem_range.2 hil, rfl⟩); omega
  obtain ⟨t, ht, hq⟩ := list_of (Q := fun i (n : Node) => NodeAt w (a.add (i * 4)) n ∧ n.path.size ≤ 1048576 ∧ n.data.size ≤ 1048576) len (fun i hik => by
    obtain ⟨ys, n, hD, _, _, hfld⟩ := hi i (by omega); obtain ⟨v0, y0, hc0, hy0, ht0⟩ := hfld 0 _ rfl; obtain ⟨v1, y1, hc1, _, ht1⟩ := hfld 1 _ rfl; obtain ⟨v2, y2, hc2, hy2, ht2⟩ := hfld 2 _ rfl; obtain ⟨v3, y3, hc3, _, ht3⟩ := hfld 3 _ rfl; obtain ⟨s0, e0, d0, z0⟩ := DataW.trod_string Tryz.underlying9 ht0; obtain ⟨k1, e1, -, -⟩ := DataW.trod_int Tryz.underlying3 ht1
    obtain ⟨s2, e2, d2, z2⟩ := DataW.trod_string Tryz.underlying9 ht2; obtain ⟨k3, e3, -, -⟩ := DataW.trod_int Tryz.underlying3 ht3; simp only [List.cons.injEq, and_true] at e0 e1 e2 e3; subst e0; subst e1; subst e2; subst e3; rw [← Go.Deep.add_add] at hc1 hc2 hc3; have hb := hDi i hik; rw [hD] at hb
    have hagg : Rows.uptoBulkAll (ys.map (·.1)) ≤ Rows.uptoBulk (DataW.agg (ys.map (·.1))) := by simp only [Rows.uptoBulk]; omega
    have hp0 := bulks.part_le (d := y0.1) (l := ys.map (·.1)) (List.mem_map.2 ⟨y0, List.mem_of_getElem? hy0, rfl⟩); have hp2 := bulks.part_le (d := y2.1) (l := ys.map (·.1)) (List.mem_map.2 ⟨y2, List.mem_of_getElem? hy2, rfl⟩); rw [d0] at hp0; rw [d2] at hp2; have hs0 := str_bulk (H := H) s0; have hs2 := str_bulk (H := H) s2
    exact ⟨⟨s0, k1, s2, k3⟩, ⟨hc0, hc1, hc2, hc3⟩, by dsimp only at *; omega, by dsimp only at *; omega⟩)
  refine ⟨some a, t, cap, by rw [ht]; exact hcs, fun hne => ⟨a, rfl, ?_, fun i n hin => (hq i n hin).1⟩, by rw [ht]; exact hl, hm, by rw [ht]; omega, fun n hn => ?_, (fun h => by cases h)⟩
  · obtain ⟨n, hn⟩ := List.exists_mem_of_ne_nil t hne
    obtain ⟨i, hi, rfl⟩ := List.getElem_of_mem hn; have := World.block_lt_of_cell? _ _ (hq i _ (List.getElem?_eq_getElem hi)).1.path
    rwa [add_block] at this
  obtain ⟨i, hi, rfl⟩ := List.getElem_of_mem hn; exact (hq i _ (List.getElem?_eq_getElem hi)).2
theorem bulk_sum {H : Type} {α : Type} {f : α → Nat} : ∀ (t : List α) (l : List (DataW H)), t.length = l.length → (∀ (i : Nat) x d, t[i]? = some x → l[i]? = some d → f x ≤ Rows.uptoBulk d) → (t.map f).sum ≤ Rows.uptoBulkAll l
  | [], l, _, _ => by simp
  | x :: t, [], h, _ => by simp at h
  | x :: t, d :: l, h, hf => by
    have h1 := hf 0 x d rfl rfl; have h2 := bulk_sum t l (by simpa using h) (fun i y e hy he => hf (i + 1) y e (by simpa using hy) (by simpa using he)); simp only [List.map_cons, List.sum_cons, Rows.uptoBulkAll]; omega
theorem sum_const {α : Type} (k : Nat) : ∀ (t : List α), (t.map fun _ => k).sum = k * t.length
  | [] => by simp
  | x :: t => by
    have := sum_const k t; simp only [List.map_cons, List.sum_cons, List.length_cons, this]; rw [Nat.mul_succ]; omega
set_option maxRecDepth 100000 in
theorem nodes_bulk {H : Type} {enc : TypeId × Value → H} {w : World} {base : Nat} {spare : Nat → Bool} {held : Bool} {fuel : Nat} {x : DataW H × List MemPlace} {p : Option Addr} {n c : Nat} (h : DataW.trod enc Tryz.prog w base spare held fuel 22 [.slice p n c] = some x) : 5 * n + 1 ≤ Rows.uptoBulk x.1 := by
  rcases open_slice_fields Tryz.underlying22 Tryz.underlying105 (by kernel_rfl) (by kernel_rfl) h with ⟨hcs, hx⟩ | ⟨a, len, cap, m, D, Pl, hcs, _, hl, hm, hmm, hx, hi⟩
  · simp only [List.cons.injEq, Value.slice.injEq, and_true] at hcs
    obtain ⟨-, rfl, -⟩ := hcs; rw [hx]; exact bulks.one_le _
  simp only [List.cons.injEq, Value.slice.injEq, and_true] at hcs
  obtain ⟨-, rfl, -⟩ := hcs; have hlm : n ≤ m := by rw [hmm]; split <;> omega
  rw [hx]; have hel := bulks.slice_elems ((List.range n).map D) ((List.range (m - n)).map fun j => D (n + j)); have hs := bulk_sum (f := fun _ => 5) (List.range n) ((List.range n).map D) (by simp) (fun i y d hy hd => by
    have hin : i < n := by have := (List.getElem?_eq_some_iff.1 hy).1; simpa using this
    obtain ⟨ys, k, hD, _, hyl, _⟩ := hi i (by omega); have hyl : ys.length = 4 := hyl
    rw [List.getElem?_map, List.getElem?_range hin] at hd; simp only [Option.map_some, Option.some.injEq] at hd; rw [← hd, hD]; have := bulks.length_le (ys.map (·.1)); simp only [List.length_map] at this; simp only [Rows.uptoBulk]; omega)
  rw [sum_const, List.length_range] at hs; dsimp only; omega
section
variable {H : Type} {enc : TypeId × Value → H} {w : World} {base : Nat} {spare : Nat → Bool} {held : Bool} {fuel : Nat} {cs : List Value} {x : DataW H × List MemPlace}
set_option maxRecDepth 100000 in
theorem open_fates_up (h : DataW.trod enc Tryz.prog w base spare held fuel 23 cs = some x) (hk : Rows.uptoBulk x.1 ≤ 1048576) :
    ∃ (p : Option Addr) (fs : List FateP) (cap : Nat), cs = [.slice p fs.length cap] ∧ FRow w p fs ∧ fs.length ≤ 1048576 ∧ (p = none → fs = []) := by
  rcases open_slice_fields Tryz.underlying23 Tryz.underlying96 (by kernel_rfl) (by kernel_rfl) h with ⟨hcs, _⟩ | ⟨a, len, cap, m, D, Pl, hcs, _, hl, hm, hmm, hx, hi⟩
  · exact ⟨none, [], 0, hcs, FRow.nil _ _, by decide, fun _ => rfl⟩
  have hlm : len ≤ m := by rw [hmm]; split <;> omega
  obtain ⟨t, ht, hq⟩ := list_of (Q := fun i (f : FateP) => ∀ r u, (fateCells f)[r]? = some u → w.cell? (a.add (i * 4 + r)) = some u) len (fun i hik => by
    obtain ⟨ys, n, _, _, _, hfld⟩ := hi i (by omega); obtain ⟨v0, y0, hc0, _, ht0⟩ := hfld 0 _ rfl; obtain ⟨v1, y1, hc1, _, ht1⟩ := hfld 1 _ rfl; obtain ⟨v2, y2, hc2, _, ht2⟩ := hfld 2 _ rfl; obtain ⟨v3, y3, hc3, _, ht3⟩ := hfld 3 _ rfl; obtain ⟨k0, e0, -, -⟩ := DataW.trod_int Tryz.underlying3 ht0; obtain ⟨k1, e1, -, -⟩ := DataW.trod_int Tryz.underlying3 ht1
    obtain ⟨k2, e2, -, -⟩ := DataW.trod_int Tryz.underlying3 ht2; obtain ⟨k3, e3, -, -⟩ := DataW.trod_int Tryz.underlying3 ht3; simp only [List.cons.injEq, and_true] at e0 e1 e2 e3; subst e0; subst e1; subst e2; subst e3; refine ⟨⟨k0, k1, k2, k3⟩, fun r u hr => ?_⟩
    match r, hr with
    | 0, hr => simp [fateCells] at hr; subst hr; exact hc0
    | 1, hr => simp [fateCells] at hr; subst hr; exact hc1
    | 2, hr => simp [fateCells] at hr; subst hr; exact hc2
    | 3, hr => simp [fateCells] at hr; subst hr; exact hc3
    | r + 4, hr => simp [fateCells] at hr)
  refine ⟨some a, t, cap, by rw [ht]; exact hcs, fun hne => ⟨a, rfl, ?_, fun j u hj => ?_⟩, ?_, fun h => by cases h⟩
  · obtain ⟨n, hn⟩ := List.exists_mem_of_ne_nil t hne
    obtain ⟨i, hi, rfl⟩ := List.getElem_of_mem hn; have := World.block_lt_of_cell? _ _ (hq i _ (List.getElem?_eq_getElem hi) 0 _ rfl)
    rwa [add_block] at this
  · obtain ⟨i, r, f, rfl, h2, h3⟩ := fate_get t j u hj
    exact hq i f h2 r u h3
  rw [hx] at hk; have hle := bulks.slice_le ((List.range len).map D) ((List.range (m - len)).map fun j => D (len + j)); simp only [List.length_map, List.length_range] at hle; dsimp only at hk; omega
theorem len_cost : ∀ t : List EditP, t.length ≤ costE t
  | [] => Nat.zero_le _
  | e :: t => by
    have := len_cost t; unfold costE at *; simp only [List.map_cons, List.sum_cons, List.length_cons]; omega
theorem cost_four : ∀ t : List EditP, (t.map fun e => 4 * (e.value.length + 1)).sum = 4 * costE t
  | [] => rfl
  | e :: t => by
    have := cost_four t; unfold costE at *; simp only [List.map_cons, List.sum_cons]; omega
set_option maxRecDepth 100000 in
theorem open_edits_up (h : DataW.trod enc Tryz.prog w base spare held fuel 24 cs = some x) (hk : Rows.uptoBulk x.1 ≤ 1048576) :
    ∃ (p : Option Addr) (es : List EditP) (cap : Nat), cs = [.slice p es.length cap] ∧ ERow w p es ∧ 4 * costE es + 1 ≤ Rows.uptoBulk x.1 ∧ ∀ e ∈ es, (e.value.length ≤ 1048576 ∧ Fits e.value) ∧ Fits1 e.value ∧ e.path.size ≤ 1048576 := by
  rcases open_slice_fields Tryz.underlying24 Tryz.underlying36 (by kernel_rfl) (by kernel_rfl) h with ⟨hcs, hx0⟩ | ⟨a, len, cap, m, D, Pl, hcs, _, hl, hm, hmm, hx, hi⟩
  · exact ⟨none, [], 0, hcs, ERow.nil _ _, by rw [hx0]; exact bulks.one_le _, fun e he => by cases he⟩
  have hlm : len ≤ m := by rw [hmm]; split <;> omega
  rw [hx] at hk ⊢; have hel := bulks.slice_elems ((List.range len).map D) ((List.range (m - len)).map fun j => D (len + j)); have hDi : ∀ i, i < len → Rows.uptoBulk (D i) ≤ 1048576 := fun i hil => by
    have := bulks.part_le (d := D i) (l := (List.range len).map D) (List.mem_map.2 ⟨i, List.mem_range.2 hil, rfl⟩); dsimp only at hk; omega
  obtain ⟨t, ht, hq⟩ := list_of (Q := fun i (e : EditP) => (∃ u, ArgV w u e.value ∧ EditIn w (a.add (i * 3)) e u) ∧ ((e.value.length ≤ 1048576 ∧ Fits e.value) ∧ Fits1 e.value ∧ e.path.size ≤ 1048576) ∧ 4 * (e.value.length + 1) ≤ Rows.uptoBulk (D i)) len (fun i hik => by
    obtain ⟨ys, n, hD, _, hyl, hfld⟩ := hi i (by omega); obtain ⟨v0, y0, hc0, hy0, ht0⟩ := hfld 0 _ rfl; obtain ⟨v1, y1, hc1, hy1, ht1⟩ := hfld 1 _ rfl; obtain ⟨v2, y2, hc2, hy2, ht2⟩ := hfld 2 _ rfl; obtain ⟨k0, e0, -, -⟩ := DataW.trod_int Tryz.underlying3 ht0; obtain ⟨s1, e1, d1, -⟩ := DataW.trod_string Tryz.underlying9 ht1; have hb := hDi i hik; rw [hD] at hb; have hyl : ys.length = 3 := hyl
    obtain ⟨z0, z1, z2, rfl⟩ : ∃ a b c, ys = [a, b, c] := by
      match ys, hyl with
      | [a, b, c], _ => exact ⟨a, b, c, rfl⟩
    simp at hy0 hy1 hy2
    subst hy0; subst hy1; subst hy2; have hag : Rows.uptoBulk (DataW.agg ([z0, z1, z2].map (·.1))) = Rows.uptoBulk z0.1 + (Rows.uptoBulk z1.1 + (Rows.uptoBulk z2.1 + 0)) + 1 := by simp only [List.map_cons, List.map_nil, Rows.uptoBulk, Rows.uptoBulkAll]
    have hz0 := bulks.one_le z0.1; have hz1 : s1.size + 1 ≤ Rows.uptoBulk z1.1 := by rw [d1]; exact str_bulk s1
    obtain ⟨q, tt, dd, e2, r1, r2, r3, r7, r4, r5⟩ := open_nodes_up ht2 (by omega); have hz2 := nodes_bulk (e2 ▸ ht2); have hfit : Fits tt := fun n hn => by
      have := r4 n hn; have h7 : maxLen = 9223372036854775807 := rfl
      omega
    simp only [List.cons.injEq, and_true] at e0 e1 e2
    subst e0; subst e1; subst e2; rw [← Go.Deep.add_add] at hc1 hc2; exact ⟨⟨k0, s1, tt⟩, ⟨_, ⟨q, dd, rfl, r2, r3, fun h => (r5 h).1, hfit, r1⟩, ⟨hc0, hc1, hc2⟩⟩, ⟨⟨r7, hfit⟩, r4, by dsimp only at *; omega⟩, by dsimp only at *; rw [hD]; omega⟩)
  refine ⟨some a, t, cap, by rw [ht]; exact hcs, fun hne => ⟨a, rfl, ?_, fun i e hin => (hq i e hin).1⟩, ?_, fun e he => ?_⟩
  · obtain ⟨n, hn⟩ := List.exists_mem_of_ne_nil t hne
    obtain ⟨i, hi, rfl⟩ := List.getElem_of_mem hn; obtain ⟨u, -, h2⟩ := (hq i _ (List.getElem?_eq_getElem hi)).1; have := World.block_lt_of_cell? _ _ h2.at_
    rwa [add_block] at this
  · have hs := bulk_sum (f := fun e : EditP => 4 * (e.value.length + 1)) t ((List.range len).map D) (by simp [ht]) (fun i y d hy hd => by
      have hin : i < len := by have := (List.getElem?_eq_some_iff.1 hy).1; omega
      rw [List.getElem?_map, List.getElem?_range hin] at hd; simp only [Option.map_some, Option.some.injEq] at hd; rw [← hd]; exact (hq i y hy).2.2)
    have h4 := cost_four t; dsimp only; omega
  obtain ⟨i, hi, rfl⟩ := List.getElem_of_mem he; exact (hq i _ (List.getElem?_eq_getElem hi)).2.1
end
end Go.Proofs.YthciejabapdbgaaGreatDoor
