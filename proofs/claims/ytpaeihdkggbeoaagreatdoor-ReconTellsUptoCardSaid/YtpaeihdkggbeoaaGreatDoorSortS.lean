/- slices.Sort and slices.Compact of strings in memory of the call's own; lists of strings and of nodes, side by side. Conditions: what each contract states. -/
import Derived.Test.YtpaeihdkggbeoaaGreatDoorConcatS
namespace Go.Proofs.YtpaeihdkggbeoaaGreatDoor
open Go.RowKit Go.Op

def sortS (ss : List ByteArray) : List ByteArray := ((ss.map str).mergeSort fun x y => decide (x ≤ y)).map bs
def compS (ss : List ByteArray) : List ByteArray := (Lib.compact (ss.map str)).map bs
theorem sortS_len (ss : List ByteArray) : (sortS ss).length = ss.length := by unfold sortS; rw [List.length_map, List.length_mergeSort, List.length_map]
theorem sortS_mem {ss : List ByteArray} {x : ByteArray} (h : x ∈ sortS ss) : x ∈ ss := by
  unfold sortS at h
  obtain ⟨y, hy, rfl⟩ := List.mem_map.1 h
  rw [List.mem_mergeSort] at hy
  obtain ⟨z, hz, rfl⟩ := List.mem_map.1 hy
  rw [bs_str]; exact hz
theorem compact_mem {l : List Str} {x : Str} (h : x ∈ Lib.compact l) : x ∈ l := by
  unfold Lib.compact Lib.compactUpTo at h
  obtain ⟨i, hi, rfl⟩ := List.mem_map.1 h
  have h2 := List.mem_range.1 (List.mem_filter.1 hi).1
  rw [getElem!_pos l.toArray i (by simpa using h2)]
  simp
theorem compS_mem {ss : List ByteArray} {x : ByteArray} (h : x ∈ compS ss) : x ∈ ss := by
  unfold compS at h
  obtain ⟨y, hy, rfl⟩ := List.mem_map.1 h
  obtain ⟨z, hz, rfl⟩ := List.mem_map.1 (compact_mem hy)
  rw [bs_str]; exact hz
theorem compact_len (l : List Str) : (Lib.compact l).length ≤ l.length := by
  unfold Lib.compact Lib.compactUpTo
  rw [List.length_map]
  exact Nat.le_trans (List.length_filter_le _ _) (by rw [List.length_range]; exact Nat.le_refl _)
theorem compS_len (ss : List ByteArray) : (compS ss).length ≤ ss.length := by
  unfold compS; rw [List.length_map]; exact Nat.le_trans (compact_len _) (by rw [List.length_map]; exact Nat.le_refl _)
theorem map_bs_str (l : List Str) : (l.map bs).map Value.string = l.map encStr := by rw [List.map_map]; rfl
theorem map_str_enc (ss : List ByteArray) : (ss.map str).map encStr = ss.map Value.string := by
  rw [List.map_map]
  exact List.map_congr_left fun x _ => by
    show Value.string (bs (str x)) = _
    rw [bs_str]

/-! ### a row that is put anew -/
theorem putRow_at {W : World} {g : Nat} {d : Array Str} {cur : Array Value} {e : TypeId} (h : W.heap[g]? = some (.cells cur e (0, 0))) : (Sort.putRow encStr W g 0 d).heap[g]? = some (.cells (Sort.putCells encStr 0 d cur) e (0, 0)) := by
  unfold Sort.putRow Sort.mapBlock
  simp [Array.getElem?_modify, h, Sort.onCells]
theorem putRow_far {W : World} {g k : Nat} {d : Array Str} (h : g ≠ k) : (Sort.putRow encStr W g 0 d).heap[k]? = W.heap[k]? := by
  unfold Sort.putRow Sort.mapBlock
  simp [Array.getElem?_modify, h]
theorem putCells_take {d : Array Str} {cur : Array Value} {n : Nat} (hn : n ≤ d.size) (hc : n ≤ cur.size) : (Sort.putCells encStr 0 d cur).toList.take n = (d.toList.map encStr).take n := by
  apply List.ext_getElem?
  intro i
  rw [List.getElem?_take, List.getElem?_take]
  by_cases hi : i < n
  · rw [if_pos hi, if_pos hi, Array.getElem?_toList, List.getElem?_map, Array.getElem?_toList]
    unfold Sort.putCells
    rw [Array.getElem?_mapIdx, Array.getElem?_eq_getElem (by omega), Array.getElem?_eq_getElem (by omega)]
    simp only [Option.map_some]
    rw [if_pos ⟨by omega, by omega⟩, Nat.sub_zero, getElem!_pos d i (by omega)]
  · rw [if_neg hi, if_neg hi]
theorem grow_low {W : World} {os : Array Obj} {k : Nat} (h : k < W.heap.size) : (Sort.grow W os).heap[k]? = W.heap[k]? := by
  unfold Sort.grow
  exact Array.getElem?_append_left h
theorem putRow_size (W : World) (g : Nat) (d : Array Str) : (Sort.putRow encStr W g 0 d).heap.size = W.heap.size := by
  unfold Sort.putRow Sort.mapBlock; simp
theorem put_own {W w0 : World} {base g n m cap : Nat} {xs : List Value} (h : W.ownsRow base 9 1 (.slice (some ⟨g, 0, none⟩) n cap) n xs) (hb : w0.heap.size ≤ base) (ho : Off [] w0 W) (d : Array Str) (hd : d.size = n) (hm : m ≤ n) (q : Nat) (os : Array Obj) :
    (Sort.grow (Sort.putRow encStr (Sort.ahead W q) g 0 d) os).ownsRow base 9 1 (.slice (some ⟨g, 0, none⟩) m cap) m ((d.toList.map encStr).take m) ∧ Off [] w0 (Sort.grow (Sort.putRow encStr (Sort.ahead W q) g 0 d) os) := by
  rcases h.2 with ⟨h0, _⟩ | ⟨g', cap', cur, hv, hbg, hh, hc, hmx, hs, ht⟩
  · cases h0
  · cases hv
    have hh' : (Sort.ahead W q).heap[g]? = some (.cells cur 9 (0, 0)) := hh
    have hlt : g < W.heap.size := (Array.getElem?_eq_some_iff.1 hh).1
    have hsz : (Sort.putRow encStr (Sort.ahead W q) g 0 d).heap.size = W.heap.size := putRow_size _ _ _
    refine ⟨⟨?_, .inr ⟨g, cap, Sort.putCells encStr 0 d cur, rfl, hbg, ?_, by omega, hmx, ?_, ?_⟩⟩, ?_⟩
    · rw [List.length_take, List.length_map, Array.length_toList]; omega
    · rw [grow_low (by rw [hsz]; exact hlt)]; exact putRow_at hh'
    · unfold Sort.putCells; rw [Array.size_mapIdx]; exact hs
    · rw [Nat.mul_one]; exact putCells_take (by omega) (by omega)
    · refine ⟨ho.os, ho.tape, ho.output, ?_, fun k hk hn => ?_⟩
      · unfold Sort.grow; simp only [Array.size_append]; rw [hsz]; have := ho.size; omega
      · rw [grow_low (by rw [hsz]; have := ho.size; omega), putRow_far (by omega)]
        exact ho.block k hk hn
theorem own_holds {W : World} {base g cap : Nat} {ss : List ByteArray} (h : W.ownsRow base 9 1 (.slice (some ⟨g, 0, none⟩) ss.length cap) ss.length (ss.map Value.string)) : Sort.Holds encStr W g 0 (ss.map str).toArray := by
  intro j hj
  have hj' : j < ss.length := by simpa using hj
  have hc := h.cells (g := g) rfl j (.string ss[j]) (by rw [List.getElem?_map, List.getElem?_eq_getElem hj']; rfl)
  rw [addr_add] at hc
  rw [Nat.zero_add]
  refine ⟨?_, ?_⟩
  · rw [hc, getElem!_pos _ j hj]
    congr 1
    simp only [List.getElem_toArray, List.getElem_map]
    show Value.string _ = Value.string (bs (str ss[j]))
    rw [bs_str]
  · rcases h.2 with ⟨h0, _⟩ | ⟨g', cap', cur, hv, _, hh, _⟩
    · cases h0
    · cases hv; exact Blk.frozen (w := W) (t := 9) (cs := cur) hh j
theorem sort_own {W w0 : World} {base : Nat} {v : Value} {ss : List ByteArray} (h : W.ownsRow base 9 1 v ss.length (ss.map Value.string)) (hb : w0.heap.size ≤ base) (ho : Off [] w0 W) (hl : ss.length ≤ 1000000) :
    Calls Tryz.prog 59 #[v] W fun e w' => e = .returned (.tuple #[]) ∧ w'.ownsRow base 9 1 v (sortS ss).length ((sortS ss).map Value.string) ∧ Off [] w0 w' := by
  rw [sortS_len]
  rcases h.2 with ⟨rfl, h0⟩ | ⟨g, cap, cur, rfl, hbg, hh, _⟩
  · have hs : ss = [] := List.length_eq_zero_iff.1 h0
    subst hs
    exact (Tryz.slices_Sort_string_none none 0 W).mono fun e w' ⟨he, hw⟩ => ⟨he, by subst hw; rw [show sortS [] = [] by unfold sortS; simp]; exact h, by subst hw; exact ho⟩
  · have hlt : g < W.heap.size := (Array.getElem?_eq_some_iff.1 hh).1
    have := Tryz.slices_Sort_string g 0 cap (ss.map str) W (own_holds h) hlt (by rw [List.length_map]; omega)
    rw [List.length_map] at this
    refine this.mono fun e w' ⟨he, n, os, hw⟩ => ?_
    subst hw
    have hp := put_own h hb ho ((ss.map str).mergeSort fun x y => decide (x ≤ y)).toArray (by simp) (Nat.le_refl _) n os
    refine ⟨he, ?_, hp.2⟩
    have h1 := hp.1
    rw [List.take_of_length_le (by simp)] at h1
    unfold sortS
    rw [map_bs_str]
    simpa using h1
theorem comp_own {W w0 : World} {base : Nat} {v : Value} {ss : List ByteArray} (h : W.ownsRow base 9 1 v ss.length (ss.map Value.string)) (hb : w0.heap.size ≤ base) (ho : Off [] w0 W) (hl : ss.length ≤ 1000000) :
    Calls Tryz.prog 60 #[v] W fun e w' => ∃ v', e = .returned v' ∧ w'.ownsRow base 9 1 v' (compS ss).length ((compS ss).map Value.string) ∧ Off [] w0 w' := by
  rcases h.2 with ⟨rfl, h0⟩ | ⟨g, cap, cur, rfl, hbg, hh, hc, _⟩
  · have hs : ss = [] := List.length_eq_zero_iff.1 h0
    subst hs
    exact (Tryz.slices_Compact_string_empty none 0 W).mono fun e w' ⟨he, hw⟩ => ⟨_, he, by subst hw; exact ⟨rfl, .inl ⟨rfl, rfl⟩⟩, by subst hw; exact ho⟩
  · have := Tryz.slices_Compact_string g 0 cap (ss.map str) W (own_holds h) (by rw [List.length_map]; omega) (by rw [List.length_map]; exact hc)
    rw [List.length_map] at this
    refine this.mono fun e w' ⟨he, q, hw⟩ => ?_
    have hcl := compact_len (ss.map str)
    rw [List.length_map] at hcl
    have hp := put_own h hb ho (Lib.compact (ss.map str) ++ List.replicate (ss.length - (Lib.compact (ss.map str)).length) []).toArray (by simp; omega) hcl q #[]
    rw [Sort.grow_empty] at hp
    rw [← hw] at hp
    have hln : (compS ss).length = (Lib.compact (ss.map str)).length := by unfold compS; rw [List.length_map]
    refine ⟨_, he, ?_, hp.2⟩
    have h1 := hp.1
    rw [List.map_append, List.take_append_of_le_length (by rw [List.length_map]; exact Nat.le_refl _), List.take_of_length_le (by rw [List.length_map]; exact Nat.le_refl _)] at h1
    rw [hln]
    unfold compS
    rw [map_bs_str]
    exact h1

/-! ### lists side by side -/
def SlS (W : World) (v : Value) (l : List ByteArray) : Prop := ∃ p c, v = .slice p l.length c ∧ Strs W p l ∧ (p = none → l = [] ∧ c = 0)
theorem SlS.off {w w' : World} {v : Value} {l : List ByteArray} (h : SlS w v l) (ho : Off [] w w') : SlS w' v l := by
  obtain ⟨p, c, h1, h2, h3⟩ := h
  exact ⟨p, c, h1, h2.off ho, h3⟩
theorem SlS.own {W : World} {base : Nat} {v : Value} {l : List ByteArray} (h : W.ownsRow base 9 1 v l.length (l.map Value.string)) : SlS W v l := by
  have h0 := h
  obtain ⟨p, c, rfl, hs⟩ := own_strs h
  refine ⟨p, c, rfl, hs, fun hp => ?_⟩
  subst hp
  rcases h0.2 with ⟨h1, h2⟩ | ⟨g, cap, cur, hv, _⟩
  · injection h1 with _ h3 h4
    exact ⟨List.length_eq_zero_iff.1 h3, h4⟩
  · cases hv
theorem pts3S {W : World} {g : Nat} {e : TypeId} {v1 v2 v3 : Value} {t1 t2 t3 : List ByteArray} (hb : Blk W g e #[v1, v2, v3]) (h1 : SlS W v1 t1) (h2 : SlS W v2 t2) (h3 : SlS W v3 t3) : ∃ L : List PtS, L.length = 3 ∧ PtsS W g L ∧ strsIn L = t1 ++ (t2 ++ t3) := by
  obtain ⟨p1, c1, rfl, r1, n1⟩ := h1
  obtain ⟨p2, c2, rfl, r2, n2⟩ := h2
  obtain ⟨p3, c3, rfl, r3, n3⟩ := h3
  refine ⟨[(p1, t1, c1), (p2, t2, c2), (p3, t3, c3)], rfl, ⟨hb.lt, fun i x hi => ?_⟩, by simp [strsIn]⟩
  have hc := hb.cell i
  match i, hi with
  | 0, hi => cases hi; exact ⟨hc, r1, n1⟩
  | 1, hi => cases hi; exact ⟨hc, r2, n2⟩
  | 2, hi => cases hi; exact ⟨hc, r3, n3⟩
  | i + 3, hi => simp at hi
theorem concat3S {w1 : World} {v1 v2 v3 : Value} {t1 t2 t3 : List ByteArray} (h1 : SlS w1 v1 t1) (h2 : SlS w1 v2 t2) (h3 : SlS w1 v3 t3) (hl : (t1 ++ (t2 ++ t3)).length ≤ 1000000) :
    Calls Tryz.prog 57 #[.slice (some ⟨w1.heap.size, 0, none⟩) 3 3] (w1.alloc (.cells #[v1, v2, v3] 46)) fun e w' => ∃ v, e = .returned v ∧ w'.ownsRow w1.heap.size 9 1 v (t1 ++ (t2 ++ t3)).length ((t1 ++ (t2 ++ t3)).map Value.string) ∧ Off [] w1 w' := by
  have ho : Off [] w1 (w1.alloc (.cells #[v1, v2, v3] 46)) := (Off.refl _ w1).alloc _
  obtain ⟨L, hL, hP, hN⟩ := pts3S (Blk.new w1 46 #[v1, v2, v3]) (h1.off ho) (h2.off ho) (h3.off ho)
  have h := concatS_any w1.heap.size 3 L _ hP (by omega) (by rw [hN]; exact hl)
  rw [hL, hN] at h
  exact h.mono fun e w' ⟨v, he, hown, ho2⟩ => ⟨v, he, own_base hown ho.size, ho.trans_nil ho2⟩
end Go.Proofs.YtpaeihdkggbeoaaGreatDoor
