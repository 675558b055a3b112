/- hawserlaw06.TreeNames: the walk. Conditions: the tables of unicode/utf8 are laid; no string is longer than Go's can be. -/
import Derived.Test.YtpaeihdkggbeoaaGreatDoorAwake
import Derived.Deep.Slices
import Derived.Laws.Concat
import Derived.Laws.AppendOwnNone
namespace Go.Proofs.YtpaeihdkggbeoaaGreatDoor
open Go.RowKit Go.Op

theorem infoNode : (Tryz.prog.info? 40).map (fun i => (i.zero, i.size, i.bytes)) = some (some node0.val, 4, 48) := by kernel_rfl
def ndL (n : Node) : List Value := [.string n.path, .int .i64 n.kind, .string n.data, .int .i64 n.mode]
theorem flat4 : ∀ (t : List Node) (i : Nat) (r : Nat), r < 4 → (t.flatMap ndL)[i * 4 + r]? = (t[i]?).bind fun n => (ndL n)[r]?
  | [], i, r, _ => by simp
  | n :: t, 0, r, hr => by
    rw [List.flatMap_cons, Nat.zero_mul, Nat.zero_add, List.getElem?_append_left (by simp [ndL]; omega)]
    rfl
  | n :: t, i + 1, r, hr => by
    have ih := flat4 t i r hr
    rw [List.flatMap_cons, List.getElem?_append_right (by simp [ndL]; omega)]
    have : (i + 1) * 4 + r - (ndL n).length = i * 4 + r := by simp [ndL]; omega
    rw [this, ih]
    simp
theorem flat_len (t : List Node) : (t.flatMap ndL).length = t.length * 4 := by
  induction t with
  | nil => rfl
  | cons n t ih => rw [List.flatMap_cons, List.length_append, ih]; simp [ndL]; omega
theorem flat_one (t : List Node) : ∀ u ∈ t.flatMap ndL, u.oneCell' = true := by
  intro u hu
  obtain ⟨n, _, hn⟩ := List.mem_flatMap.1 hu
  simp [ndL] at hn
  rcases hn with rfl | rfl | rfl | rfl <;> rfl
/-- a row's cells, one by one -/
theorem row_cells {w : World} {a : Addr} {t : List Node} (h : Row w (some a) t) : ∀ j u, (t.flatMap ndL)[j]? = some u → w.cell? (a.add j) = some u := by
  intro j u hj
  have hj4 : j = j / 4 * 4 + j % 4 := by omega
  rw [hj4] at hj ⊢
  rw [flat4 t _ _ (Nat.mod_lt _ (by decide))] at hj
  cases hn : t[j / 4]? with
  | none => rw [hn] at hj; cases hj
  | some n =>
    rw [hn] at hj
    obtain ⟨a', e, _, hr⟩ := h (by intro e; subst e; simp at hn)
    cases e
    have hna := hr _ _ hn
    rw [← Go.Deep.add_add]
    have hm := Nat.mod_lt j (show 0 < 4 by decide)
    generalize j % 4 = r at *
    match r, hm, hj with
    | 0, _, hj => cases hj; exact hna.path
    | 1, _, hj => cases hj; exact hna.kind
    | 2, _, hj => cases hj; exact hna.data
    | 3, _, hj => cases hj; exact hna.mode
theorem own_nodes {W : World} {base m : Nat} {v : Value} {t : List Node} (hm : m = t.length) (h : W.ownsRow base 40 4 v m (t.flatMap ndL)) (h0 : 0 < m) :
    ∃ g cap, v = .slice (some ⟨g, 0, none⟩) m cap ∧ base ≤ g ∧ Row W (some ⟨g, 0, none⟩) t := by
  subst hm
  rcases h.2 with ⟨_, h1⟩ | ⟨g, cap, cur, rfl, hb, hh, hc, _, hsz, ht⟩
  · omega
  · refine ⟨g, cap, rfl, hb, row_blk (ty := 40) hh fun i n hi => ?_⟩
    have key : ∀ r, r < 4 → cur[i * 4 + r]? = (ndL n)[r]? := fun r hr => by
      have h2 : (cur.toList.take (t.length * 4))[i * 4 + r]? = (ndL n)[r]? := by rw [ht, flat4 t i r hr, hi]; rfl
      have hil := (List.getElem?_eq_some_iff.1 hi).1
      rw [List.getElem?_take, if_pos (by omega)] at h2
      simpa using h2
    exact ⟨key 0 (by decide), key 1 (by decide), key 2 (by decide), key 3 (by decide)⟩
/-- a row of strings that the call owns -/
theorem own_strs {W : World} {base : Nat} {v : Value} {L : List ByteArray} (h : W.ownsRow base 9 1 v L.length (L.map Value.string)) :
    ∃ pl cap, v = .slice pl L.length cap ∧ ∀ (i : Nat) (x : ByteArray), L[i]? = some x → ∃ g, pl = some ⟨g, 0, none⟩ ∧ g < W.heap.size ∧ W.cell? ⟨g, i, none⟩ = some (.string x) := by
  rcases h.2 with ⟨rfl, h1⟩ | ⟨g, cap, cur, rfl, hb, hh, hc, _, hsz, ht⟩
  · exact ⟨none, 0, by rw [h1], fun i x hi => by rw [List.length_eq_zero_iff.1 h1] at hi; simp at hi⟩
  · refine ⟨some ⟨g, 0, none⟩, cap, rfl, fun i x hi => ⟨g, rfl, (Array.getElem?_eq_some_iff.1 hh).1, ?_⟩⟩
    have hil := (List.getElem?_eq_some_iff.1 hi).1
    rw [cell_of_row W g i cur 9 (0, 0) hh]
    have h2 : (cur.toList.take (L.length * 1))[i]? = some (.string x) := by rw [ht, List.getElem?_map, hi]; rfl
    rw [List.getElem?_take, if_pos (by omega)] at h2
    simpa using h2
def rootC : Array Value := #[.string ⟨#[]⟩, .int .i64 2, .string ⟨#[]⟩, .int .i64 0]
/-- how many names the first k directories have -/
def cntN (t : List Node) (k : Nat) : Nat := (((rootN :: t).take k).map fun d => (namesR t d.p).length).sum
theorem cntN_succ {t : List Node} {k : Nat} (hk : k < (rootN :: t).length) : cntN t (k + 1) = cntN t k + (namesR t (rootN :: t)[k].p).length := by
  unfold cntN; rw [List.take_succ_eq_append_getElem hk, List.map_append, List.sum_append]; simp
theorem cntN_all {t : List Node} (h : okTree t = true) : cntN t (t.length + 1) = t.length := by
  unfold cntN; rw [List.take_of_length_le (by simp)]; exact names_count h
theorem cntN_le {t : List Node} (h : okTree t = true) : ∀ k, k ≤ t.length + 1 → cntN t k ≤ t.length := fun k hk => by
  have hmono : ∀ d k, cntN t k ≤ cntN t (k + d) := fun d => by
    induction d with
    | zero => intro k; exact Nat.le_refl _
    | succ d ih =>
      intro k
      refine Nat.le_trans (ih k) ?_
      rcases Nat.lt_or_ge (k + d) (rootN :: t).length with hl | hl
      · have := cntN_succ (t := t) hl; rw [← Nat.add_assoc, this]; omega
      · unfold cntN
        rw [List.take_of_length_le hl, List.take_of_length_le (by omega)]
        exact Nat.le_refl _
  have := hmono (t.length + 1 - k) k
  rw [show k + (t.length + 1 - k) = t.length + 1 by omega, cntN_all h] at this
  exact this
theorem names_len (t : List Node) (d : Str) : (namesR t d).length ≤ t.length := by
  unfold namesR
  split
  · exact namesOf_len t d
  · simp
theorem getP_found {t : List Node} {d : Str} {nd : Node} {f : Bool} (hok : okTree t = true) (hm : ∃ m ∈ t, m.p = d) (h : (f = true ∧ okTree t = true ∧ nd ∈ t ∧ nd.p = d) ∨ (f = false ∧ nd = node0 ∧ (okTree t = true → ∀ m ∈ t, m.p ≠ d))) : f = true := by
  rcases h with ⟨h, _⟩ | ⟨_, _, h⟩
  · exact h
  · obtain ⟨m, h1, h2⟩ := hm
    exact absurd h2 (h hok m h1)
theorem rise_at {L : List ByteArray} (h : L.Pairwise fun a b => Lib.compareBytes (str a) (str b) < 0) {i : Nat} {x y : ByteArray} (hx : L[i]? = some x) (hy : L[i + 1]? = some y) : bytesLess x.toList y.toList = true := by
  obtain ⟨h1, rfl⟩ := List.getElem?_eq_some_iff.1 hx
  obtain ⟨h2, rfl⟩ := List.getElem?_eq_some_iff.1 hy
  rw [toList_str, toList_str, less_cmp]
  exact decide_eq_true (List.pairwise_iff_getElem.1 h i (i + 1) h1 h2 (by omega))

theorem own_off0 {w w2 W6 : World} {v : Value} {n : Nat} {xs : List Value} {o : Obj} (ho : Off [] w (w2.alloc o)) (hown : (w2.alloc o).ownsRow w2.heap.size 40 4 v n xs) (hg : (w2.alloc o).grownBy W6 v.ownBlock) (hsz : w.heap.size ≤ w2.heap.size) : Off [] w W6 := by
  refine ho.grown hg (fun g hg' => .inl ?_)
  rcases hown.2 with ⟨rfl, _⟩ | ⟨g', cap, cur, rfl, hb, _⟩
  · cases hg'
  · cases hg'; exact Nat.le_trans hsz hb
end Go.Proofs.YtpaeihdkggbeoaaGreatDoor
