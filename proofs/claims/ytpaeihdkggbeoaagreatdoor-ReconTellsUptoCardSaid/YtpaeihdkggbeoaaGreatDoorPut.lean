/- tree.Put and its change's put: the walks. Conditions: what each contract states. -/
import Derived.Test.YtpaeihdkggbeoaaGreatDoorWith
import Derived.Test.YtpaeihdkggbeoaaGreatDoorRight
import Derived.Test.YtpaeihdkggbeoaaGreatDoorConcatT
import Derived.StillTailTactics
namespace Go.Proofs.YtpaeihdkggbeoaaGreatDoor
open Go.RowKit Go.Op

/-! ### rows of the call's own that are written -/
theorem own_set {W : World} {base e g m cap : Nat} {xs : List Value} (h : W.ownsRow base e 4 (.slice (some ⟨g, 0, none⟩) m cap) m xs) (_ : 0 < m) (j : Nat) (u : Value) : (W.setCell ⟨g, j, none⟩ u).ownsRow base e 4 (.slice (some ⟨g, 0, none⟩) m cap) m (xs.set j u) := by
  refine ⟨by rw [List.length_set]; exact h.1, ?_⟩
  rcases h.2 with ⟨h0, _⟩ | ⟨g', cap', cur, hv, hb, hh, hc, hmx, hs, ht⟩
  · cases h0
  · injection hv with h1 h2 h3
    injection h1 with h1
    injection h1 with h1 _
    subst h1; subst h3
    refine .inr ⟨g, cap, cur.setIfInBounds j u, rfl, hb, ?_, hc, hmx, by rw [Array.size_setIfInBounds]; exact hs, ?_⟩
    · have := Blk.set_ (w := W) (g := g) (t := e) (cs := cur) hh j u
      exact this
    · rw [Array.toList_setIfInBounds, List.take_set, ht]
theorem own_cell {W : World} {base e g m cap : Nat} {xs : List Value} (h : W.ownsRow base e 4 (.slice (some ⟨g, 0, none⟩) m cap) m xs) {j : Nat} {u : Value} (hj : xs[j]? = some u) : W.cell? ⟨g, j, none⟩ = some u := by
  have := h.cells (g := g) rfl j u hj
  rwa [addr_add] at this
theorem own_frozen {W : World} {base e g m cap : Nat} {xs : List Value} (h : W.ownsRow base e 4 (.slice (some ⟨g, 0, none⟩) m cap) m xs) (j : Nat) : W.frozen? ⟨g, j, none⟩ = false := by
  rcases h.2 with ⟨h0, _⟩ | ⟨g', cap', cur, hv, hb, hh, _⟩
  · cases h0
  · injection hv with h1 h2 h3
    injection h1 with h1
    injection h1 with h1 _
    subst h1
    exact Blk.frozen (w := W) (t := e) (cs := cur) hh j
theorem own_lt {W : World} {base e g m cap : Nat} {xs : List Value} (h : W.ownsRow base e 4 (.slice (some ⟨g, 0, none⟩) m cap) m xs) : base ≤ g ∧ g < W.heap.size := h.lt g rfl
theorem own_some {W : World} {base e m : Nat} {v : Value} {xs : List Value} (h : W.ownsRow base e 4 v m xs) (hm : 0 < m) : ∃ g cap, v = .slice (some ⟨g, 0, none⟩) m cap ∧ m ≤ cap := by
  rcases h.2 with ⟨_, h0⟩ | ⟨g, cap, cur, hv, _, _, hc, _⟩
  · omega
  · exact ⟨g, cap, hv, hc⟩
theorem own_keep {W W' : World} {base e n : Nat} {v : Value} {xs : List Value} (h : W.ownsRow base e 4 v n xs) (ho : Off [] W W') : W'.ownsRow base e 4 v n xs := by
  refine ⟨h.1, ?_⟩
  rcases h.2 with h | ⟨g, cap, cur, hv, hb, hh, hr⟩
  · exact .inl h
  · exact .inr ⟨g, cap, cur, hv, hb, (ho.block g (Array.getElem?_eq_some_iff.1 hh).1 (by simp)).trans hh, hr⟩
theorem cellsOf_set : ∀ (L : List Node) (k : Nat) (x : Node) (s : ByteArray), L[k]? = some x → (cellsOf L).set (k * 4) (.string s) = cellsOf (L.set k { x with path := s })
  | [], k, x, s, h => by simp at h
  | y :: L, 0, x, s, h => by cases h; simp [cellsOf]
  | y :: L, k + 1, x, s, h => by
    have ih := cellsOf_set L k x s (by simpa using h)
    have e : ∀ (z : Node) (L : List Node), cellsOf (z :: L) = .string z.path :: .int .i64 z.kind :: .string z.data :: .int .i64 z.mode :: cellsOf L := fun z L => by simp [cellsOf]
    rw [List.set_cons_succ, e, e, ← ih, show (k + 1) * 4 = k * 4 + 1 + 1 + 1 + 1 by omega]
    simp only [List.set_cons_succ]
theorem cellsOf_at : ∀ (L : List Node) (k : Nat) (x : Node), L[k]? = some x → (cellsOf L)[k * 4]? = some (.string x.path)
  | [], k, x, h => by simp at h
  | y :: L, 0, x, h => by cases h; simp [cellsOf]
  | y :: L, k + 1, x, h => by
    have ih := cellsOf_at L k x (by simpa using h)
    have e : cellsOf (y :: L) = .string y.path :: .int .i64 y.kind :: .string y.data :: .int .i64 y.mode :: cellsOf L := by simp [cellsOf]
    rw [e, show (k + 1) * 4 = k * 4 + 1 + 1 + 1 + 1 by omega]
    simpa using ih
/-- as far as the paths are written -/
def movTo (path : ByteArray) (v : List Node) (k : Nat) : List Node := v.mapIdx fun i n => if i < k then { n with path := newPath path i n.path } else n
theorem movTo_zero (path : ByteArray) (v : List Node) : movTo path v 0 = v := by
  unfold movTo
  apply List.ext_getElem?
  intro i
  rw [List.getElem?_mapIdx]
  cases v[i]? <;> simp
theorem movTo_get {path : ByteArray} {v : List Node} {k i : Nat} {x : Node} (h : v[i]? = some x) : (movTo path v k)[i]? = some (if i < k then { x with path := newPath path i x.path } else x) := by
  unfold movTo; rw [List.getElem?_mapIdx, h]; rfl
theorem movTo_succ {path : ByteArray} {v : List Node} {k : Nat} {x : Node} (h : v[k]? = some x) : movTo path v (k + 1) = (movTo path v k).set k { x with path := newPath path k x.path } := by
  apply List.ext_getElem?
  intro i
  rw [List.getElem?_set]
  unfold movTo
  rw [List.getElem?_mapIdx, List.getElem?_mapIdx, List.length_mapIdx]
  have hk := (List.getElem?_eq_some_iff.1 h).1
  by_cases hik : k = i
  · subst hik
    rw [h]; simp [hk]
  · rw [if_neg hik]
    cases v[i]? with
    | none => rfl
    | some y =>
      have : (i < k + 1) = (i < k) := by apply propext; omega
      simp [this]
theorem movTo_all (path : ByteArray) (v : List Node) : movTo path v v.length = moved path v := by
  apply List.ext_getElem?
  intro i
  unfold movTo moved
  rw [List.getElem?_mapIdx, List.getElem?_mapIdx]
  cases h : v[i]? with
  | none => rfl
  | some y => simp [(List.getElem?_eq_some_iff.1 h).1]
theorem movTo_len (path : ByteArray) (v : List Node) (k : Nat) : (movTo path v k).length = v.length := by unfold movTo; simp
theorem set_twice (L : List Node) (k : Nat) (x : Node) (s s' : ByteArray) : (L.set k { x with path := s }).set k { x with path := s' } = L.set k { x with path := s' } := by rw [List.set_set]
theorem okVal_small {v : List Node} (h : okVal v = true) {n : Node} (hn : n ∈ v) : n.path.size ≤ 400 := by
  cases v with
  | nil => cases hn
  | cons x r =>
    obtain ⟨_, h2, _, h4⟩ := okVal_cons h
    rcases List.mem_cons.1 hn with rfl | hn
    · rw [← str_size]; show n.p.length ≤ 400; rw [h2]; simp
    · rcases h4 with rfl | ⟨_, h4⟩
      · cases hn
      · exact okTree_small h4 hn
/-- three lists of nodes, side by side -/
theorem pts3 {W : World} {g : Nat} {e : TypeId} {v1 v2 v3 : Value} {t1 t2 t3 : List Node} (hb : Blk W g e #[v1, v2, v3]) (h1 : Sl W v1 t1) (h2 : Sl W v2 t2) (h3 : Sl W v3 t3) : ∃ L : List Pt, L.length = 3 ∧ PtsAt W g L ∧ nodesIn L = t1 ++ (t2 ++ t3) := by
  obtain ⟨p1, c1, rfl, r1, _, _, n1⟩ := h1
  obtain ⟨p2, c2, rfl, r2, _, _, n2⟩ := h2
  obtain ⟨p3, c3, rfl, r3, _, _, n3⟩ := h3
  refine ⟨[(p1, t1, c1), (p2, t2, c2), (p3, t3, c3)], rfl, ⟨hb.lt, fun i x hi => ?_⟩, by simp [nodesIn]⟩
  have hc := hb.cell i
  match i, hi with
  | 0, hi => cases hi; exact ⟨hc, r1, n1⟩
  | 1, hi => cases hi; exact ⟨hc, r2, n2⟩
  | 2, hi => cases hi; exact ⟨hc, r3, n3⟩
  | i + 3, hi => simp at hi
theorem Row.drop {w : World} {a : Addr} {t : List Node} (h : Row w (some a) t) (j : Nat) : Row w (some (a.add (j * 4))) (t.drop j) := fun hne => by
  obtain ⟨a', ha, hb, hn⟩ := h (fun e => by subst e; simp at hne)
  cases ha
  refine ⟨_, rfl, by rw [add_block]; exact hb, fun i n hi => ?_⟩
  rw [List.getElem?_drop] at hi
  have := hn (j + i) n hi
  rw [Go.Deep.add_add, ← Nat.add_mul]
  exact this
theorem Sl.dropV {w : World} {a : Addr} {t : List Node} {n c j : Nat} (h : Row w (some a) t) (hl : t.length = n) (hj : j ≤ n) (hc : n ≤ c) (hm : c ≤ maxLen) : Sl w (.slice (if c = j then some a else some (a.add (j * 4))) (n - j) (c - j)) (t.drop j) := by
  by_cases h1 : c = j
  · have h0 : t.drop j = [] := List.drop_eq_nil_of_le (by omega)
    rw [if_pos h1, h0]
    exact ⟨some a, c - j, by congr 1; simp; omega, fun h => absurd rfl h, by simp, by omega, fun h => by cases h⟩
  · rw [if_neg h1]
    exact ⟨some (a.add (j * 4)), c - j, by rw [List.length_drop, hl], h.drop j, by rw [List.length_drop, hl]; omega, by omega, fun h => by cases h⟩
theorem Sl.takeV {w : World} {a : Addr} {t : List Node} {n c i : Nat} (h : Row w (some a) t) (hl : t.length = n) (hi : i ≤ n) (hc : n ≤ c) (hm : c ≤ maxLen) : Sl w (.slice (some a) i c) (t.take i) :=
  ⟨some a, c, by rw [List.length_take, hl, Nat.min_eq_left hi], h.take i, by rw [List.length_take]; omega, hm, fun h => by cases h⟩
theorem Sl.none {w : World} : Sl w (.slice none 0 0) [] := ⟨.none, 0, rfl, fun h => absurd rfl h, Nat.le_refl _, by decide, fun _ => ⟨rfl, rfl⟩⟩
theorem Sl.own {W : World} {base : Nat} {v : Value} {t : List Node} (h : W.ownsRow base 40 4 v t.length (cellsOf t)) : Sl W v t := by
  obtain ⟨p, cap, rfl, hr, hc, hn, _⟩ := own_row h
  refine ⟨p, cap, rfl, hr, hc, ?_, hn⟩
  rcases h.2 with ⟨h0, _⟩ | ⟨g, cap', cur, hv, _, _, _, hm, _⟩
  · injection h0 with _ _ h3; rw [h3]; decide
  · injection hv with _ _ h3; rw [h3]; exact hm

def putC (t : List Node) (path : ByteArray) (v : List Node) : List Node × Int :=
  if (moved path v).all (fun n => okPath n.p) = true then if (putOut t path v).length ≤ 1000 then (putOut t path v, 0) else ([], 32) else ([], 11)
theorem putC_bad {t : List Node} {path : ByteArray} {v : List Node} {k : Nat} {x : Node} (h : v[k]? = some x) (hb : okPath (str (newPath path k x.path)) = false) : putC t path v = ([], 11) := by
  unfold putC
  rw [if_neg]
  rw [List.all_eq_true]
  intro ha
  have := ha _ (List.mem_of_getElem? (moved_get (path := path) h))
  have e : ({ x with path := newPath path k x.path } : Node).p = str (newPath path k x.path) := rfl
  rw [e, hb] at this
  cases this
/-- the paths so far are right -/
def AllTo (path : ByteArray) (v : List Node) (k : Nat) : Prop := ∀ (i : Nat) (x : Node), i < k → v[i]? = some x → okPath (str (newPath path i x.path)) = true
theorem AllTo.succ {path : ByteArray} {v : List Node} {k : Nat} {x : Node} (h : AllTo path v k) (hx : v[k]? = some x) (hk : okPath (str (newPath path k x.path)) = true) : AllTo path v (k + 1) := fun i y hi hy => by
  rcases Nat.lt_or_ge i k with h1 | h1
  · exact h i y h1 hy
  · obtain rfl : i = k := by omega
    rw [hx] at hy; cases hy; exact hk
theorem AllTo.all {path : ByteArray} {v : List Node} (h : AllTo path v v.length) : (moved path v).all (fun n => okPath n.p) = true := by
  rw [List.all_eq_true]
  intro m hm
  obtain ⟨i, hi, rfl⟩ := List.getElem_of_mem hm
  rw [moved_len] at hi
  have h1 := moved_get (path := path) (List.getElem?_eq_getElem hi)
  have h2 := h i _ hi (List.getElem?_eq_getElem hi)
  have h3 : (moved path v)[i]'(by rw [moved_len]; exact hi) = { v[i] with path := newPath path i v[i].path } := by
    have := List.getElem?_eq_getElem (l := moved path v) (i := i) (by rw [moved_len]; exact hi)
    rw [h1] at this; exact (Option.some.inj this).symm
  rw [h3]; exact h2
theorem putC_len {t : List Node} {path : ByteArray} {v : List Node} (h : AllTo path v v.length) : putC t path v = if (putOut t path v).length ≤ 1000 then (putOut t path v, 0) else ([], 32) := by unfold putC; rw [if_pos h.all]
theorem newPath_size (path : ByteArray) (k : Nat) (x : ByteArray) : (newPath path k x).size ≤ path.size + 1 + x.size := by
  unfold newPath
  split
  · omega
  · rw [ByteArray.size_append, ByteArray.size_append]; show path.size + 1 + x.size ≤ _; omega
def PutP (r : List Node × Int) (w : World) (e : Ending) (w' : World) : Prop :=
  ∃ x, e = .returned (.tuple #[x, .int .i64 r.2]) ∧ w'.ownsRow w.heap.size 40 4 x r.1.length (cellsOf r.1) ∧ Off [] w w'
theorem PutP.bad {c : Int} {w : World} {w' : World} (ho : Off [] w w') : PutP ([], c) w (.returned (.tuple #[.slice none 0 0, .int .i64 c])) w' := ⟨_, rfl, ⟨rfl, .inl ⟨rfl, rfl⟩⟩, ho⟩
end Go.Proofs.YtpaeihdkggbeoaaGreatDoor
