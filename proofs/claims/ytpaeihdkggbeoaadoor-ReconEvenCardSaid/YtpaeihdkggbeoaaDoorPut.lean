/- tree.Put and its change's put: the walks. Conditions: what each contract states. -/
import Derived.Test.YtpaeihdkggbeoaaDoorWith
import Derived.Test.YtpaeihdkggbeoaaDoorRight
import Derived.Test.YtpaeihdkggbeoaaDoorConcatT
import Derived.StillTailTactics
namespace Go.Proofs.YtpaeihdkggbeoaaDoor
open Go.RowKit Go.Op

/-! ### rows of the call's own that are written -/
theorem own_set {W : World} {base e g m cap : Nat} {xs : List Value} (h : W.ownsRow base e 4 (.slice (some ⟨g, 0, none⟩) m cap) m xs) (_ : 0 < m) (j : Nat) (u : Value) : (W.setCell ⟨g, j, none⟩ u).ownsRow base e 4 (.slice (some ⟨g, 0, none⟩) m cap) m (xs.set j u) := by
  refine ⟨by rw [List.length_set]; exact h.1, ?_⟩
  rcases h.2 with ⟨h0, _⟩ | ⟨g', cap', cur, hv, hb, hh, hc, hmx, hs, ht⟩
  · cases h0
  · injection hv with h1 h2 h3
    injection h1 with h1
    injection h1 with h1 _
    subst h1; subst h3
    refine .inr ⟨g, cap, cur.setIfInBounds j u, rfl, hb, ?_, hc, hmx, by rw [Array.size_setIfInBounds]; exact hs, ?_⟩
    · have := Blk.set_ (w := W) (g := g) (t := e) (cs := cur) hh j u
      exact this
    · rw [Array.toList_setIfInBounds, List.take_set, ht]
theorem own_cell {W : World} {base e g m cap : Nat} {xs : List Value} (h : W.ownsRow base e 4 (.slice (some ⟨g, 0, none⟩) m cap) m xs) {j : Nat} {u : Value} (hj : xs[j]? = some u) : W.cell? ⟨g, j, none⟩ = some u := by
  have := h.cells (g := g) rfl j u hj
  rwa [addr_add] at this
theorem own_frozen {W : World} {base e g m cap : Nat} {xs : List Value} (h : W.ownsRow base e 4 (.slice (some ⟨g, 0, none⟩) m cap) m xs) (j : Nat) : W.frozen? ⟨g, j, none⟩ = false := by
  rcases h.2 with ⟨h0, _⟩ | ⟨g', cap', cur, hv, hb, hh, _⟩
  · cases h0
  · injection hv with h1 h2 h3
    injection h1 with h1
    injection h1 with h1 _
    subst h1
    exact Blk.frozen (w := W) (t := e) (cs := cur) hh j
theorem own_lt {W : World} {base e g m cap : Nat} {xs : List Value} (h : W.ownsRow base e 4 (.slice (some ⟨g, 0, none⟩) m cap) m xs) : base ≤ g ∧ g < W.heap.size := h.lt g rfl
theorem own_some {W : World} {base e m : Nat} {v : Value} {xs : List Value} (h : W.ownsRow base e 4 v m xs) (hm : 0 < m) : ∃ g cap, v = .slice (some ⟨g, 0, none⟩) m cap ∧ m ≤ cap := by
  rcases h.2 with ⟨_, h0⟩ | ⟨g, cap, cur, hv, _, _, hc, _⟩
  · omega
  · exact ⟨g, cap, hv, hc⟩
theorem own_keep {W W' : World} {base e n : Nat} {v : Value} {xs : List Value} (h : W.ownsRow base e 4 v n xs) (ho : Off [] W W') : W'.ownsRow base e 4 v n xs := by
  refine ⟨h.1, ?_⟩
  rcases h.2 with h | ⟨g, cap, cur, hv, hb, hh, hr⟩
  · exact .inl h
  · exact .inr ⟨g, cap, cur, hv, hb, (ho.block g (Array.getElem?_eq_some_iff.1 hh).1 (by simp)).trans hh, hr⟩
theorem cellsOf_set : ∀ (L : List Node) (k : Nat) (x : Node) (s : ByteArray), L[k]? = some x → (cellsOf L).set (k * 4) (.string s) = cellsOf (L.set k { x with path := s })
  | [], k, x, s, h => by simp at h
  | y :: L, 0, x, s, h => by cases h; simp [cellsOf]
  | y :: L, k + 1, x, s, h => by
    have ih := cellsOf_set L k x s (by simpa using h)
    have e : ∀ (z : Node) (L : List Node), cellsOf (z :: L) = .string z.path :: .int .i64 z.kind :: .string z.data :: .int .i64 z.mode :: cellsOf L := fun z L => by simp [cellsOf]
    rw [List.set_cons_succ, e, e, ← ih, show (k + 1) * 4 = k * 4 + 1 + 1 + 1 + 1 by omega]
    simp only [List.set_cons_succ]
theorem cellsOf_at : ∀ (L : List Node) (k : Nat) (x : Node), L[k]? = some x → (cellsOf L)[k * 4]? = some (.string x.path)
  | [], k, x, h => by simp at h
  | y :: L, 0, x, h => by cases h; simp [cellsOf]
  | y :: L, k + 1, x, h => by
    have ih := cellsOf_at L k x (by simpa using h)
    have e : cellsOf (y :: L) = .string y.path :: .int .i64 y.kind :: .string y.data :: .int .i64 y.mode :: cellsOf L := by simp [cellsOf]
    rw [e, show (k + 1) * 4 = k * 4 + 1 + 1 + 1 + 1 by omega]
    simpa using ih
/-- as far as the paths are written -/
def movTo (path : ByteArray) (v : List Node) (k : Nat) : List Node := v.mapIdx fun i n => if i < k then { n with path := newPath path i n.path } else n
theorem movTo_zero (path : ByteArray) (v : List Node) : movTo path v 0 = v := by
  unfold movTo
  apply List.ext_getElem?
  intro i
  rw [List.getElem?_mapIdx]
  cases v[i]? <;> simp
theorem movTo_get {path : ByteArray} {v : List Node} {k i : Nat} {x : Node} (h : v[i]? = some x) : (movTo path v k)[i]? = some (if i < k then { x with path := newPath path i x.path } else x) := by
  unfold movTo; rw [List.getElem?_mapIdx, h]; rfl
theorem movTo_succ {path : ByteArray} {v : List Node} {k : Nat} {x : Node} (h : v[k]? = some x) : movTo path v (k + 1) = (movTo path v k).set k { x with path := newPath path k x.path } := by
  apply List.ext_getElem?
  intro i
  rw [List.getElem?_set]
  unfold movTo
  rw [List.getElem?_mapIdx, List.getElem?_mapIdx, List.length_mapIdx]
  have hk := (List.getElem?_eq_some_iff.1 h).1
  by_cases hik : k = i
  · subst hik
    rw [h]; simp [hk]
  · rw [if_neg hik]
    cases v[i]? with
    | none => rfl
    | some y =>
      have : (i < k + 1) = (i < k) := by apply propext; omega
      simp [this]
theorem movTo_all (path : ByteArray) (v : List Node) : movTo path v v.length = moved path v := by
  apply List.ext_getElem?
  intro i
  unfold movTo moved
  rw [List.getElem?_mapIdx, List.getElem?_mapIdx]
  cases h : v[i]? with
  | none => rfl
  | some y => simp [(List.getElem?_eq_some_iff.1 h).1]
theorem movTo_len (path : ByteArray) (v : List Node) (k : Nat) : (movTo path v k).length = v.length := by unfold movTo; simp
theorem set_twice (L : List Node) (k : Nat) (x : Node) (s s' : ByteArray) : (L.set k { x with path := s }).set k { x with path := s' } = L.set k { x with path := s' } := by rw [List.set_set]
theorem okVal_small {v : List Node} (h : okVal v = true) {n : Node} (hn : n ∈ v) : n.path.size ≤ 400 := by
  cases v with
  | nil => cases hn
  | cons x r =>
    obtain ⟨_, h2, _, h4⟩ := okVal_cons h
    rcases List.mem_cons.1 hn with rfl | hn
    · rw [← str_size]; show n.p.length ≤ 400; rw [h2]; simp
    · rcases h4 with rfl | ⟨_, h4⟩
      · cases hn
      · exact okTree_small h4 hn
/-- three lists of nodes, side by side -/
theorem pts3 {W : World} {g : Nat} {e : TypeId} {v1 v2 v3 : Value} {t1 t2 t3 : List Node} (hb : Blk W g e #[v1, v2, v3]) (h1 : Sl W v1 t1) (h2 : Sl W v2 t2) (h3 : Sl W v3 t3) : ∃ L : List Pt, L.length = 3 ∧ PtsAt W g L ∧ nodesIn L = t1 ++ (t2 ++ t3) := by
  obtain ⟨p1, c1, rfl, r1, _, _, n1⟩ := h1
  obtain ⟨p2, c2, rfl, r2, _, _, n2⟩ := h2
  obtain ⟨p3, c3, rfl, r3, _, _, n3⟩ := h3
  refine ⟨[(p1, t1, c1), (p2, t2, c2), (p3, t3, c3)], rfl, ⟨hb.lt, fun i x hi => ?_⟩, by simp [nodesIn]⟩
  have hc := hb.cell i
  match i, hi with
  | 0, hi => cases hi; exact ⟨hc, r1, n1⟩
  | 1, hi => cases hi; exact ⟨hc, r2, n2⟩
  | 2, hi => cases hi; exact ⟨hc, r3, n3⟩
  | i + 3, hi => simp at hi
theorem Row.drop {w : World} {a : Addr} {t : List Node} (h : Row w (some a) t) (j : Nat) : Row w (some (a.add (j * 4))) (t.drop j) := fun hne => by
  obtain ⟨a', ha, hb, hn⟩ := h (fun e => by subst e; simp at hne)
  cases ha
  refine ⟨_, rfl, by rw [add_block]; exact hb, fun i n hi => ?_⟩
  rw [List.getElem?_drop] at hi
  have := hn (j + i) n hi
  rw [Go.Deep.add_add, ← Nat.add_mul]
  exact this
theorem Sl.dropV {w : World} {a : Addr} {t : List Node} {n c j : Nat} (h : Row w (some a) t) (hl : t.length = n) (hj : j ≤ n) (hc : n ≤ c) (hm : c ≤ maxLen) : Sl w (.slice (if c = j then some a else some (a.add (j * 4))) (n - j) (c - j)) (t.drop j) := by
  by_cases h1 : c = j
  · have h0 : t.drop j = [] := List.drop_eq_nil_of_le (by omega)
    rw [if_pos h1, h0]
    exact ⟨some a, c - j, by congr 1; simp; omega, fun h => absurd rfl h, by simp, by omega, fun h => by cases h⟩
  · rw [if_neg h1]
    exact ⟨some (a.add (j * 4)), c - j, by rw [List.length_drop, hl], h.drop j, by rw [List.length_drop, hl]; omega, by omega, fun h => by cases h⟩
theorem Sl.takeV {w : World} {a : Addr} {t : List Node} {n c i : Nat} (h : Row w (some a) t) (hl : t.length = n) (hi : i ≤ n) (hc : n ≤ c) (hm : c ≤ maxLen) : Sl w (.slice (some a) i c) (t.take i) :=
  ⟨some a, c, by rw [List.length_take, hl, Nat.min_eq_left hi], h.take i, by rw [List.length_take]; omega, hm, fun h => by cases h⟩
theorem Sl.none {w : World} : Sl w (.slice none 0 0) [] := ⟨.none, 0, rfl, fun h => absurd rfl h, Nat.le_refl _, by decide, fun _ => ⟨rfl, rfl⟩⟩
theorem Sl.own {W : World} {base : Nat} {v : Value} {t : List Node} (h : W.ownsRow base 29 4 v t.length (cellsOf t)) : Sl W v t := by
  obtain ⟨p, cap, rfl, hr, hc, hn, _⟩ := own_row h
  refine ⟨p, cap, rfl, hr, hc, ?_, hn⟩
  rcases h.2 with ⟨h0, _⟩ | ⟨g, cap', cur, hv, _, _, _, hm, _⟩
  · injection h0 with _ _ h3; rw [h3]; decide
  · injection hv with _ _ h3; rw [h3]; exact hm

/-- Concat of three lists that a new block holds -/
theorem concat3 {w1 : World} {v1 v2 v3 : Value} {t1 t2 t3 : List Node} (h1 : Sl w1 v1 t1) (h2 : Sl w1 v2 t2) (h3 : Sl w1 v3 t3) (hl : (t1 ++ (t2 ++ t3)).length ≤ 1000000) :
    Calls Tryd.prog 64 #[.slice (some ⟨w1.heap.size, 0, none⟩) 3 3] (w1.drew.alloc (.cells #[v1, v2, v3] 57)) fun e w' => ∃ v, e = .returned v ∧ w'.ownsRow w1.heap.size 29 4 v (t1 ++ (t2 ++ t3)).length (cellsOf (t1 ++ (t2 ++ t3))) ∧ Off [] w1 w' := by
  have ho : Off [] w1 (w1.drew.alloc (.cells #[v1, v2, v3] 57)) := ((Off.refl _ w1).drew).alloc _
  obtain ⟨L, hL, hP, hN⟩ := pts3 (Blk.new w1.drew 57 #[v1, v2, v3]) (h1.off ho) (h2.off ho) (h3.off ho)
  have h := concatT_any w1.heap.size 3 L _ hP (by omega) (by rw [hN]; exact hl)
  rw [hL, hN] at h
  exact h.mono fun e w' ⟨v, he, hown, ho2⟩ => ⟨v, he, own_base hown ho.size, ho.trans_nil ho2⟩
def putC (t : List Node) (path : ByteArray) (v : List Node) : List Node × Int :=
  if (moved path v).all (fun n => okPath n.p) = true then if (putOut t path v).length ≤ 1000 then (putOut t path v, 0) else ([], 32) else ([], 11)
theorem putC_bad {t : List Node} {path : ByteArray} {v : List Node} {k : Nat} {x : Node} (h : v[k]? = some x) (hb : okPath (str (newPath path k x.path)) = false) : putC t path v = ([], 11) := by
  unfold putC
  rw [if_neg]
  rw [List.all_eq_true]
  intro ha
  have := ha _ (List.mem_of_getElem? (moved_get (path := path) h))
  have e : ({ x with path := newPath path k x.path } : Node).p = str (newPath path k x.path) := rfl
  rw [e, hb] at this
  cases this
/-- the paths so far are right -/
def AllTo (path : ByteArray) (v : List Node) (k : Nat) : Prop := ∀ (i : Nat) (x : Node), i < k → v[i]? = some x → okPath (str (newPath path i x.path)) = true
theorem AllTo.succ {path : ByteArray} {v : List Node} {k : Nat} {x : Node} (h : AllTo path v k) (hx : v[k]? = some x) (hk : okPath (str (newPath path k x.path)) = true) : AllTo path v (k + 1) := fun i y hi hy => by
  rcases Nat.lt_or_ge i k with h1 | h1
  · exact h i y h1 hy
  · obtain rfl : i = k := by omega
    rw [hx] at hy; cases hy; exact hk
theorem AllTo.all {path : ByteArray} {v : List Node} (h : AllTo path v v.length) : (moved path v).all (fun n => okPath n.p) = true := by
  rw [List.all_eq_true]
  intro m hm
  obtain ⟨i, hi, rfl⟩ := List.getElem_of_mem hm
  rw [moved_len] at hi
  have h1 := moved_get (path := path) (List.getElem?_eq_getElem hi)
  have h2 := h i _ hi (List.getElem?_eq_getElem hi)
  have h3 : (moved path v)[i]'(by rw [moved_len]; exact hi) = { v[i] with path := newPath path i v[i].path } := by
    have := List.getElem?_eq_getElem (l := moved path v) (i := i) (by rw [moved_len]; exact hi)
    rw [h1] at this; exact (Option.some.inj this).symm
  rw [h3]; exact h2
theorem putC_len {t : List Node} {path : ByteArray} {v : List Node} (h : AllTo path v v.length) : putC t path v = if (putOut t path v).length ≤ 1000 then (putOut t path v, 0) else ([], 32) := by unfold putC; rw [if_pos h.all]
theorem newPath_size (path : ByteArray) (k : Nat) (x : ByteArray) : (newPath path k x).size ≤ path.size + 1 + x.size := by
  unfold newPath
  split
  · omega
  · rw [ByteArray.size_append, ByteArray.size_append]; show path.size + 1 + x.size ≤ _; omega
def PutP (r : List Node × Int) (w : World) (e : Ending) (w' : World) : Prop :=
  ∃ x, e = .returned (.tuple #[x, .int .i64 r.2]) ∧ w'.ownsRow w.heap.size 29 4 x r.1.length (cellsOf r.1) ∧ Off [] w w'
theorem PutP.bad {c : Int} {w : World} {w' : World} (ho : Off [] w w') : PutP ([], c) w (.returned (.tuple #[.slice none 0 0, .int .i64 c])) w' := ⟨_, rfl, ⟨rfl, .inl ⟨rfl, rfl⟩⟩, ho⟩
set_option maxRecDepth 100000 in
set_option maxHeartbeats 8000000 in
theorem cput_any (p q : Option Addr) (t v : List Node) (n m c d : Nat) (path : ByteArray) (w : World) (hR : Row w p t) (hV : Row w q v) (hn : t.length = n) (hm : v.length = m) (hc : n ≤ c) (hcm : c ≤ maxLen) (hpn : p = none → t = [] ∧ c = 0) (hqn : q = none → v = []) (hln : n ≤ 1000) (hlm : m ≤ 1000)
    (hok : okTree t = true) (hp : okPath (str path) = true) (hFV : ∀ x ∈ v, x.path.size ≤ 400) (hT : Tabs w) :
    Calls Tryd.prog 40 #[.agg #[.slice p n c, .string path], .slice q m d] w (PutP (putC t path v) w) := by
  have hFT : Fits t := fun x hx => ⟨by have := okTree_small hok hx; unfold maxLen; omega, by
    have h1 := okTree_right hok hx
    unfold rightN at h1
    unfold maxLen
    split at h1
    · simp only [Bool.and_eq_true, decide_eq_true_eq] at h1; omega
    · split at h1
      · simp only [Bool.and_eq_true, decide_eq_true_eq] at h1; omega
      · split at h1
        · simp only [Bool.and_eq_true, decide_eq_true_eq] at h1; omega
        · cases h1⟩
  have hps : path.size ≤ 400 := by rw [← str_size]; exact okPath_size hp
  have HN := Lib.hid hn
  have HM := Lib.hid hm
  have HR := Lib.hid hR
  have HV := Lib.hid hV
  have HFT := Lib.hid hFT
  have HFV := Lib.hid hFV
  have HPN := Lib.hid hpn
  have HQN := Lib.hid hqn
  have HOK := Lib.hid hok
  have HP := Lib.hid hp
  clear hn hm hR hV hFT hFV hpn hqn hok hp
  have HROW0 := Lib.hid (fun (W : World) (ho : Off [] w W) => span_any p t n c path W (HR.out.off ho) HN.out (by omega) (okTree_sorted HOK.out) HFT.out (by unfold maxLen; omega) (hT.off ho))
  go_enter Tryd.func40, Tryd.ntmps40
  go_wp2_with fail
  refine (HROW0.out _ ((Off.refl _ _).alloc _)).mono ?_
  rintro e w1 ⟨i, j, rfl, hsp, ho1⟩
  have hB1 : Blk w1 w.heap.size 64 #[.slice p n c, .string path] := (Blk.new w _ _).off ho1 (by simp)
  have hof1 : Off [] w w1 := ((Off.refl _ _).alloc _).trans_nil ho1
  have hij := hsp.ij
  have hjn : j ≤ n := by rw [← HN.out]; exact hsp.le
  have HSP := Lib.hid hsp
  have HB1 := Lib.hid hB1
  clear ho1 hsp hB1
  go_wp2_with fail
  refine (clone_any q v m d _ (HV.out.off hof1) HM.out (by omega) HQN.out).mono ?_
  rintro e w2 ⟨own, rfl, hown, ho2⟩
  have hown := own_base hown hof1.size
  have hB2 := HB1.out.off ho2 (by simp)
  have hof2 := hof1.trans_nil ho2
  obtain ⟨po, co, rfl⟩ : ∃ po co, own = .slice po m co := by
    rcases hown.2 with ⟨h1, h2⟩ | ⟨g, cap, cur, h1, _⟩
    · exact ⟨none, 0, by rw [h1, h2]⟩
    · exact ⟨_, _, h1⟩
  clear ho2 hof1 HB1
  go_wp2_with fail
  go_loopw [23] (fun x wr => ∃ k : Nat, x = .int .i64 k ∧ k ≤ m ∧ wr.ownsRow w.heap.size 29 4 (.slice po m co) m (cellsOf (movTo path v k)) ∧ Off [] w wr ∧ Blk wr w.heap.size 64 #[.slice p n c, .string path] ∧ Hid (AllTo path v k)) (fun x _ => m - (intOf x).toNat)
  case atStart => exact ⟨0, rfl, by omega, by rw [movTo_zero]; exact hown, hof2, hB2, Lib.hid (fun i x hi _ => by omega)⟩
  case round =>
    clear hown hof2 hB2
    obtain ⟨k, rfl, hk, hown, hof, hB, hall⟩ := hrel
    by_cases hkm : k < m
    · obtain ⟨g, cg, hgv, hcg⟩ := own_some hown (by omega)
      cases hgv
      have hkl : k < v.length := by rw [HM.out]; exact hkm
      obtain ⟨b, rfl, hnb, hbb⟩ := HV.out.get k hkl
      have hxk := List.getElem?_eq_getElem hkl
      have hysz := HFV.out _ (List.getElem_mem hkl)
      generalize v[k] = y at *
      have HXK := Lib.hid hxk
      have hmk := movTo_get (path := path) (k := k) hxk
      rw [if_neg (by omega)] at hmk
      have HMK := Lib.hid hmk
      have HNB := Lib.hid (fun (W : World) (ho : Off [] w W) => hnb.off ho (by rw [add_block]; exact hbb))
      have HOWN := Lib.hid hown
      have c0 := own_cell hown (cellsOf_at _ _ _ hmk)
      have f0 := own_frozen hown (k * 4)
      have hg0 := own_lt hown
      have hgne : ¬ g = w.heap.size := fun e => by
        rcases hown.2 with ⟨h0, _⟩ | ⟨g', cap', cur, hv, hb, hh, _⟩
        · cases h0
        · injection hv with h1 h2 h3
          injection h1 with h1
          injection h1 with h1 _
          subst h1
          rw [e] at hh
          exact (Blk.ne_ (w := wr) (g := w.heap.size) (g' := w.heap.size) hh hB (by decide)) rfl
      have hgne' : ¬ w.heap.size = g := fun e => hgne e.symm
      have hcB := hB.cell
      have hlB := hB.lt
      have HBB := Lib.hid hB
      clear hown hB hnb hxk hmk
      have HNX := Lib.hid (show ∀ s, s = newPath path k y.path → (cellsOf (movTo path v k)).set (k * 4) (.string s) = cellsOf (movTo path v (k + 1)) from fun s hs => by
        rw [cellsOf_set _ _ _ _ HMK.out, movTo_succ HXK.out, hs])
      by_cases hk0 : k = 0
      · subst hk0
        have HS0 := Lib.hid (own_set HOWN.out (by omega) (0 * 4) (.string path))
        have HO0 := Lib.hid (hof.setCell (p := ⟨g, 0 * 4, none⟩) (.inl hg0.1) (.string path))
        have HB0 := Lib.hid (HBB.out.far (p := ⟨g, 0 * 4, none⟩) hgne' (.string path))
        go_wp2_with fail
        refine (path_v path _ (hT.off HO0.out) true HP.out).mono ?_
        rintro e w5 ⟨rfl, ho5⟩
        have hown5 := own_keep HS0.out ho5
        have hB5 := HB0.out.off ho5 (by simp)
        have hof5 := HO0.out.trans_nil ho5
        clear ho5 hof hcB hlB
        go_wp2_with fail
        refine ⟨⟨0 + 1, rfl, by omega, ?_, hof5, hB5, Lib.hid (hall.out.succ HXK.out HP.out)⟩, by simp only [intOf]; omega⟩
        rw [HNX.out path rfl] at hown5
        exact hown5
      · have hkp : 0 < k := by omega
        have hkm4 : k * 4 < m * 4 := by omega
        have HS0 := Lib.hid (own_set HOWN.out (by omega) (k * 4) (.string path))
        have HO0 := Lib.hid (hof.setCell (p := ⟨g, k * 4, none⟩) (.inl hg0.1) (.string path))
        have HB0 := Lib.hid (HBB.out.far (p := ⟨g, k * 4, none⟩) hgne' (.string path))
        have HLEN := Lib.hid HOWN.out.1
        have hnp : newPath path k y.path = path ++ ((⟨#[47]⟩ : ByteArray) ++ y.path) := by unfold newPath; rw [if_neg hk0, ByteArray.append_assoc]
        have HNP := Lib.hid hnp
        clear hnp
        go_wp2_with fail
        refine code_gen (fun W => Off [] w W ∧ W.ownsRow w.heap.size 29 4 (.slice (some ⟨g, 0, none⟩) m co) m ((cellsOf (movTo path v k)).set (k * 4) (.string path)) ∧ Blk W w.heap.size 64 #[.slice p n c, .string path]) ⟨HO0.out, HS0.out, HB0.out⟩ ?_
        rintro W ⟨hoW, hownW, hBW⟩
        clear hof hcB hlB c0 f0
        have c1 := own_cell hownW (j := k * 4) (u := .string path) (by rw [List.getElem?_set_self (by rw [HLEN.out]; exact hkm4)])
        have f1 := own_frozen hownW (k * 4)
        have cv := (HNB.out W hoW).path
        have a1 : ∀ wx : World, (Op.stringOp .add ⟨#[47]⟩ y.path).run Tryd.prog wx = .ok (.string (⟨#[47]⟩ ++ y.path)) wx := fun wx => run_string_add_sum wx _ _ (by show 1 + y.path.size ≤ _; omega)
        have a2 : ∀ wx : World, (Op.stringOp .add path (⟨#[47]⟩ ++ y.path)).run Tryd.prog wx = .ok (.string (path ++ (⟨#[47]⟩ ++ y.path))) wx := fun wx => run_string_add_sum wx _ _ (by rw [ByteArray.size_append]; show path.size + (1 + y.path.size) ≤ _; omega)
        have HS1 := Lib.hid (own_set hownW (by omega) (k * 4) (.string (path ++ ((⟨#[47]⟩ : ByteArray) ++ y.path))))
        have HO1 := Lib.hid (hoW.setCell (p := ⟨g, k * 4, none⟩) (.inl hg0.1) (.string (path ++ ((⟨#[47]⟩ : ByteArray) ++ y.path))))
        have HB1 := Lib.hid (hBW.far (p := ⟨g, k * 4, none⟩) hgne' (.string (path ++ ((⟨#[47]⟩ : ByteArray) ++ y.path))))
        clear hownW hBW hoW
        go_region
        cases hpk : okPath (str (newPath path k y.path))
        · have HPB := Lib.hid (putC_bad (t := t) HXK.out hpk)
          have HPK := Lib.hid (show okPath (str (path ++ ((⟨#[47]⟩ : ByteArray) ++ y.path))) = false by rw [← HNP.out]; exact hpk)
          clear hpk
          go_wp2_with fail
          refine (path_v (path ++ ((⟨#[47]⟩ : ByteArray) ++ y.path)) _ (hT.off HO1.out.drew) false HPK.out).mono ?_
          rintro e w5 ⟨rfl, ho5⟩
          have hof5 := HO1.out.drew.trans_nil ho5
          clear ho5
          go_wp2_with fail
          go_ret2
          rw [HPB.out]; exact PutP.bad hof5
        · have HPK := Lib.hid (show okPath (str (path ++ ((⟨#[47]⟩ : ByteArray) ++ y.path))) = true by rw [← HNP.out]; exact hpk)
          have HAL := Lib.hid (hall.out.succ HXK.out hpk)
          clear hpk
          go_wp2_with fail
          refine (path_v (path ++ ((⟨#[47]⟩ : ByteArray) ++ y.path)) _ (hT.off HO1.out.drew) true HPK.out).mono ?_
          rintro e w5 ⟨rfl, ho5⟩
          have hown5 := own_keep (W := (W.setCell ⟨g, k * 4, none⟩ (.string (path ++ ((⟨#[47]⟩ : ByteArray) ++ y.path)))).drew) HS1.out ho5
          have hB5 := HB1.out.drew.off ho5 (by simp)
          have hof5 := HO1.out.drew.trans_nil ho5
          clear ho5 c1 f1 cv
          go_wp2_with fail
          refine ⟨⟨k + 1, by congr 1, by omega, ?_, hof5, hB5, HAL⟩, by simp only [intOf]; omega⟩
          rw [List.set_set, HNX.out _ HNP.out.symm] at hown5
          exact hown5
    · obtain rfl : k = m := by omega
      have hmv : movTo path v k = moved path v := by have := movTo_all path v; rw [HM.out] at this; exact this
      rw [hmv] at hown
      have HPC := Lib.hid (putC_len (t := t) (path := path) (v := v) (by rw [HM.out]; exact hall.out))
      have HS2 := Lib.hid (show Sl wr (.slice po k co) (moved path v) from Sl.own (base := w.heap.size) (by rw [moved_len, HM.out]; exact hown))
      have HOUT := Lib.hid (show t.take i ++ (moved path v ++ t.drop j) = putOut t path v by rw [HSP.out.lower, HSP.out.upper HOK.out HP.out]; unfold putOut; rw [List.append_assoc])
      have hlen : (putOut t path v).length ≤ 1000000 := by
        rw [← HOUT.out, List.length_append, List.length_append, moved_len, List.length_take, List.length_drop, HN.out, HM.out]; omega
      clear hmv hown
      cases p with
      | none =>
        obtain ⟨ht0, rfl⟩ := HPN.out rfl
        subst ht0
        obtain rfl : 0 = n := HN.out
        obtain rfl : 0 = j := by omega
        obtain rfl : 0 = i := by omega
        have HOUT := Lib.hid (show ([] : List Node) ++ (moved path v ++ []) = putOut [] path v from HOUT.out)
        have hcB := hB.cell
        have hlB := hB.lt
        go_wp2_with fail
        go_still_tail 9, (by kernel_rfl)
        change wpList _ _ _ _ _ wr.drew
        go_wp2_with fail
        refine (concat3 (w1 := wr) (t1 := []) (t2 := moved path v) (t3 := []) Sl.none HS2.out Sl.none (by rw [HOUT.out]; exact hlen)).mono ?_
        rintro e w6 ⟨x, rfl, hownx, hof6⟩
        have hownx := own_base hownx hof.size
        have hof6 := hof.trans_nil hof6
        rw [HOUT.out] at hownx
        have HOX := Lib.hid hownx
        obtain ⟨px, cx, rfl, -, hcx, -, -⟩ := own_row hownx
        clear hownx hcB hlB
        by_cases hbig : (putOut [] path v).length ≤ 1000
        · go_wp2_with fail
          go_ret2
          rw [HPC.out, if_pos hbig]
          exact ⟨_, rfl, HOX.out, hof6⟩
        · go_wp2_with fail
          go_ret2
          rw [HPC.out, if_neg hbig]
          exact PutP.bad hof6
      | some a =>
        have HRA := Lib.hid (HR.out.off hof)
        have hcB := hB.cell
        have hlB := hB.lt
        by_cases hcj : c = j
        · subst hcj
          go_wp2_with fail
          go_still_tail 9, (by kernel_rfl)
          change wpList _ _ _ _ _ wr.drew
          go_wp2_with fail
          refine (concat3 (w1 := wr) (t1 := t.take i) (t2 := moved path v) (t3 := t.drop c) (Sl.takeV HRA.out HN.out (by omega) hc hcm) HS2.out (by have := Sl.dropV HRA.out HN.out hjn hc hcm; rw [if_pos rfl, show n - c = 0 by omega, Nat.sub_self] at this; exact this) (by rw [HOUT.out]; exact hlen)).mono ?_
          rintro e w6 ⟨x, rfl, hownx, hof6⟩
          have hownx := own_base hownx hof.size
          have hof6 := hof.trans_nil hof6
          rw [HOUT.out] at hownx
          have HOX := Lib.hid hownx
          obtain ⟨px, cx, rfl, -, hcx, -, -⟩ := own_row hownx
          clear hownx hcB hlB
          by_cases hbig : (putOut t path v).length ≤ 1000
          · go_wp2_with fail
            go_ret2
            rw [HPC.out, if_pos hbig]
            exact ⟨_, rfl, HOX.out, hof6⟩
          · go_wp2_with fail
            go_ret2
            rw [HPC.out, if_neg hbig]
            exact PutP.bad hof6
        · have hcj' : ¬ (c : Int) = j := by omega
          have hic : i ≤ c := by omega
          have hici : (i : Int) ≤ c := by omega
          have hjni : (j : Int) ≤ n := by omega
          go_wp2_with fail
          go_still_tail 9, (by kernel_rfl)
          change wpList _ _ _ _ _ wr.drew
          go_wp2_with fail
          refine (concat3 (w1 := wr) (t1 := t.take i) (t2 := moved path v) (t3 := t.drop j) (Sl.takeV HRA.out HN.out (by omega) hc hcm) HS2.out (by have := Sl.dropV HRA.out HN.out hjn hc hcm; rw [if_neg hcj] at this; exact this) (by rw [HOUT.out]; exact hlen)).mono ?_
          rintro e w6 ⟨x, rfl, hownx, hof6⟩
          have hownx := own_base hownx hof.size
          have hof6 := hof.trans_nil hof6
          rw [HOUT.out] at hownx
          have HOX := Lib.hid hownx
          obtain ⟨px, cx, rfl, -, hcx, -, -⟩ := own_row hownx
          clear hownx hcB hlB
          by_cases hbig : (putOut t path v).length ≤ 1000
          · go_wp2_with fail
            go_ret2
            rw [HPC.out, if_pos hbig]
            exact ⟨_, rfl, HOX.out, hof6⟩
          · go_wp2_with fail
            go_ret2
            rw [HPC.out, if_neg hbig]
            exact PutP.bad hof6
end Go.Proofs.YtpaeihdkggbeoaaDoor
