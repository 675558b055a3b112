/- Texts of this claim, one behind the other: RMem RDir RTree RWout RChg RSet RSortLaw RBoot RCrash RNorm Slim GlobLit. Conditions: what each lemma states. -/
import Derived.Test.YthciejabapdbgaaGreatDoorKf
import Derived.Deep.RegionHeldLaw
import Derived.Test.YthciejabapdbgaaGreatDoorKj
import Derived.Test.YthciejabapdbgaaGreatDoorKi
import Derived.Test.YthciejabapdbgaaGreatDoorKd
import Derived.Lib.MapLaws
set_option linter.unusedVariables false
set_option linter.unusedSimpArgs false
namespace Go.Proofs.YthciejabapdbgaaGreatDoor
section
open Go.RowKit Go.Op Go.Maps
structure RArg where
  fv : Value
  ev : Value
structure RGeo where
  nv : Value
  sv : Value
  lv : Value
  ls : List Value
  iv : Value
  tv : Value
  fb : List Nat
section
variable {A : RArg} {w w' : World} {p : Nat} {G : RGeo} {E : PDisk} {k : List Nat}
end
theorem own_at {w : World} {base e sz n : Nat} {v : Value} {xs : List Value} (h : w.ownsRow base e sz v n xs) :
    ∃ pl cap, v = .slice pl n cap ∧ n ≤ cap ∧ cap ≤ maxLen ∧ (0 < n → ∃ g, pl = some ⟨g, 0, none⟩ ∧ base ≤ g ∧ g < w.heap.size ∧ (∃ cs, Blk w g e cs) ∧ ∀ (k : Nat) (u : Value), xs[k]? = some u → w.cell? ⟨g, k, none⟩ = some u) := by
  rcases h.2 with ⟨rfl, rfl⟩ | ⟨g, cap, cur, rfl, hb, hh, hc, hm, hs, ht⟩
  · exact ⟨none, 0, rfl, Nat.le_refl _, by decide, fun h => absurd h (by omega)⟩
  refine ⟨_, cap, rfl, hc, hm, fun _ => ⟨g, rfl, hb, (Array.getElem?_eq_some_iff.1 hh).1, ⟨cur, hh⟩, fun k u hu => ?_⟩⟩
  have hB : Blk w g e cur := hh
  rw [hB.cell]; rw [← ht, List.getElem?_take] at hu
  split at hu
  · simpa using hu
  cases hu
end
section
open Go.RowKit Go.Op Go.Maps
variable {A : RArg}
end
section
open Go.RowKit Go.Op Go.Maps
variable {A : RArg}
end
section
open Go.RowKit Go.Op Go.Maps
variable {A : RArg}
end
section
open Go.RowKit Go.Op Go.Maps
variable {A : RArg}
theorem own_set2 {W : World} {base sz e g m cap : Nat} {xs : List Value} (h : W.ownsRow base e sz (.slice (some ⟨g, 0, none⟩) m cap) m xs) (j : Nat) (u : Value) : (W.setCell ⟨g, j, none⟩ u).ownsRow base e sz (.slice (some ⟨g, 0, none⟩) m cap) m (xs.set j u) := by
  refine ⟨by rw [List.length_set]; exact h.1, ?_⟩
  rcases h.2 with ⟨h0, _⟩ | ⟨g', cap', cur, hv, hb, hh, hc, hmx, hs, ht⟩
  · cases h0
  injection hv with h1 h2 h3
  injection h1 with h1
  injection h1 with h1 _
  subst h1; subst h3; refine .inr ⟨g, cap, cur.setIfInBounds j u, rfl, hb, ?_, hc, hmx, by rw [Array.size_setIfInBounds]; exact hs, ?_⟩
  · exact Blk.set_ (w := W) (g := g) (t := e) (cs := cur) hh j u
  rw [Array.toList_setIfInBounds, List.take_set, ht]
theorem own_frozen2 {W : World} {base sz e g m cap : Nat} {xs : List Value} (h : W.ownsRow base e sz (.slice (some ⟨g, 0, none⟩) m cap) m xs) (j : Nat) : W.frozen? ⟨g, j, none⟩ = false := by
  rcases h.2 with ⟨h0, _⟩ | ⟨g', cap', cur, hv, hb, hh, _⟩
  · cases h0
  injection hv with h1 h2 h3
  injection h1 with h1
  injection h1 with h1 _
  subst h1; exact Blk.frozen (w := W) (g := g) (t := e) (cs := cur) hh j
end
section
open Go.RowKit Go.Op Go.Maps
variable {A : RArg}
section
variable {w w' : World} {p : Nat} {G G' : RGeo} {E E' : PDisk}
end
end
section
open Go.RowKit Go.Op Go.Maps
def leN (x y : ByteArray × Nat) : Bool := !decide (order (str y.1) (str x.1) < 0)
theorem leN_trans (a b c : ByteArray × Nat) (h1 : leN a b = true) (h2 : leN b c = true) : leN a c = true := by
  unfold leN at *; simp only [Bool.not_eq_true', decide_eq_false_iff_not] at *
  intro h
  rcases order_range (str a.1) (str b.1) with h3 | h3 | h3
  · exact h2 (order_trans h (by omega))
  · rw [order_eq h3] at h
    exact h2 h
  rw [order_swap] at h1; omega
theorem leN_total (a b : ByteArray × Nat) : (leN a b || leN b a) = true := by
  unfold leN; rw [order_swap (str a.1) (str b.1)]
  rcases order_range (str a.1) (str b.1) with h | h | h <;> rw [h] <;> decide
end
section
open Go.RowKit Go.Op Go.Maps
variable {A : RArg}
end
section
open Go.RowKit Go.Op Go.Maps
variable {A : RArg}
end
section
open Go.RowKit Go.Op Go.Maps
theorem Apart.perm7 {l m : NameL} (ha : Apart l) (h : l.Perm m) : Apart m := (h.pairwise_iff (fun h e => h e.symm)).1 ha
theorem sortN_perm (l : NameL) : (PDisk.sortN l).Perm l := by unfold PDisk.sortN; exact List.mergeSort_perm l _
theorem Apart.sortN {l : NameL} (ha : Apart l) : Apart (PDisk.sortN l) := ha.perm7 (sortN_perm l).symm
section
variable {D : PDisk} {n : Nat}
end
end
section
open Go.RowKit Go.Op Go.Maps
def SlimI (m : Ino) : Prop := rightN m.node = true ∧ (m.dirty = true → m.node.kind = 1)
def Slim (D : PDisk) : Prop := ∀ m ∈ D.inos, SlimI m
theorem rightN_file {n : Node} (h1 : n.kind = 1) (h2 : n.data.size ≤ 65536) (h3 : 0 ≤ n.mode) (h4 : n.mode ≤ 511) : rightN n = true := by
  unfold rightN; rw [if_pos h1]; simp [h2, h3, h4]
theorem rightN_data {n : Node} (h : rightN n = true) : n.data.size ≤ 65536 := by
  unfold rightN at h
  split at h
  · simp only [Bool.and_eq_true, decide_eq_true_eq] at h; omega
  split at h
  · simp only [Bool.and_eq_true, decide_eq_true_eq] at h; omega
  split at h
  · simp only [Bool.and_eq_true, decide_eq_true_eq] at h; omega
  cases h
theorem SlimI.tear {m : Ino} (h : SlimI m) (t : Int) : SlimI (PDisk.tear t m) := by
  unfold PDisk.tear
  split
  · rename_i hd
    have hk := h.2 hd; have hr := h.1; unfold rightN at hr; rw [if_pos hk] at hr; simp only [Bool.and_eq_true, decide_eq_true_eq] at hr; refine ⟨rightN_file hk ?_ hr.2.1 hr.2.2, fun h => by cases h⟩
    show (m.node.data.extract 0 _).size ≤ 65536
    rw [ByteArray.size_extract]; omega
  exact h
theorem Slim.crash {D : PDisk} (h : Slim D) (f : FateP) : Slim (D.crash f) := fun m hm => by
  obtain ⟨x, hx, rfl⟩ := List.mem_map.1 (show m ∈ D.inos.map (PDisk.tear f.torn) from hm); exact (h x hx).tear _
theorem Slim.same {D E : PDisk} (h : Slim D) (e : E.inos = D.inos) : Slim E := fun m hm => h m (by rw [← e]; exact hm)
theorem Slim.step {D : PDisk} (h : Slim D) (c p q : ByteArray) : Slim (D.step c p q).2.2 := by
  unfold PDisk.step
  split
  · exact h
  dsimp only
  split
  · exact h
  split
  · exact Slim.crash (D := { D with clock := D.clock + 1, trace := D.trace ++ [⟨c, p, q⟩] }) h _
  split <;> exact h
theorem Slim.call {D : PDisk} (h : Slim D) (c p q : ByteArray) (k : PDisk → Bool → Int × PDisk) (hk : ∀ E full, Slim E → Slim (k E full).2) : Slim (D.call c p q k).2 := by
  have h1 := h.step c p q; unfold PDisk.call; generalize D.step c p q = st at h1; obtain ⟨full, e, E⟩ := st; dsimp only at h1 ⊢
  split
  · exact h1
  exact hk E full h1
theorem Slim.lay {D : PDisk} (h : Slim D) (p : ByteArray) (n : Node) (full : Bool) (l : List (Bool × Int)) (hn : firstE (l ++ [(full || decide (1000 ≤ D.names.length), 71)]) = 0 → rightN n = true) : Slim (D.lay p n full l).2 := by
  unfold PDisk.lay; dsimp only
  split
  · exact h
  rename_i h0
  intro m hm
  rcases List.mem_append.1 (show m ∈ D.inos ++ [⟨n, D.clock, decide (n.kind = 1)⟩] from hm) with hm | hm
  · exact h m hm
  simp at hm; subst hm; exact ⟨hn (by simpa using h0), fun h => by simpa using h⟩
theorem Slim.set {D : PDisk} (h : Slim D) (i : Nat) (x : Ino) (hx : SlimI x) : Slim { D with inos := D.inos.set i x } := fun m hm => by
  rcases List.mem_or_eq_of_mem_set (show m ∈ D.inos.set i x from hm) with hm | rfl
  · exact h m hm
  exact hx
theorem Slim.at_ {D : PDisk} (h : Slim D) {p : ByteArray} {m : Ino} (hm : D.at_ p = some m) : SlimI m := by
  unfold PDisk.at_ PDisk.inode at hm
  split at hm
  · cases hm
  exact h m (List.mem_of_getElem? hm)
theorem wr_right {data : ByteArray} {mode : Int} {l : List (Bool × Int)} (hz : ∀ x ∈ l, x.2 ≠ 0) (h : firstE l = 0) (hm : ((decide (65536 < data.size) || decide (mode < 0) || decide (511 < mode)), (2 : Int)) ∈ l) : rightN ⟨⟨#[]⟩, 1, data, mode⟩ = true := by
  have h1 := firstE_zero hz h _ hm; simp only [Bool.or_eq_false_iff, decide_eq_false_iff_not] at h1; exact rightN_file rfl (by show data.size ≤ 65536; omega) (by show 0 ≤ mode; omega) (by show mode ≤ 511; omega)
theorem lk_right {q : ByteArray} {l : List (Bool × Int)} (hz : ∀ x ∈ l, x.2 ≠ 0) (h : firstE l = 0) (hm : (linkBad q, (2 : Int)) ∈ l) : rightN ⟨⟨#[]⟩, 3, q, 0⟩ = true := by
  have h1 := firstE_zero hz h _ hm; unfold linkBad at h1; simp only [Bool.or_eq_false_iff, decide_eq_false_iff_not] at h1; have h2 : q.size ≠ 0 := fun e => h1.1.1 (ByteArray.ext (Array.eq_empty_of_size_eq_zero e))
  unfold rightN; rw [if_neg (show ¬ (3 : Int) = 1 by decide), if_neg (show ¬ (3 : Int) = 2 by decide), if_pos rfl]; dsimp only; rw [h1.2]; simp [h2]; omega
theorem Slim.ask {D : PDisk} (h : Slim D) (c : CallP) : Slim (askD D c) := by
  unfold askD
  split
  · refine h.call _ _ _ _ fun E full hE => ?_
    unfold PDisk.write_
    cases hat : E.at_ c.path with
    | none =>
      refine hE.lay _ _ _ _ fun h0 => wr_right ?_ h0 (by simp)
      intro x hx
      simp only [List.mem_append, List.mem_cons, List.not_mem_nil, or_false] at hx
      rcases hx with (rfl | rfl | rfl | rfl) | rfl <;> simp [PDisk.no, PDisk.parentE]
    | some o =>
      dsimp only
      split
      · exact hE
      rename_i h0
      refine Slim.set hE _ (⟨⟨⟨#[]⟩, 1, c.data, c.mode⟩, E.clock, true⟩ : Ino) ⟨wr_right ?_ (by simpa using h0) (by simp), fun _ => rfl⟩
      intro x hx
      simp only [List.mem_cons, List.not_mem_nil, or_false] at hx
      rcases hx with rfl | rfl | rfl | rfl | rfl <;> simp [PDisk.no, PDisk.parentE]
  split
  · exact h.call _ _ _ _ fun E full hE => hE.lay _ _ _ _ (fun _ => by decide)
  split
  · refine h.call _ _ _ _ fun E full hE => hE.lay _ _ _ _ (fun h0 => lk_right ?_ h0 (by simp))
    intro x hx
    simp only [List.mem_append, List.mem_cons, List.not_mem_nil, or_false] at hx
    rcases hx with (rfl | rfl | rfl | rfl) | rfl <;> simp [PDisk.no, PDisk.parentE, PDisk.there]
  split
  · refine h.call _ _ _ _ fun E full hE => ?_
    unfold PDisk.remove_; dsimp only
    split
    · exact hE
    exact hE.same rfl
  split
  · refine h.call _ _ _ _ fun E full hE => ?_
    unfold PDisk.move_; dsimp only
    split
    · exact hE
    split
    · exact hE
    exact hE.same rfl
  split
  · refine h.call _ _ _ _ fun E full hE => ?_
    unfold PDisk.replace_; dsimp only
    split
    · exact hE
    exact hE.same rfl
  split
  · refine h.call _ _ _ _ fun E full hE => ?_
    unfold PDisk.sync_; dsimp only
    split
    · exact hE
    split
    · exact hE
    rename_i m hm
    have := hE.at_ hm; exact hE.set _ _ ⟨this.1, fun h => by cases h⟩
  split
  · exact h.call _ _ _ _ fun E full hE => hE.same rfl
  split
  · have h1 := h.step ⟨#[71, 101, 116]⟩ c.path ⟨#[]⟩
    unfold PDisk.get; generalize D.step ⟨#[71, 101, 116]⟩ c.path ⟨#[]⟩ = st at h1; obtain ⟨full, e, E⟩ := st; dsimp only at h1 ⊢
    split <;> exact h1
  split
  · have h1 := h.step ⟨#[78, 97, 109, 101, 115]⟩ c.path ⟨#[]⟩
    unfold PDisk.namesC; generalize D.step ⟨#[78, 97, 109, 101, 115]⟩ c.path ⟨#[]⟩ = st at h1; obtain ⟨full, e, E⟩ := st; dsimp only at h1 ⊢
    split <;> exact h1
  split
  · exact h.same rfl
  exact h
theorem Slim.edit {D : PDisk} (h : Slim D) (e : EditP) : Slim (D.edit e) := by
  rcases putR_cases D.tree e.path e.value with ⟨h0, -⟩ | ⟨h0, hw⟩
  · have : D.edit e = D := by unfold PDisk.edit; rw [if_pos h0]
    rw [this]; exact h
  generalize hX : (putR D.tree e.path e.value).1 = X at hw
  have hE : (D.edit e).inos = (D.editN e.path X).inos := by
    unfold PDisk.edit; rw [if_neg (by rw [h0]; decide), hX]
  intro m hm
  rw [hE, (edit_closed hw).2] at hm
  rcases List.mem_append.1 hm with hm | hm
  · exact h m hm
  obtain ⟨x, hx, rfl⟩ := List.mem_map.1 hm; exact ⟨okTree_right hw.okx (List.mem_filter.1 hx).1, fun h => by cases h⟩
theorem Slim.edits (t : Int) : ∀ (es : List EditP) (D : PDisk), Slim D → Slim (es.foldl (fun E e => if e.at_ = t then E.edit e else E) D)
  | [], D, h => h
  | e :: es, D, h => by
    rw [List.foldl_cons]
    by_cases he : e.at_ = t
    · rw [if_pos he]; exact Slim.edits t es _ (h.edit e)
    rw [if_neg he]; exact Slim.edits t es _ h
theorem Slim.editTo {D : PDisk} (h : Slim D) (i : Nat) : Slim (D.editTo i) := Slim.edits _ _ _ h
theorem Slim.edited {D : PDisk} (h : Slim D) : Slim D.edited := by
  cases ho : D.off
  · rw [edited_eq ho]; exact h.editTo _
  rw [edited_off ho]; exact h
theorem Slim.new {t : List Node} (h : okTree t = true) : Slim (newD t) := fun m hm => by
  obtain ⟨x, hx, rfl⟩ := List.mem_map.1 (show m ∈ t.map fun n => (⟨n, 0, false⟩ : Ino) from hm); exact ⟨okTree_right h hx, fun h => by cases h⟩
theorem slim_askE {D : PDisk} (h : Slim D) (c : CallP) : Slim (askE D c).2 := by
  rcases askE_eq D c with e | e | e <;> rw [e]
  · exact h.edited.ask c
  · exact h.same rfl
  exact h
theorem parent_split7 {p : Str} (h : okPath p = true) (hp : parent p ≠ []) : parent p ++ 47 :: base p = p := by
  have hd : (parts p).dropLast ≠ [] := fun e => by rw [parent_eq h, e] at hp; exact hp rfl
  rw [parent_eq h, ← joinP_snoc (base p) hd, ← parts_split h, joinP_parts]
theorem parent_ok {p : Str} (h : okPath p = true) (hp : parent p ≠ []) : okPath (parent p) = true := by
  have e := parent_split7 h hp; have h' := h; unfold okPath at h' ⊢; simp only [Bool.and_eq_true, decide_eq_true_eq] at h' ⊢; obtain ⟨⟨h1, h2⟩, h3⟩ := h'; have hl := congrArg List.length e; have hc := congrArg (List.count 47) e; rw [List.length_append] at hl; rw [List.count_append] at hc; refine ⟨⟨by omega, by omega⟩, ?_⟩; rw [parent_parts h hp]; rw [List.all_eq_true] at h3 ⊢
  exact fun x hx => h3 x (List.dropLast_subset _ hx)
theorem within_parent {p : Str} (h : okPath p = true) (hp : parent p ≠ []) : within p (parent p) = true := by
  unfold within; rw [h, decide_eq_false hp, parent_ok h hp, parent_parts h hp]; simp only [Bool.true_and, Bool.false_or, List.isPrefixOf_iff_prefix]; exact List.dropLast_prefix _
theorem parent_ne {p : Str} (h : okPath p = true) (hp : parent p ≠ []) : parent p ≠ p := fun e => by
  have := congrArg List.length (parent_split7 h hp); rw [List.length_append, e] at this; simp at this
theorem Fine.sorted {D : PDisk} {n : Nat} (h : Fine D n) : Sorted D.tree := by
  rw [h.ok.tree h.good.names]; unfold Sorted; rw [List.pairwise_map]; have hp := List.pairwise_mergeSort leN_trans leN_total D.names; have ha := h.good.names.sortN; refine (List.pairwise_and_iff.2 ⟨hp, ha⟩).imp fun {x y} hxy => ?_
  obtain ⟨h1, h2⟩ := hxy; have e1 : (nodeOf D x).p = str x.1 := by unfold nodeOf; split <;> rfl
  have e2 : (nodeOf D y).p = str y.1 := by unfold nodeOf; split <;> rfl
  rw [e1, e2]; unfold leN at h1; simp only [Bool.not_eq_true', decide_eq_false_iff_not] at h1; have h3 := order_swap (str x.1) (str y.1)
  rcases order_tri (str x.1) (str y.1) with h4 | h4 | h4
  · exact h4
  · exact absurd (str_inj h4) h2
  exact absurd h4 h1
theorem tree_ok {D : PDisk} {n : Nat} (h : Fine D n) (hs : Slim D) : okTree D.tree = true := by
  refine tree_of ?_ h.sorted fun y hy => ?_
  · rw [h.ok.tree h.good.names, List.length_map, sortN_len]
    exact h.ok.nlen
  obtain ⟨x, hx, m, hm, rfl⟩ := node_tree h.ok h.good.names hy; obtain ⟨hk, hup⟩ := h.good.tree.names x hx; have hin : m ∈ D.inos := by
    unfold PDisk.inode at hm
    split at hm
    · cases hm
    exact List.mem_of_getElem? hm
  refine ⟨hk, (hs m hin).1, isDir_iff.2 ?_⟩
  show parent (str x.1) = [] ∨ _
  by_cases hp : parent (str x.1) = []
  · exact .inl hp
  right
  obtain ⟨q, hq⟩ : ∃ q : ByteArray, str q = parent (str x.1) := ⟨bs (parent (str x.1)), str_bs _⟩
  obtain ⟨m2, hm2, hk2⟩ := hup q (by rw [hq]; exact parent_ok hk hp) (by rw [hq]; exact within_parent hk hp) (fun e => parent_ne hk hp (by rw [← hq, ← e])); have hh : hasN D.names q = true := by
    cases hh : hasN D.names q
    · rw [lookN_of_not hh] at hm2
      unfold PDisk.inode at hm2
      cases hm2
    rfl
  obtain ⟨z, hz, rfl⟩ := (hasN_iff _ _).1 hh; rw [lookN_mem h.good.names hz] at hm2; obtain ⟨m3, hm3, hin3⟩ := tree_node h.ok h.good.names hz; rw [hm2] at hm3; injection hm3 with hm3
  subst hm3; exact ⟨_, hin3, hq, hk2⟩
end
section
open Go.Lib (decodeL validD decodeN)
theorem valid_parts {p : Str} (h : okPath p = true) : ∀ x ∈ parts p, validD x = true ∧ x ≠ [] := by
  intro x hx
  have := ok_parts h x hx; unfold okName at this; simp only [Bool.and_eq_true, decide_eq_true_eq] at this; exact ⟨this.1.2, this.1.1.1.1.1⟩
theorem ups_mem : ∀ (n : Nat) (p q : Str), okPath p = true → (parts p).length ≤ n → (q ∈ upsF n p ↔ q ≠ [] ∧ parts q <+: parts p)
  | 0, p, q, _, h => by
    exfalso
    have := List.length_pos_iff.2 (parts_ne p); omega
  | n + 1, p, q, hp, hl => by
    have hpe : p ≠ [] := fun e => by subst e; revert hp; decide
    unfold upsF; rw [if_neg hpe, List.mem_cons]
    by_cases hpp : parent p = []
    · have hd : (parts p).dropLast = [] := by
        cases hdr : (parts p).dropLast with
        | nil => rfl
        | cons y l =>
          exfalso
          have e : parent p = joinP (parts p).dropLast := by unfold parent; rw [if_pos hp]
          rw [hdr] at e; have hy := (valid_parts hp y (List.dropLast_subset _ (by rw [hdr]; exact List.mem_cons_self ..))).2; rw [e] at hpp
          cases l with
          | nil => exact hy hpp
          | cons z l => rw [joinP_cons _ (by simp)] at hpp; simp at hpp
      have h1 : ∃ a, parts p = [a] := by
        cases hx : parts p with
        | nil => exact absurd hx (parts_ne p)
        | cons a l =>
          rw [hx] at hd
          cases l with
          | nil => exact ⟨a, rfl⟩
          | cons b l => simp at hd
      obtain ⟨a, ha⟩ := h1; have hu : upsF n (parent p) = [] := by
        rw [hpp]
        cases n with
        | zero => rfl
        | succ n => unfold upsF; rw [if_pos rfl]
      rw [hu]; simp only [List.not_mem_nil, or_false]
      constructor
      · rintro rfl; exact ⟨hpe, List.prefix_refl _⟩
      rintro ⟨hq, hpre⟩; rw [ha] at hpre; have h3 := hpre.length_le; have h4 := List.length_pos_iff.2 (parts_ne q); have h5 := hpre.eq_of_length (by simp at h3 ⊢; omega); rw [← ha] at h5; exact parts_inj h5
    have hpo := parent_ok hp hpp; have h2 := parent_parts hp hpp; rw [ups_mem n (parent p) q hpo (by rw [h2, List.length_dropLast]; omega), h2]
    constructor
    · rintro (rfl | ⟨h3, h4⟩)
      · exact ⟨hpe, List.prefix_refl _⟩
      exact ⟨h3, h4.trans (List.dropLast_prefix _)⟩
    rintro ⟨h3, h4⟩
    by_cases he : q = p
    · exact .inl he
    right
    refine ⟨h3, ?_⟩
    obtain ⟨t, ht⟩ := h4; have hte : t ≠ [] := fun e => by
      subst e; rw [List.append_nil] at ht; exact he (parts_inj ht)
    rw [← ht, List.dropLast_append_of_ne_nil hte]; exact List.prefix_append _ _
theorem ok_depth {p : Str} (h : okPath p = true) : (parts p).length ≤ 16 := by
  unfold okPath at h; simp only [Bool.and_eq_true, decide_eq_true_eq] at h; rw [parts_length]; omega
end
end Go.Proofs.YthciejabapdbgaaGreatDoor
