/- Texts of this claim, one behind the other: Good GoodNew EditLaw RMem RDir RTree RWout RChg RSet RSortLaw RBoot RCrash. Conditions: what each lemma states. -/
import Derived.Test.YtgcfkljooabjjaaGreatDoorHi
import Derived.Test.YtgcfkljooabjjaaGreatDoorHf
import Derived.Deep.RegionHeldLaw
namespace Go.Proofs.YtgcfkljooabjjaaGreatDoor
section
open Go.RowKit Go.Op Go.Maps
structure Good (D : PDisk) : Prop where
  tree : TreeD D
  names : Apart D.names
  safe : Apart D.safe
  later : ∀ l ∈ D.later, Apart l
theorem Good.crash {D : PDisk} (h : Good D) (f : FateP) : Good (D.crash f) := by
  have hn : Apart (D.crash f).names := by
    rcases crash_names D f with e | e
    · rw [e]; exact h.safe
    exact h.later _ e
  exact ⟨h.tree.crash f, hn, hn, fun l hl => by cases hl⟩
theorem Good.of {D E : PDisk} (h : Good D) (ht : TreeD E) (h1 : E.names = D.names) (h2 : E.safe = D.safe) (h3 : E.later = D.later) : Good E :=
  ⟨ht, by rw [h1]; exact h.names, by rw [h2]; exact h.safe, fun l hl => h.later l (by rw [← h3]; exact hl)⟩
theorem Good.step {D : PDisk} (h : Good D) (c p q : ByteArray) : Good (D.step c p q).2.2 := by
  have ht : Good { D with clock := D.clock + 1, trace := D.trace ++ [⟨c, p, q⟩] } := h.of (h.tree.of rfl rfl rfl (KS.of_inos rfl)) rfl rfl rfl
  unfold PDisk.step
  split
  · exact h
  dsimp only
  split
  · exact ht
  split
  · exact ht.crash _
  split <;> exact ht
theorem Good.change {D : PDisk} {l : NameL} (h : Good D) (ht : TreeD (D.change l)) (hl : Apart l) : Good (D.change l) :=
  ⟨ht, hl, h.safe, fun x hx => by
    rcases List.mem_append.1 (show x ∈ D.later ++ [l] from hx) with hx | hx
    · exact h.later x hx
    simp at hx; subst hx; exact hl⟩
theorem Good.lay {D : PDisk} (h : Good D) {p : ByteArray} {x : Node} {full : Bool} {l : List (Bool × Int)} (ht : TreeD (D.lay p x full l).2) : Good (D.lay p x full l).2 := by
  unfold PDisk.lay at ht ⊢; dsimp only at ht ⊢
  split
  · exact h
  rename_i he
  rw [if_neg he] at ht; exact Good.change (D := D.make x D.clock (decide (x.kind = 1))) ⟨h.tree.of rfl rfl rfl (KS.make D x D.clock (decide (x.kind = 1))), h.names, h.safe, h.later⟩ ht (h.names.put _ _)
theorem Good.call {D : PDisk} {n : Nat} (h : Good D) (hk : Ok D n) (c p q : ByteArray) (k : PDisk → Bool → Int × PDisk) (hh : ∀ E full, Good E → Ok E (n + 1) → Good (k E full).2) : Good (D.call c p q k).2 := by
  have h1 := h.step c p q; have h2 := PDisk.step_ok hk c p q; unfold PDisk.call; generalize D.step c p q = st at h1 h2; obtain ⟨full, e, E⟩ := st; dsimp only at h1 h2 ⊢
  split
  · exact h1
  exact hh E full h1 h2
theorem Good.ask {D : PDisk} {n : Nat} (h : Good D) (hk : Ok D n) (c : CallP) : Good (askD D c) := by
  unfold askD
  split
  · refine h.call hk _ _ _ _ fun E full hE hO => ?_
    have ht := hE.tree.write_ hO hE.names full c.path c.data c.mode; unfold PDisk.write_ at ht ⊢
    cases hat : E.at_ c.path with
    | none => rw [hat] at ht; exact hE.lay ht
    | some o =>
      rw [hat] at ht; dsimp only at ht ⊢
      split
      · exact hE
      rename_i he
      rw [if_neg he] at ht; exact hE.of ht rfl rfl rfl
  split
  · refine h.call hk _ _ _ _ fun E full hE hO => hE.lay (hE.tree.lay hO hE.names _ _ _ _ ?_ (by simp) (by simp) (.inr (by simp)))
    intro y hy
    simp only [List.mem_cons, List.not_mem_nil, or_false] at hy
    rcases hy with rfl | rfl | rfl <;> simp [PDisk.no, PDisk.parentE, PDisk.there]
  split
  · refine h.call hk _ _ _ _ fun E full hE hO => hE.lay (hE.tree.lay hO hE.names _ _ _ _ ?_ (by simp) (by simp) (.inr (by simp)))
    intro y hy
    simp only [List.mem_cons, List.not_mem_nil, or_false] at hy
    rcases hy with rfl | rfl | rfl | rfl <;> simp [PDisk.no, PDisk.parentE, PDisk.there]
  split
  · refine h.call hk _ _ _ _ fun E full hE hO => ?_
    have ht := hE.tree.remove_ c.path; unfold PDisk.remove_ at ht ⊢; dsimp only at ht ⊢
    split
    · exact hE
    rename_i he
    rw [if_neg he] at ht; exact hE.change ht (hE.names.del _)
  split
  · refine h.call hk _ _ _ _ fun E full hE hO => ?_
    have ht := hE.tree.move_ hO hE.names c.path c.to_; unfold PDisk.move_ at ht ⊢; dsimp only at ht ⊢
    split
    · exact hE
    rename_i he
    rw [if_neg he] at ht
    split
    · exact hE
    rename_i hb
    rw [if_neg hb] at ht; have he2 : firstE (E.mvE c.path c.to_) = 0 := by simpa using he
    have h5 : ∀ y ∈ E.mvE c.path c.to_, y.2 ≠ 0 := by
      intro y hy
      unfold PDisk.mvE at hy; simp only [List.mem_cons, List.not_mem_nil, or_false] at hy
      rcases hy with rfl | rfl | rfl | rfl | rfl | rfl <;> simp [PDisk.no, PDisk.gone, PDisk.there, PDisk.parentE]
    have k1 : okPath (str c.path) = true := by simpa [PDisk.no] using firstE_zero h5 he2 (PDisk.no c.path) (by simp [PDisk.mvE])
    exact hE.change ht (moved_apart hE.names k1 (hE.tree.names.mv hO hE.names he2))
  split
  · refine h.call hk _ _ _ _ fun E full hE hO => ?_
    have ht := hE.tree.replace_ c.path c.to_; unfold PDisk.replace_ at ht ⊢; dsimp only at ht ⊢
    split
    · exact hE
    rename_i he
    rw [if_neg he] at ht; exact hE.change ht ((hE.names.put _ _).del _)
  split
  · refine h.call hk _ _ _ _ fun E full hE hO => ?_
    have ht := hE.tree.sync_ c.path; unfold PDisk.sync_ at ht ⊢; dsimp only at ht ⊢
    split
    · exact hE
    rename_i he
    rw [if_neg he] at ht; dsimp only at ht
    cases hat : E.at_ c.path with
    | none => exact hE
    | some o => rw [hat] at ht; exact hE.of ht rfl rfl rfl
  split
  · exact h.call hk _ _ _ _ fun E full hE hO => ⟨⟨hE.tree.names.mono (KS.of_inos rfl), hE.tree.names.mono (KS.of_inos rfl), fun l hl => by cases hl⟩, hE.names, hE.names, fun l hl => by cases hl⟩
  split
  · have h1 := h.step ⟨#[71, 101, 116]⟩ c.path ⟨#[]⟩
    unfold PDisk.get; generalize D.step ⟨#[71, 101, 116]⟩ c.path ⟨#[]⟩ = st at h1; obtain ⟨full, e, E⟩ := st; dsimp only at h1 ⊢
    split <;> exact h1
  split
  · have h1 := h.step ⟨#[78, 97, 109, 101, 115]⟩ c.path ⟨#[]⟩
    unfold PDisk.namesC; generalize D.step ⟨#[78, 97, 109, 101, 115]⟩ c.path ⟨#[]⟩ = st at h1; obtain ⟨full, e, E⟩ := st; dsimp only at h1 ⊢
    split <;> exact h1
  split
  · exact h.of (h.tree.of rfl rfl rfl (KS.of_inos rfl)) rfl rfl rfl
  exact h
theorem light_new {t : List Node} (hF : Fits t) : Light (newD t) := fun m hm => by
  obtain ⟨n, hn, rfl⟩ := List.mem_map.1 (show m ∈ t.map fun n => (⟨n, 0, false⟩ : Ino) from hm); exact (hF n hn).2
end
section
open Go.RowKit Go.Op Go.Maps
theorem nmOf_mem : ∀ (t : List Node) (i j : Nat) (m : Node), t[j]? = some m → (m.path, i + j + 1) ∈ nmOf t i
  | [], _, _, _, h => by simp at h
  | n :: t, i, 0, m, h => by
    simp at h
    subst h; unfold nmOf; exact List.mem_cons_self ..
  | n :: t, i, j + 1, m, h => by
    unfold nmOf; have := nmOf_mem t (i + 1) j m (by simpa using h); rw [show i + 1 + j + 1 = i + (j + 1) + 1 by omega] at this; exact List.mem_cons_of_mem _ this
theorem nmOf_apart {t : List Node} (hs : Sorted t) : Apart (nmOf t 0) := (nmOf_pair t 0 hs).imp fun {x y} h e => by
  rw [e, order_self] at h; omega
theorem new_inode {t : List Node} (hs : Sorted t) {m : Node} (hm : m ∈ t) : (newD t).inode (lookN (nmOf t 0) m.path) = some ⟨m, 0, false⟩ := by
  obtain ⟨j, hj, rfl⟩ := List.getElem_of_mem hm; have h1 := nmOf_mem t 0 j _ (List.getElem?_eq_getElem hj); have h2 := lookN_mem (nmOf_apart hs) h1; dsimp only at h2; rw [h2]; unfold PDisk.inode; rw [if_neg (by omega), show 0 + j + 1 - 1 = j by omega]
  show (t.map fun n => (⟨n, 0, false⟩ : Ino))[j]? = _
  rw [List.getElem?_map, List.getElem?_eq_getElem hj]
  rfl
theorem okTree_up {t : List Node} (hok : okTree t = true) {n : Node} (hn : n ∈ t) (hp : parent n.p ≠ []) : ∃ m ∈ t, m.p = parent n.p ∧ m.kind = 2 := by
  obtain ⟨i, hi, rfl⟩ := List.getElem_of_mem hn; have h := okTree_next hok i hi; unfold okNext at h; simp only [Bool.and_eq_true] at h; have h2 := h.2; unfold isDir at h2; rw [decide_eq_false hp, Bool.false_or] at h2; obtain ⟨m, hm, hk⟩ := List.any_eq_true.1 h2; simp only [Bool.and_eq_true, decide_eq_true_eq] at hk; exact ⟨m, List.mem_of_mem_take hm, hk.1, hk.2⟩
theorem new_climb {t : List Node} (hok : okTree t = true) {q : ByteArray} (hq : okPath (str q) = true) : ∀ (k : Nat) (n : Node), n ∈ t → (parts n.p).length ≤ k → within n.p (str q) = true → n.path ≠ q → ∃ m ∈ t, m.path = q ∧ m.kind = 2
  | 0, n, _, hk, _, _ => absurd (List.length_eq_zero_iff.1 (Nat.le_zero.1 hk)) (parts_ne n.p)
  | k + 1, n, hn, hk, hw, hne => by
    have hnp := okTree_path hok hn; obtain ⟨h1, h2⟩ := anc_parent hnp hq hw (fun e => hne (str_inj e)); obtain ⟨m, hm, h3, h4⟩ := okTree_up hok hn h1
    by_cases e : m.path = q
    · exact ⟨m, hm, e, h4⟩
    refine new_climb hok hq k m hm ?_ (by rw [h3]; exact h2 (by rw [← h3]; exact okTree_path hok hm)) e
    rw [h3, parent_parts hnp h1, List.length_dropLast]; omega
theorem good_new {t : List Node} (hok : okTree t = true) : Good (newD t) := by
  have hs := okTree_sorted hok; have hT : TreeL (newD t) (nmOf t 0) := fun x hx => by
    obtain ⟨n, hn, e⟩ := (nmOf_has t 0 x.1).1 ((hasN_iff _ _).2 ⟨x, hx, rfl⟩); rw [← e]; refine ⟨okTree_path hok hn, fun q h1 h2 h3 => ?_⟩; obtain ⟨m, hm, h4, h5⟩ := new_climb hok h1 _ n hn (Nat.le_refl _) h2 h3; exact ⟨⟨m, 0, false⟩, by rw [← h4]; exact new_inode hs hm, h5⟩
  exact ⟨⟨hT, hT, fun l hl => by cases hl⟩, nmOf_apart hs, nmOf_apart hs, fun l hl => by cases hl⟩
end
section
open Go.RowKit Go.Op Go.Maps
theorem hasN_app : ∀ (a b : NameL) (p : ByteArray), hasN (a ++ b) p = (hasN a p || hasN b p) ∧ lookN (a ++ b) p = if hasN a p then lookN a p else lookN b p
  | [], b, p => ⟨rfl, rfl⟩
  | x :: a, b, p => by
    obtain ⟨h1, h2⟩ := hasN_app a b p; obtain ⟨k1, k2⟩ := hasN_cons x (a ++ b) p; obtain ⟨k3, k4⟩ := hasN_cons x a p; rw [List.cons_append, k1, k2, k3, k4, h1, h2]
    by_cases e : x.1 = p
    · rw [decide_eq_true e, if_pos e, if_pos e]; simp
    rw [decide_eq_false e, if_neg e, if_neg e]; simp
theorem hasN_false {l : NameL} {p : ByteArray} (h : ∀ x ∈ l, x.1 ≠ p) : hasN l p = false := by
  cases hh : hasN l p
  · rfl
  obtain ⟨x, hx, e⟩ := (hasN_iff _ _).1 hh; exact absurd e (h x hx)
theorem laid_closed (path : ByteArray) : ∀ (t : List Node) (D : PDisk), (t.filter fun x => within x.p (str path)).Pairwise (fun a b => a.path ≠ b.path) → (∀ x ∈ t, within x.p (str path) = true → hasN D.names x.path = false) →
    (t.foldl (PDisk.laid1 path) D).names = D.names ++ nmOf (t.filter fun x => within x.p (str path)) D.inos.length ∧ (t.foldl (PDisk.laid1 path) D).inos = D.inos ++ (t.filter fun x => within x.p (str path)).map fun x => (⟨x, (D.clock : Int) + 1, false⟩ : Ino)
  | [], D, _, _ => by simp [nmOf]
  | x :: t, D, hp, hn => by
    rw [List.foldl_cons]
    cases hw : within x.p (str path)
    · have h1 : PDisk.laid1 path D x = D := by unfold PDisk.laid1; rw [hw]; rfl
      rw [List.filter_cons_of_neg (by simp [hw])] at hp ⊢; rw [h1]; exact laid_closed path t D hp (fun y hy => hn y (List.mem_cons_of_mem _ hy))
    have h1 : PDisk.laid1 path D x = { (D.make x (D.clock + 1) false) with names := putN D.names x.path (D.inos.length + 1) } := by unfold PDisk.laid1; rw [hw]; rfl
    rw [List.filter_cons_of_pos (by simp [hw])] at hp ⊢; obtain ⟨hp1, hp2⟩ := List.pairwise_cons.1 hp; have hx := hn x (List.mem_cons_self ..) hw; have hput : putN D.names x.path (D.inos.length + 1) = D.names ++ [(x.path, D.inos.length + 1)] := by unfold putN; rw [hx]; rfl
    obtain ⟨ih1, ih2⟩ := laid_closed path t (PDisk.laid1 path D x) hp2 (fun y hy hwy => by
      rw [h1]
      show hasN (putN D.names x.path (D.inos.length + 1)) y.path = false
      rw [hput, (hasN_app _ _ _).1, hn y (List.mem_cons_of_mem _ hy) hwy]; have := hp1 y (List.mem_filter.2 ⟨hy, by simp [hwy]⟩); simp [hasN, this])
    have hl : (PDisk.laid1 path D x).inos.length = D.inos.length + 1 := by rw [h1]; show (D.inos ++ [_]).length = _; simp
    have hc : (PDisk.laid1 path D x).clock = D.clock := by rw [h1]; rfl
    have hn1 : (PDisk.laid1 path D x).names = D.names ++ [(x.path, D.inos.length + 1)] := by rw [h1]; exact hput
    have hi1 : (PDisk.laid1 path D x).inos = D.inos ++ [⟨x, (D.clock : Int) + 1, false⟩] := by rw [h1]; rfl
    rw [ih1, ih2, hn1, hi1, hc]
    constructor
    · rw [List.append_assoc]
      show D.names ++ ([(x.path, D.inos.length + 1)] ++ nmOf _ (D.inos ++ [_]).length) = D.names ++ nmOf (x :: _) D.inos.length
      rw [List.length_append]
      rfl
    rw [List.append_assoc]; rfl
theorem nmOf_apart_ {t : List Node} (i : Nat) (hs : Sorted t) : Apart (nmOf t i) := (nmOf_pair t i hs).imp fun {x y} h e => by
  rw [e, order_self] at h; omega
theorem sorted_path {t : List Node} (hs : Sorted t) : t.Pairwise (fun a b => a.path ≠ b.path) := hs.imp fun {a b} h e => by
  have : a.p = b.p := by show str a.path = str b.path; rw [e]
  rw [this, order_self] at h; omega
def keptN (D : PDisk) (path : ByteArray) : NameL := D.names.filter fun y => !within (str y.1) (str path)
def laidL (X : List Node) (path : ByteArray) : List Node := X.filter fun x => within x.p (str path)
section
variable {D : PDisk} {n : Nat} {path : ByteArray} {v X : List Node}
theorem keptN_not {x : ByteArray × Nat} (h : x ∈ keptN D path) : x ∈ D.names ∧ within (str x.1) (str path) = false := by
  obtain ⟨h1, h2⟩ := List.mem_filter.1 h; exact ⟨h1, by simpa using h2⟩
theorem kept_no {y : Node} (hw : within y.p (str path) = true) : hasN (keptN D path) y.path = false := hasN_false fun x hx e => by
  have := (keptN_not hx).2; rw [e] at this; rw [show y.p = str y.path from rfl, this] at hw
  cases hw
theorem edit_closed (h : PutWell D.tree path v X) : (D.editN path X).names = keptN D path ++ nmOf (laidL X path) D.inos.length ∧ (D.editN path X).inos = D.inos ++ (laidL X path).map fun x => (⟨x, (D.clock : Int) + 1, false⟩ : Ino) :=
  laid_closed path X { D with names := D.names.filter fun y => !within (str y.1) (str path) } ((sorted_path (okTree_sorted h.okx)).filter _) (fun x _ hw => kept_no hw)
theorem laidL_sorted (h : PutWell D.tree path v X) : Sorted (laidL X path) := List.Pairwise.filter _ (okTree_sorted h.okx)
theorem put_mem (h : PutWell D.tree path v X) {y : Node} : (y ∈ X ∧ within y.p (str path) = false) ↔ (y ∈ D.tree ∧ within y.p (str path) = false) := by
  have h3 := (split3 h.okp (okTree_sorted h.tree) (fun n hn => okTree_path h.tree hn)).2; rw [h.out]; unfold putOut
  constructor
  · rintro ⟨h1, h2⟩
    refine ⟨?_, h2⟩
    have : y ∈ lower D.tree (str path) ++ upper D.tree (str path) := by
      rcases List.mem_append.1 h1 with h1 | h1
      · rcases List.mem_append.1 h1 with h1 | h1
        · exact List.mem_append_left _ h1
        rw [moved_in h.okp h.all h1] at h2; cases h2
      exact List.mem_append_right _ h1
    rw [h3] at this; exact (List.mem_filter.1 this).1
  rintro ⟨h1, h2⟩; refine ⟨?_, h2⟩; have : y ∈ lower D.tree (str path) ++ upper D.tree (str path) := by
    rw [h3]; exact List.mem_filter.2 ⟨h1, by simp [h2]⟩
  rcases List.mem_append.1 this with h1 | h1
  · exact List.mem_append_left _ (List.mem_append_left _ h1)
  exact List.mem_append_right _ h1
theorem tree_node (hk : Ok D n) (ha : Apart D.names) {x : ByteArray × Nat} (hx : x ∈ D.names) : ∃ m, D.inode x.2 = some m ∧ ({ m.node with path := x.1 } : Node) ∈ D.tree := by
  obtain ⟨m, h1, -⟩ := hk.inode ha hx; refine ⟨m, h1, List.mem_filterMap.2 ⟨x, List.mem_mergeSort.2 hx, ?_⟩⟩; rw [h1]
  rfl
theorem node_tree (hk : Ok D n) (ha : Apart D.names) {y : Node} (hy : y ∈ D.tree) : ∃ x ∈ D.names, ∃ m, D.inode x.2 = some m ∧ y = { m.node with path := x.1 } := by
  obtain ⟨x, hx, e⟩ := List.mem_filterMap.1 hy; have hx := List.mem_mergeSort.1 hx; obtain ⟨m, h1, -⟩ := hk.inode ha hx; rw [h1] at e; exact ⟨x, hx, m, h1, (by simpa using e : ({ m.node with path := x.1 } : Node) = y).symm⟩
theorem edit_sub (hk : Ok D n) (ha : Apart D.names) (h : PutWell D.tree path v X) {x : ByteArray × Nat} (hx : x ∈ (D.editN path X).names) : ∃ y ∈ X, y.path = x.1 := by
  rw [(edit_closed h).1] at hx
  rcases List.mem_append.1 hx with hx | hx
  · obtain ⟨h1, h2⟩ := keptN_not hx
    obtain ⟨m, -, h3⟩ := tree_node hk ha h1; exact ⟨_, ((put_mem h).2 ⟨h3, h2⟩).1, rfl⟩
  obtain ⟨y, hy, e⟩ := (nmOf_has _ _ _).1 ((hasN_iff _ _).2 ⟨x, hx, rfl⟩); exact ⟨y, (List.mem_filter.1 hy).1, e⟩
theorem inode_app {D : PDisk} {l : List Ino} {i : Nat} {m : Ino} (h : D.inode i = some m) : ({ D with inos := D.inos ++ l } : PDisk).inode i = some m := by
  unfold PDisk.inode at h ⊢
  split at h
  · cases h
  rename_i h0
  rw [if_neg h0]; dsimp only; rw [List.getElem?_append_left (List.getElem?_eq_some_iff.1 h).1]; exact h
theorem inode_of {D E : PDisk} (e : E.inos = D.inos) (i : Nat) : E.inode i = D.inode i := by unfold PDisk.inode; rw [e]
theorem edit_at (hk : Ok D n) (ha : Apart D.names) (h : PutWell D.tree path v X) {y : Node} (hy : y ∈ X) : ∃ m, (D.editN path X).inode (lookN (D.editN path X).names y.path) = some m ∧ m.node.kind = y.kind := by
  obtain ⟨h1, h2⟩ := edit_closed h; have e1 : ∀ i, (D.editN path X).inode i = ({ D with inos := D.inos ++ (laidL X path).map fun x => (⟨x, (D.clock : Int) + 1, false⟩ : Ino) } : PDisk).inode i := fun i => inode_of h2 i
  rw [e1, h1, (hasN_app _ _ _).2]
  cases hw : within y.p (str path)
  · obtain ⟨hyt, -⟩ := (put_mem h).1 ⟨hy, hw⟩
    obtain ⟨z, hz, m, hm, rfl⟩ := node_tree hk ha hyt; have hzk : z ∈ keptN D path := List.mem_filter.2 ⟨hz, by
      have : within (str z.1) (str path) = false := hw
      simp [this]⟩
    have hhas : hasN (keptN D path) z.1 = true := (hasN_iff _ _).2 ⟨z, hzk, rfl⟩
    have hlook : lookN (keptN D path) z.1 = z.2 := lookN_mem (List.Pairwise.filter _ ha) hzk
    show ∃ m', ({ D with inos := D.inos ++ _ } : PDisk).inode (if hasN (keptN D path) z.1 = true then lookN (keptN D path) z.1 else _) = some m' ∧ m'.node.kind = m.node.kind
    rw [if_pos hhas, hlook]; exact ⟨m, inode_app hm, rfl⟩
  rw [kept_no hw, if_neg (by decide)]; have hyl : y ∈ laidL X path := List.mem_filter.2 ⟨hy, by simp [hw]⟩
  obtain ⟨j, hj, e⟩ := List.getElem_of_mem hyl; have hj2 : (laidL X path)[j]? = some y := by rw [List.getElem?_eq_getElem hj, e]
  have hlook := lookN_mem (nmOf_apart_ D.inos.length (laidL_sorted h)) (nmOf_mem (laidL X path) D.inos.length j y hj2); dsimp only at hlook; rw [hlook]; refine ⟨⟨y, (D.clock : Int) + 1, false⟩, ?_, rfl⟩; unfold PDisk.inode; rw [if_neg (by omega)]; dsimp only
  rw [show D.inos.length + j + 1 - 1 = D.inos.length + j by omega, List.getElem?_append_right (by omega), List.getElem?_map, show D.inos.length + j - D.inos.length = j by omega, hj2]
  rfl
theorem nodup_le : ∀ (l m : List ByteArray), l.Nodup → (∀ x ∈ l, x ∈ m) → l.length ≤ m.length
  | [], _, _, _ => Nat.zero_le _
  | x :: l, m, hn, hm => by
    obtain ⟨a, b, rfl⟩ := List.append_of_mem (hm x (List.mem_cons_self ..)); obtain ⟨h1, h2⟩ := List.nodup_cons.1 hn; have := nodup_le l (a ++ b) h2 (fun y hy => by
      have h3 := hm y (List.mem_cons_of_mem _ hy)
      rcases List.mem_append.1 h3 with h | h
      · exact List.mem_append_left _ h
      rcases List.mem_cons.1 h with rfl | h
      · exact absurd hy h1
      exact List.mem_append_right _ h)
    simp only [List.length_append, List.length_cons] at this ⊢
    omega
theorem edit_apart (ha : Apart D.names) (h : PutWell D.tree path v X) : Apart (D.editN path X).names := by
  rw [(edit_closed h).1]; unfold Apart; rw [List.pairwise_append]; refine ⟨List.Pairwise.filter _ ha, nmOf_apart_ _ (laidL_sorted h), fun x hx y hy e => ?_⟩; obtain ⟨z, hz, e2⟩ := (nmOf_has _ _ _).1 ((hasN_iff _ _).2 ⟨y, hy, rfl⟩); have h1 := (List.mem_filter.1 hz).2; have h2 := (keptN_not hx).2; rw [e, ← e2] at h2; rw [show z.p = str z.path from rfl] at h1; rw [h2] at h1
  cases h1
theorem edit_KS (h : PutWell D.tree path v X) : KS D (D.editN path X) := fun i m hm hk2 => by
  rw [inode_of (edit_closed h).2 (E := D.editN path X) (D := { D with inos := D.inos ++ (laidL X path).map fun x => (⟨x, (D.clock : Int) + 1, false⟩ : Ino) }) i]; exact ⟨m, inode_app hm, hk2⟩
theorem edit_names_len (hk : Ok D n) (ha : Apart D.names) (h : PutWell D.tree path v X) : (D.editN path X).names.length ≤ 1000 := by
  have h1 := nodup_le ((D.editN path X).names.map (·.1)) (X.map Node.path) ((apart_iff _).1 (edit_apart ha h)) (fun x hx => by
    obtain ⟨y, hy, rfl⟩ := List.mem_map.1 hx; obtain ⟨z, hz, e⟩ := edit_sub hk ha h hy; exact List.mem_map.2 ⟨z, hz, e⟩)
  rw [List.length_map, List.length_map] at h1; have := okTree_len h.okx; omega
theorem laidL_le (h : PutWell D.tree path v X) : (laidL X path).length ≤ v.length := by
  have h3 := (split3 h.okp (okTree_sorted h.tree) (fun n hn => okTree_path h.tree hn)).2; have hno : ∀ y ∈ lower D.tree (str path) ++ upper D.tree (str path), within y.p (str path) = false := fun y hy => by
    rw [h3] at hy
    simpa using (List.mem_filter.1 hy).2
  have h1 : (lower D.tree (str path)).filter (fun x : Node => within x.p (str path)) = [] := List.filter_eq_nil_iff.2 fun y hy => by
    rw [hno y (List.mem_append_left _ hy)]; decide
  have h2 : (upper D.tree (str path)).filter (fun x : Node => within x.p (str path)) = [] := List.filter_eq_nil_iff.2 fun y hy => by
    rw [hno y (List.mem_append_right _ hy)]; decide
  have h4 : (moved path v).length = v.length := by unfold moved; simp
  unfold laidL; rw [h.out]; unfold putOut; rw [List.filter_append, List.filter_append, h1, h2, List.nil_append, List.append_nil, ← h4]; exact List.length_filter_le _ _
structure Fine (D : PDisk) (n : Nat) : Prop where
  ok : Ok D n
  good : Good D
  light : Light D
theorem Fine.editC {e : EditP} (h : Fine D n) (hv : Fits e.value) : Fine (D.edit e) (n + (e.value.length + 1)) := by
  rcases putR_cases D.tree e.path e.value with ⟨h0, -⟩ | ⟨h0, hw⟩
  · have : D.edit e = D := by unfold PDisk.edit; rw [if_pos h0]
    rw [this]; exact ⟨PDisk.ok_mono h.ok (by omega), h.good, h.light⟩
  have hfit := putR_fits (path := e.path) (h.light.fits h.ok) hv; generalize hX : (putR D.tree e.path e.value).1 = X at hw hfit
  have hE : D.edit e = { D.editN e.path X with later := (D.editN e.path X).later ++ [(D.editN e.path X).names] } := by
    unfold PDisk.edit; rw [if_neg (by rw [h0]; decide), hX]
  have hc := edit_closed hw; have hs := laid_same e.path X { D with names := D.names.filter fun y => !within (str y.1) (str e.path) }; have hclk := (laid_few e.path X { D with names := D.names.filter fun y => !within (str y.1) (str e.path) }).2.2; have e1 : (D.editN e.path X).later = D.later := hs.1
  have e2 : (D.editN e.path X).safe = D.safe := hs.2.1
  have e3 : (D.editN e.path X).trace = D.trace := hs.2.2.1
  have e4 : (D.editN e.path X).fates = D.fates := hs.2.2.2.2.1
  have e5 : (D.editN e.path X).clock = D.clock := hclk
  have hil : (D.editN e.path X).inos.length = D.inos.length + (laidL X e.path).length := by rw [hc.2]; simp
  have hll := laidL_le hw; have hap := edit_apart h.good.names hw; have hnk : NOk (D.editN e.path X).inos.length (D.editN e.path X).names := fun x => by
    rw [hil, hc.1, (hasN_app _ _ _).1, (hasN_app _ _ _).2]; obtain ⟨l1, l2⟩ := nmOf_look (laidL X e.path) D.inos.length x; have hkk : hasN (keptN D e.path) x = true → lookN (keptN D e.path) x = lookN D.names x ∧ hasN D.names x = true := fun hh => by
      obtain ⟨y, hy, rfl⟩ := (hasN_iff _ _).1 hh; have hy2 := (keptN_not hy).1; exact ⟨(show lookN (keptN D e.path) y.1 = y.2 from lookN_mem (List.Pairwise.filter _ h.good.names) hy).trans (lookN_mem h.good.names hy2).symm, (hasN_iff _ _).2 ⟨y, hy2, rfl⟩⟩
    cases hh : hasN (keptN D e.path) x
    · rw [if_neg (by decide), Bool.false_or]
      refine ⟨by omega, fun h5 => ⟨by have := l2 h5; omega, ?_⟩⟩
      obtain ⟨y, hy, rfl⟩ := (nmOf_has _ _ _).1 h5; have := okPath_size (okTree_path hw.okx (List.mem_filter.1 hy).1); rw [show y.p = str y.path from rfl, str_size] at this; exact this
    obtain ⟨h6, h7⟩ := hkk hh; rw [if_pos rfl, h6]; obtain ⟨h8, h9⟩ := h.ok.names x; exact ⟨by omega, fun _ => h9 h7⟩
  have hnl := edit_names_len h.ok h.good.names hw; have hks := edit_KS hw; have hT : TreeL (D.editN e.path X) (D.editN e.path X).names := fun x hx => by
    obtain ⟨y, hy, ey⟩ := edit_sub h.ok h.good.names hw hx; rw [← ey]; refine ⟨okTree_path hw.okx hy, fun q h1 h2 h3 => ?_⟩; obtain ⟨m, hm, h4, h5⟩ := new_climb hw.okx h1 _ y hy (Nat.le_refl _) h2 h3; obtain ⟨m', h6, h7⟩ := edit_at h.ok h.good.names hw hm; rw [h4] at h6; exact ⟨m', h6, h7.trans h5⟩
  rw [hE]; refine ⟨?_, ?_, ?_⟩
  · refine ⟨hnk, ?_, fun l hl => ?_, ?_, ?_, ?_, ?_, ?_, hnl, ?_, fun l hl => ?_⟩
    · show NOk (D.editN e.path X).inos.length (D.editN e.path X).safe
      rw [e2, hil]; exact h.ok.safe.mono (by omega)
    · show NOk (D.editN e.path X).inos.length l
      rcases List.mem_append.1 (show l ∈ (D.editN e.path X).later ++ [(D.editN e.path X).names] from hl) with hl | hl
      · rw [e1] at hl; rw [hil]; exact (h.ok.later l hl).mono (by omega)
      simp at hl; subst hl; exact hnk
    · show ((D.editN e.path X).later ++ [_]).length ≤ _
      rw [e1, List.length_append]; have := h.ok.llen; simp; omega
    · show (D.editN e.path X).inos.length ≤ _
      rw [hil]; have := h.ok.inos; omega
    · show (D.editN e.path X).trace.length ≤ _
      rw [e3]; have := h.ok.tlen; omega
    · show (D.editN e.path X).clock ≤ _
      rw [e5]; have := h.ok.clock; omega
    · show (D.editN e.path X).fates.length ≤ _
      rw [e4]; exact h.ok.fates
    · show (D.editN e.path X).safe.length ≤ _
      rw [e2]; exact h.ok.slen
    rcases List.mem_append.1 (show l ∈ (D.editN e.path X).later ++ [(D.editN e.path X).names] from hl) with hl | hl
    · rw [e1] at hl; exact h.ok.llens l hl
    simp at hl; subst hl; exact hnl
  · refine ⟨⟨hT.mono (KS.of_inos rfl), ?_, fun l hl => ?_⟩, hap, ?_, fun l hl => ?_⟩
    · show TreeL _ (D.editN e.path X).safe
      rw [e2]; exact (h.good.tree.safe.mono hks).mono (KS.of_inos rfl)
    · rcases List.mem_append.1 (show l ∈ (D.editN e.path X).later ++ [(D.editN e.path X).names] from hl) with hl | hl
      · rw [e1] at hl; exact ((h.good.tree.later l hl).mono hks).mono (KS.of_inos rfl)
      simp at hl; subst hl; exact hT.mono (KS.of_inos rfl)
    · show Apart (D.editN e.path X).safe
      rw [e2]; exact h.good.safe
    rcases List.mem_append.1 (show l ∈ (D.editN e.path X).later ++ [(D.editN e.path X).names] from hl) with hl | hl
    · rw [e1] at hl; exact h.good.later l hl
    simp at hl; subst hl; exact hap
  intro m hm
  rw [show ({ D.editN e.path X with later := (D.editN e.path X).later ++ [(D.editN e.path X).names] } : PDisk).inos = D.inos ++ (laidL X e.path).map fun x => (⟨x, (D.clock : Int) + 1, false⟩ : Ino) from hc.2] at hm
  rcases List.mem_append.1 hm with hm | hm
  · exact h.light m hm
  obtain ⟨y, hy, rfl⟩ := List.mem_map.1 hm; exact (hfit y (List.mem_filter.1 hy).1).2
end
def costE (es : List EditP) : Nat := (es.map fun e => e.value.length + 1).sum
theorem Fine.mono {D : PDisk} {n m : Nat} (h : Fine D n) (hm : n ≤ m) : Fine D m := ⟨PDisk.ok_mono h.ok hm, h.good, h.light⟩
theorem Fine.editsC (t : Int) : ∀ (es : List EditP) (D : PDisk) (n : Nat), Fine D n → (∀ e ∈ es, Fits e.value) → Fine (es.foldl (fun E e => if e.at_ = t then E.edit e else E) D) (n + costE es)
  | [], D, n, h, _ => h
  | e :: es, D, n, h, hv => by
    have hc : costE (e :: es) = (e.value.length + 1) + costE es := by unfold costE; simp
    rw [List.foldl_cons, hc]
    by_cases he : e.at_ = t
    · rw [if_pos he]
      exact (Fine.editsC t es _ _ (h.editC (hv e (List.mem_cons_self ..))) (fun x hx => hv x (List.mem_cons_of_mem _ hx))).mono (by omega)
    rw [if_neg he]; exact (Fine.editsC t es _ _ h (fun x hx => hv x (List.mem_cons_of_mem _ hx))).mono (by omega)
theorem costE_take (es : List EditP) : ∀ i, costE (es.take i) ≤ costE es := fun i => by
  have h : costE es = costE (es.take i) + costE (es.drop i) := by
    unfold costE; rw [← List.sum_append, ← List.map_append, List.take_append_drop]
  omega
theorem Fine.editToC {D : PDisk} {n : Nat} (h : Fine D n) (hv : ∀ e ∈ D.edits, Fits e.value) (i : Nat) : Fine (D.editTo i) (n + costE D.edits) := by
  refine (Fine.editsC (D.trace.length : Int) (D.edits.take i) D n h (fun e he => hv e (List.mem_of_mem_take he))).mono ?_
  have := costE_take D.edits i; omega
theorem Fine.eokC {D : PDisk} {n : Nat} (h : Fine D n) (hv : ∀ e ∈ D.edits, Fits e.value) : EditsOk D (n + costE D.edits) := ⟨fun i => (h.editToC hv i).ok, fun i _ => (h.editToC hv i).light⟩
theorem Fine.editedC {D : PDisk} {n : Nat} (h : Fine D n) (hv : ∀ e ∈ D.edits, Fits e.value) : Fine D.edited (n + costE D.edits) := by
  cases ho : D.off
  · rw [edited_eq ho]; exact h.editToC hv _
  rw [edited_off ho]; exact h.mono (by omega)
end
section
open Go.RowKit Go.Op Go.Maps
structure RArg where
  fv : Value
  ev : Value
structure RGeo where
  nv : Value
  sv : Value
  lv : Value
  ls : List Value
  iv : Value
  tv : Value
  fb : List Nat
def entCells (l : NameL) : List Value := l.flatMap fun x => [.string x.1, .int .i64 x.2]
def rinoCells (l : List Ino) : List Value := l.flatMap fun n => [.int .i64 n.node.kind, .int .i64 n.node.mode, .int .i64 n.time, .string n.node.data, .bool n.dirty]
def refCells (A : RArg) (G : RGeo) (E : PDisk) : Array Value :=
  #[G.nv, G.sv, G.lv, G.iv, .bool E.off, .int .i64 E.trace.length, .int .i64 E.clock, G.tv, A.fv, A.ev]
def EntAt (w : World) (v : Value) (l : NameL) : Prop := w.ownsRow 0 127 2 v l.length (entCells l)
structure RefM (A : RArg) (w : World) (p : Nat) (G : RGeo) (E : PDisk) : Prop where
  blk : Blk w p 69 (refCells A G E)
  names : EntAt w G.nv E.names
  safe : EntAt w G.sv E.safe
  later : w.ownsRow 0 64 1 G.lv E.later.length G.ls
  laters : ∀ (i : Nat) (v : Value) (l : NameL), G.ls[i]? = some v → E.later[i]? = some l → EntAt w v l
  inos : w.ownsRow 0 125 5 G.iv E.inos.length (rinoCells E.inos)
  trace : w.ownsRow 0 73 3 G.tv E.trace.length (didCells E.trace)
  fates : WeatherAt w (.slice none 0 0) (.slice none 0 0) G.fb [] []
  fbl : ∀ g ∈ G.fb, ∃ t cs, Blk w g t cs ∧ Weath t
def RGeo.blocks (G : RGeo) : List Nat := G.nv.ownBlock.toList ++ (G.sv.ownBlock.toList ++ (G.lv.ownBlock.toList ++ (G.ls.flatMap (fun v => v.ownBlock.toList) ++ (G.iv.ownBlock.toList ++ (G.tv.ownBlock.toList ++ G.fb)))))
theorem mem_blocks {G : RGeo} {b : Nat} : b ∈ G.blocks ↔ b ∈ G.nv.ownBlock.toList ∨ b ∈ G.sv.ownBlock.toList ∨ b ∈ G.lv.ownBlock.toList ∨ (∃ v ∈ G.ls, b ∈ v.ownBlock.toList) ∨ b ∈ G.iv.ownBlock.toList ∨ b ∈ G.tv.ownBlock.toList ∨ b ∈ G.fb := by
  unfold RGeo.blocks; simp only [List.mem_append, List.mem_flatMap]
section
variable {A : RArg} {w w' : World} {p : Nat} {G : RGeo} {E : PDisk} {k : List Nat}
theorem RefM.lsl (h : RefM A w p G E) : G.ls.length = E.later.length := by have := h.later.1; omega
theorem RefM.off (h : RefM A w p G E) (ho : Off k w w') (hp : p ∉ k) (hb : ∀ b ∈ G.blocks, b ∉ k) : RefM A w' p G E where
  blk := h.blk.off ho hp
  names := own_offk h.names ho fun b hm => hb b (mem_blocks.2 (.inl hm))
  safe := own_offk h.safe ho fun b hm => hb b (mem_blocks.2 (.inr (.inl hm)))
  later := own_offk h.later ho fun b hm => hb b (mem_blocks.2 (.inr (.inr (.inl hm))))
  laters := fun i v l h1 h2 => own_offk (h.laters i v l h1 h2) ho fun b hm => hb b (mem_blocks.2 (.inr (.inr (.inr (.inl ⟨v, List.mem_of_getElem? h1, hm⟩)))))
  inos := own_offk h.inos ho fun b hm => hb b (mem_blocks.2 (.inr (.inr (.inr (.inr (.inl hm))))))
  trace := own_offk h.trace ho fun b hm => hb b (mem_blocks.2 (.inr (.inr (.inr (.inr (.inr (.inl hm)))))))
  fates := h.fates.off ho fun b hm => hb b (mem_blocks.2 (.inr (.inr (.inr (.inr (.inr (.inr hm)))))))
  fbl := fun g hg => by
    obtain ⟨t, cs, hB, hW⟩ := h.fbl g hg; exact ⟨t, cs, hB.off ho (hb g (mem_blocks.2 (.inr (.inr (.inr (.inr (.inr (.inr hg)))))))), hW⟩
theorem RefM.off_nil (h : RefM A w p G E) (ho : Off [] w w') : RefM A w' p G E := h.off ho (by simp) (by simp)
theorem RefM.kind (h : RefM A w p G E) {b : Nat} (hb : b ∈ G.blocks) : (∃ cs, Blk w b 127 cs) ∨ (∃ cs, Blk w b 64 cs) ∨ (∃ cs, Blk w b 125 cs) ∨ (∃ cs, Blk w b 73 cs) ∨ (∃ t cs, Blk w b t cs ∧ Weath t) := by
  rcases mem_blocks.1 hb with hb | hb | hb | ⟨v, hv, hb⟩ | hb | hb | hb
  · exact .inl (own_blks h.names b hb)
  · exact .inl (own_blks h.safe b hb)
  · exact .inr (.inl (own_blks h.later b hb))
  · obtain ⟨i, hi, rfl⟩ := List.getElem_of_mem hv
    have hl : i < E.later.length := by rw [← h.lsl]; exact hi
    exact .inl (own_blks (h.laters i _ _ (List.getElem?_eq_getElem hi) (List.getElem?_eq_getElem hl)) b hb)
  · exact .inr (.inr (.inl (own_blks h.inos b hb)))
  · exact .inr (.inr (.inr (.inl (own_blks h.trace b hb))))
  exact .inr (.inr (.inr (.inr (h.fbl b hb))))
theorem RefM.lt (h : RefM A w p G E) {b : Nat} (hb : b ∈ G.blocks) : b < w.heap.size := by
  rcases h.kind hb with ⟨_, h⟩ | ⟨_, h⟩ | ⟨_, h⟩ | ⟨_, h⟩ | ⟨_, _, h, _⟩
  all_goals exact h.lt
end
def RefTo (A : RArg) (w : World) (p : Nat) (L : List Nat) (w' : World) (E : PDisk) : Prop := ∃ G, RefM A w' p G E ∧ Off (p :: L) w w' ∧ (∀ b ∈ G.blocks, b ∈ L ∨ w.heap.size ≤ b)
theorem RefTo.refl {A : RArg} {w : World} {p : Nat} {G : RGeo} {E : PDisk} (h : RefM A w p G E) : RefTo A w p G.blocks w E := ⟨G, h, Off.refl _ _, fun _ hb => .inl hb⟩
theorem RefTo.next {A : RArg} {w w1 w2 : World} {p : Nat} {L : List Nat} {G : RGeo} {E' : PDisk} (ho : Off (p :: L) w w1) (hp : ∀ b ∈ G.blocks, b ∈ L ∨ w.heap.size ≤ b) (h : RefTo A w1 p G.blocks w2 E') : RefTo A w p L w2 E' := by
  obtain ⟨G2, hM, h2, h3⟩ := h; refine ⟨G2, hM, ho.trans h2 (fun x hx hm => ?_), fun b hb => ?_⟩
  · rcases List.mem_cons.1 hm with rfl | hm
    · exact List.mem_cons_self ..
    rcases hp x hm with h | h
    · exact List.mem_cons_of_mem _ h
    omega
  rcases h3 b hb with h | h
  · exact hp b h
  exact .inr (Nat.le_trans ho.size h)
theorem flat_get {α : Type} (f : α → List Value) (sz : Nat) (hf : ∀ x, (f x).length = sz) : ∀ (l : List α) (i k : Nat) (x : α), l[i]? = some x → k < sz → (l.flatMap f)[i * sz + k]? = (f x)[k]?
  | [], i, k, x, h, _ => by simp at h
  | y :: l, 0, k, x, h, hk => by
    have : y = x := by simpa using h
    subst this; rw [List.flatMap_cons, List.getElem?_append_left (by rw [hf]; omega), Nat.zero_mul, Nat.zero_add]
  | y :: l, i + 1, k, x, h, hk => by
    rw [List.flatMap_cons, List.getElem?_append_right (by rw [hf, Nat.add_mul]; omega), hf, show (i + 1) * sz + k - sz = i * sz + k by rw [Nat.add_mul]; omega]; exact flat_get f sz hf l i k x (by simpa using h) hk
theorem rflat_len {α : Type} (f : α → List Value) (sz : Nat) (hf : ∀ x, (f x).length = sz) : ∀ (l : List α), (l.flatMap f).length = l.length * sz
  | [] => by simp
  | y :: l => by rw [List.flatMap_cons, List.length_append, hf, rflat_len f sz hf l, List.length_cons, Nat.add_mul]; omega
theorem own_at {w : World} {base e sz n : Nat} {v : Value} {xs : List Value} (h : w.ownsRow base e sz v n xs) :
    ∃ pl cap, v = .slice pl n cap ∧ n ≤ cap ∧ cap ≤ maxLen ∧ (0 < n → ∃ g, pl = some ⟨g, 0, none⟩ ∧ base ≤ g ∧ g < w.heap.size ∧ (∃ cs, Blk w g e cs) ∧ ∀ (k : Nat) (u : Value), xs[k]? = some u → w.cell? ⟨g, k, none⟩ = some u) := by
  rcases h.2 with ⟨rfl, rfl⟩ | ⟨g, cap, cur, rfl, hb, hh, hc, hm, hs, ht⟩
  · exact ⟨none, 0, rfl, Nat.le_refl _, by decide, fun h => absurd h (by omega)⟩
  refine ⟨_, cap, rfl, hc, hm, fun _ => ⟨g, rfl, hb, (Array.getElem?_eq_some_iff.1 hh).1, ⟨cur, hh⟩, fun k u hu => ?_⟩⟩
  have hB : Blk w g e cur := hh
  rw [hB.cell]; rw [← ht, List.getElem?_take] at hu
  split at hu
  · simpa using hu
  cases hu
theorem ent_get {l : NameL} {i : Nat} {x : ByteArray × Nat} (h : l[i]? = some x) : (entCells l)[i * 2]? = some (.string x.1) ∧ (entCells l)[i * 2 + 1]? = some (.int .i64 x.2) :=
  ⟨flat_get (fun x : ByteArray × Nat => [Value.string x.1, .int .i64 x.2]) 2 (fun _ => rfl) l i 0 x h (by omega),
   flat_get (fun x : ByteArray × Nat => [Value.string x.1, .int .i64 x.2]) 2 (fun _ => rfl) l i 1 x h (by omega)⟩
theorem rino_get {l : List Ino} {i : Nat} {n : Ino} (h : l[i]? = some n) (k : Nat) (hk : k < 5) : (rinoCells l)[i * 5 + k]? = [Value.int .i64 n.node.kind, .int .i64 n.node.mode, .int .i64 n.time, .string n.node.data, .bool n.dirty][k]? :=
  flat_get (fun n : Ino => [Value.int .i64 n.node.kind, .int .i64 n.node.mode, .int .i64 n.time, .string n.node.data, .bool n.dirty]) 5 (fun _ => rfl) l i k n h hk
def firstN : NameL → ByteArray → Option Nat
  | [], _ => none
  | x :: l, p => if x.1 = p then some 0 else (firstN l p).map (· + 1)
def firstI (l : NameL) (p : ByteArray) : Int := match firstN l p with | none => -1 | some i => i
theorem firstN_some : ∀ {l : NameL} {p : ByteArray} {i : Nat}, firstN l p = some i → l[i]? = some (p, lookN l p) ∧ hasN l p = true
  | [], _, _, h => by cases h
  | x :: l, p, i, h => by
    unfold firstN at h
    by_cases e : x.1 = p
    · rw [if_pos e] at h
      injection h with h
      subst h; refine ⟨?_, by simp [hasN, e]⟩; unfold lookN; rw [if_pos e, ← e]
      rfl
    rw [if_neg e] at h
    cases hf : firstN l p with
    | none => rw [hf] at h; cases h
    | some j =>
      rw [hf] at h; injection h with h
      subst h; obtain ⟨h1, h2⟩ := firstN_some hf; refine ⟨?_, by simp [hasN, h2]⟩; unfold lookN; rw [if_neg e]
      simpa using h1
theorem firstN_none : ∀ {l : NameL} {p : ByteArray}, firstN l p = none ↔ hasN l p = false
  | [], _ => by simp [firstN, hasN]
  | x :: l, p => by
    unfold firstN hasN
    by_cases e : x.1 = p
    · simp [e]
    rw [if_neg e, Option.map_eq_none_iff, firstN_none]; simp [e]
theorem firstN_at : ∀ {l : NameL} {p : ByteArray} {i : Nat} {x : ByteArray × Nat}, (∀ (j : Nat) (y : ByteArray × Nat), j < i → l[j]? = some y → y.1 ≠ p) → l[i]? = some x → x.1 = p → firstN l p = some i
  | [], _, _, _, _, h, _ => by simp at h
  | z :: l, p, 0, x, _, h, e => by
    have : z = x := by simpa using h
    subst this; unfold firstN; rw [if_pos e]
  | z :: l, p, i + 1, x, hj, h, e => by
    unfold firstN; rw [if_neg (hj 0 z (by omega) rfl), firstN_at (l := l) (fun j y h1 h2 => hj (j + 1) y (Nat.succ_lt_succ h1) (by simpa using h2)) (by simpa using h) e]
    rfl
theorem firstN_no {l : NameL} {p : ByteArray} (h : ∀ (j : Nat) (y : ByteArray × Nat), j < l.length → l[j]? = some y → y.1 ≠ p) : firstN l p = none := firstN_none.2 (by
  cases hh : hasN l p
  · rfl
  obtain ⟨x, hx, e⟩ := (hasN_iff _ _).1 hh; obtain ⟨j, hj, e2⟩ := List.getElem_of_mem hx; exact absurd e (h j x hj (by rw [List.getElem?_eq_getElem hj, e2])))
set_option maxRecDepth 100000 in
set_option maxHeartbeats 4000000 in
theorem rfind_any {A : RArg} (p : Nat) (G : RGeo) (E : PDisk) (path : ByteArray) (w : World) (h : RefM A w p G E) :
    Calls Tryz.prog 102 #[.pointer (some ⟨p, 0, none⟩), .string path] w fun e w' => e = .returned (.int .i64 (firstI E.names path)) ∧ Off [] w w' := by
  have H := Lib.hid h; obtain ⟨pl, cap, hv, hcap, hcm, -⟩ := own_at h.names; have HV := Lib.hid hv; obtain ⟨n, hn⟩ : ∃ n, E.names.length = n := ⟨_, rfl⟩
  have HN := Lib.hid hn; rw [hn] at hcap; unfold maxLen at hcm; clear h hv hn
  go_enter Tryz.func102, Tryz.ntmps102
  go_wp2_with fail
  go_loopw [5] (fun x wr => ∃ i : Nat, x = .int .i64 i ∧ i ≤ n ∧ (∀ (j : Nat) (y : ByteArray × Nat), j < i → E.names[j]? = some y → y.1 ≠ path) ∧ Off [] w wr) (fun x _ => n - (intOf x).toNat)
  case atStart => exact ⟨0, rfl, by omega, fun j _ h => absurd h (by omega), Off.refl _ _⟩
  case round =>
    obtain ⟨i, rfl, hi, hno, ho⟩ := hrel; have HO := Lib.hid ho; have HNO := Lib.hid hno; have hM := H.out.off_nil ho; have hc := hM.blk.cell; unfold refCells at hc; rw [HV.out, HN.out] at hc
    by_cases hlt : i < n
    · obtain ⟨x, hx⟩ : ∃ x, E.names[i]? = some x := ⟨_, List.getElem?_eq_getElem (by rw [HN.out]; exact hlt)⟩
      obtain ⟨pl2, cap2, hv2, -, -, hrow⟩ := own_at hM.names; rw [HV.out] at hv2; injection hv2 with e1 e2 e3
      subst e1; obtain ⟨g, rfl, -, hgl, -, hcell⟩ := hrow (by rw [HN.out]; omega); have hx1 := hcell _ _ (ent_get hx).1; have HX := Lib.hid hx; have hilt : (i : Int) < n := by omega
      clear hx hrow hcell hno ho hM
      by_cases e : x.1 = path
      · have he : (x.1.toList == path.toList) = true := by rw [e]; simp
        have HE := Lib.hid e; clear e
        go_wp2_with fail
        go_ret
        refine ⟨?_, HO.out⟩
        unfold firstI; rw [firstN_at HNO.out HX.out HE.out]
        rfl
      have he : (x.1.toList == path.toList) = false := by
        rw [ByteArray.toList_eq, ByteArray.toList_eq, beq_eq_false_iff_ne]
        intro h
        exact e (ByteArray.ext (Array.toList_inj.1 h))
      have HE := Lib.hid e; clear e
      go_wp2_with fail
      refine ⟨⟨i + 1, by congr 1, by omega, fun j y hj hy => ?_, HO.out⟩, by simp only [intOf]; omega⟩
      by_cases hji : j = i
      · subst hji
        rw [HX.out] at hy; injection hy with hy
        exact hy ▸ HE.out
      exact HNO.out j y (by omega) hy
    obtain rfl : i = n := by omega
    clear hno ho hM
    go_wp2_with fail
    go_ret
    refine ⟨?_, HO.out⟩
    unfold firstI; rw [firstN_no (by rw [HN.out]; exact HNO.out)]
    rfl
end
section
open Go.RowKit Go.Op Go.Maps
variable {A : RArg}
theorem first_ino {E : PDisk} {path : ByteArray} {i : Nat} (hK : NOk E.inos.length E.names) (h : firstN E.names path = some i) : ∃ j m, E.names[i]? = some (path, j + 1) ∧ lookN E.names path = j + 1 ∧ E.inos[j]? = some m ∧ E.at_ path = some m := by
  obtain ⟨h1, h2⟩ := firstN_some h; obtain ⟨h3, h4⟩ := hK path; have h5 := (h4 h2).1; obtain ⟨j, hj⟩ : ∃ j, lookN E.names path = j + 1 := ⟨lookN E.names path - 1, by omega⟩
  have hjl : j < E.inos.length := by omega
  refine ⟨j, E.inos[j], by rw [h1, hj], hj, List.getElem?_eq_getElem hjl, ?_⟩
  unfold PDisk.at_ PDisk.inode; rw [hj, if_neg (by omega), Nat.add_sub_cancel, List.getElem?_eq_getElem hjl]
theorem lookN_no {l : NameL} {p : ByteArray} (h : hasN l p = false) : lookN l p = 0 := by
  induction l with
  | nil => rfl
  | cons x l ih =>
    unfold hasN at h; simp only [Bool.or_eq_false_iff, decide_eq_false_iff_not] at h; unfold lookN; rw [if_neg h.1, ih h.2]
theorem first_none {E : PDisk} {path : ByteArray} (h : firstN E.names path = none) : E.at_ path = none := by
  unfold PDisk.at_ PDisk.inode; rw [if_pos (lookN_no (firstN_none.1 h))]
theorem RefM.ino {w : World} {p : Nat} {G : RGeo} {E : PDisk} (h : RefM A w p G E) {j : Nat} {m : Ino} (hm : E.inos[j]? = some m) : ∃ g cap, G.iv = .slice (some ⟨g, 0, none⟩) E.inos.length cap ∧ j < E.inos.length ∧ E.inos.length ≤ cap ∧ cap ≤ maxLen ∧ g < w.heap.size ∧ (∃ cs, Blk w g 125 cs) ∧ w.cell? ⟨g, j * 5, none⟩ = some (.int .i64 m.node.kind) ∧ w.cell? ⟨g, j * 5 + 1, none⟩ = some (.int .i64 m.node.mode) ∧ w.cell? ⟨g, j * 5 + 2, none⟩ = some (.int .i64 m.time) ∧ w.cell? ⟨g, j * 5 + 3, none⟩ = some (.string m.node.data) ∧ w.cell? ⟨g, j * 5 + 4, none⟩ = some (.bool m.dirty) := by
  obtain ⟨pl, cap, hv, h1, h2, h3⟩ := own_at h.inos; have hj := (List.getElem?_eq_some_iff.1 hm).1; obtain ⟨g, rfl, -, hg, hB, hc⟩ := h3 (by omega); exact ⟨g, cap, hv, hj, h1, h2, hg, hB, hc _ _ (rino_get hm 0 (by omega)), hc _ _ (rino_get hm 1 (by omega)), hc _ _ (rino_get hm 2 (by omega)), hc _ _ (rino_get hm 3 (by omega)), hc _ _ (rino_get hm 4 (by omega))⟩
theorem RefM.ent {w : World} {p : Nat} {G : RGeo} {E : PDisk} (h : RefM A w p G E) {i : Nat} {x : ByteArray × Nat} (hx : E.names[i]? = some x) : ∃ g cap, G.nv = .slice (some ⟨g, 0, none⟩) E.names.length cap ∧ i < E.names.length ∧ E.names.length ≤ cap ∧ cap ≤ maxLen ∧ g < w.heap.size ∧ (∃ cs, Blk w g 127 cs) ∧ w.cell? ⟨g, i * 2, none⟩ = some (.string x.1) ∧ w.cell? ⟨g, i * 2 + 1, none⟩ = some (.int .i64 x.2) := by
  obtain ⟨pl, cap, hv, h1, h2, h3⟩ := own_at h.names; have hj := (List.getElem?_eq_some_iff.1 hx).1; obtain ⟨g, rfl, -, hg, hB, hc⟩ := h3 (by omega); exact ⟨g, cap, hv, hj, h1, h2, hg, hB, hc _ _ (ent_get hx).1, hc _ _ (ent_get hx).2⟩
set_option maxRecDepth 100000 in
set_option maxHeartbeats 4000000 in
theorem r7dir_any (p : Nat) (G : RGeo) (E : PDisk) (path : ByteArray) (w : World) (h : RefM A w p G E) (hK : NOk E.inos.length E.names) :
    Calls Tryz.prog 101 #[.pointer (some ⟨p, 0, none⟩), .string path] w fun e w' => e = .returned (.bool (E.dir path)) ∧ Off [] w w' := by
  have H := Lib.hid h; have HF := Lib.hid (rfind_any p G E path w h)
  by_cases h0 : path = ⟨#[]⟩
  · have g0 : path.toList = [] := by rw [h0, toList_str]; rfl
    have h0b : path.toList.isEmpty = true := by rw [g0]; rfl
    have HD := Lib.hid (show E.dir path = true by unfold PDisk.dir; rw [decide_eq_true h0]; rfl); clear h h0
    go_enter Tryz.func101, Tryz.ntmps101
    go_wp2_with fail
    refine HF.out.mono ?_
    rintro e w1 ⟨rfl, ho⟩; have HO := Lib.hid ho; clear ho
    go_wp2_with fail
    go_quiet (fail)
    go_wp2_with fail
    go_ret
    exact ⟨by rw [HD.out]; rfl, HO.out.drewN _⟩
  have g0 : ¬ path.toList = [] := by
    rw [toList_str]; exact fun e => h0 (str_inj (a := path) (b := ⟨#[]⟩) e)
  have h0b : path.toList.isEmpty = false := by simpa using g0
  have H0 := Lib.hid h0
  cases hf : firstN E.names path with
  | none =>
    have HD := Lib.hid (show E.dir path = false by unfold PDisk.dir; rw [decide_eq_false h0, first_none hf]; rfl); have HI := Lib.hid (show firstI E.names path = -1 by unfold firstI; rw [hf]); clear h h0 hf
    go_enter Tryz.func101, Tryz.ntmps101
    go_wp2_with fail
    refine HF.out.mono ?_
    rintro e w1 ⟨rfl, ho⟩; rw [HI.out]; have HO := Lib.hid ho; clear ho
    go_wp2_with fail
    go_quiet (fail)
    go_wp2_with fail
    go_ret
    exact ⟨by rw [HD.out]; rfl, HO.out.drewN _⟩
  | some i =>
    obtain ⟨j, m, h1, h2, h3, h4⟩ := first_ino hK hf; have HD := Lib.hid (show E.dir path = decide (m.node.kind = 2) by unfold PDisk.dir; rw [decide_eq_false h0, h4]; rfl); have HI := Lib.hid (show firstI E.names path = i by unfold firstI; rw [hf]); have H13 := Lib.hid (And.intro h1 h3); clear h h0 hf h1 h2 h3 h4
    go_enter Tryz.func101, Tryz.ntmps101
    go_wp2_with fail
    refine HF.out.mono ?_
    rintro e w1 ⟨rfl, ho⟩; rw [HI.out]; have HO := Lib.hid ho; have hM := H.out.off_nil ho; have hc := hM.blk.cell; unfold refCells at hc; obtain ⟨g1, c1, e1, hl1, hc1, hm1, hg1, -, hn0, hn1⟩ := hM.ent H13.out.1; obtain ⟨g2, c2, e2, hl2, hc2, hm2, hg2, -, hi0, -⟩ := hM.ino H13.out.2; rw [e1, e2] at hc; generalize E.names.length = n1 at *; generalize E.inos.length = n2 at *
    unfold maxLen at hm1 hm2; have hwr : IntKind.i64.wrap (((j + 1 : Nat) : Int) - 1) = (j : Int) := by rw [show ((j + 1 : Nat) : Int) - 1 = j by omega]; exact IntWalk.i64_in _ (by omega)
    dsimp only at hn1
    clear ho hM e1 e2
    by_cases hk : m.node.kind = 2
    · have hkb : (m.node.kind == 2) = true := beq_iff_eq.2 hk
      have HK := Lib.hid hk; rw [hk] at hi0; clear hk
      go_wp2_with fail
      go_quiet (fail)
      go_wp2_with fail
      go_ret
      exact ⟨by rw [HD.out, decide_eq_true HK.out]; rfl, HO.out.drewN _⟩
    have hkb : (m.node.kind == 2) = false := beq_eq_false_iff_ne.2 hk
    have HK := Lib.hid hk; clear hk
    go_wp2_with fail
    go_quiet (fail)
    go_wp2_with fail
    go_ret
    exact ⟨by rw [HD.out, decide_eq_false HK.out]; rfl, HO.out.drewN _⟩
end
section
open Go.RowKit Go.Op Go.Maps
variable {A : RArg}
def rtree (E : PDisk) : List Node := E.names.filterMap fun x => (E.inode x.2).map fun n => { n.node with path := x.1 }
theorem rtree_map {E : PDisk} (hN : ∀ x ∈ E.names, ∃ m, E.inode x.2 = some m) : rtree E = E.names.map (nodeOf E) := by
  refine filterMap_some _ _ _ fun x hx => ?_
  obtain ⟨m, h1⟩ := hN x hx; unfold nodeOf; rw [h1]
  rfl
theorem inode_get {E : PDisk} {k : Nat} {m : Ino} (h : E.inode k = some m) : ∃ j, k = j + 1 ∧ E.inos[j]? = some m := by
  unfold PDisk.inode at h
  split at h
  · cases h
  rename_i h0
  exact ⟨k - 1, by omega, h⟩
theorem own_ne {w : World} {base e sz n : Nat} {v : Value} {xs : List Value} (h : w.ownsRow base e sz v n xs) {g : Nat} {t : TypeId} {cs : Array Value} (hB : Blk w g t cs) (ht : t ≠ e) : some g ≠ v.ownBlock := fun e2 => by
  obtain ⟨cs2, h2⟩ := own_blks h g (by rw [← e2]; simp); exact hB.ne_ h2 ht rfl
set_option maxRecDepth 100000 in
set_option maxHeartbeats 8000000 in
theorem r7tree_any (p : Nat) (G : RGeo) (E : PDisk) (w : World) (h : RefM A w p G E) (hN : ∀ x ∈ E.names, ∃ m, E.inode x.2 = some m) (hl : E.names.length ≤ 1000000) :
    Calls Tryz.prog 33 #[.pointer (some ⟨p, 0, none⟩)] w fun e w' => ∃ v, e = .returned v ∧ w'.ownsRow w.heap.size 30 4 v (rtree E).length (cellsOf (rtree E)) ∧ Off [] w w' := by
  obtain ⟨i0, hi0, hz0, hz1, hz2⟩ := info_parts infoNode; have H := Lib.hid h; have HR := Lib.hid (rtree_map hN); obtain ⟨pl, cap, hv, hcap, hcm, -⟩ := own_at h.names; have HV := Lib.hid hv; obtain ⟨n, hn⟩ : ∃ n, E.names.length = n := ⟨_, rfl⟩
  have HN := Lib.hid hn; have HI := Lib.hid hN; rw [hn] at hcap hl; rw [rtree_map hN, List.length_map, hn]; unfold maxLen at hcm; clear h hv hn hN
  go_enter Tryz.func33, Tryz.ntmps33
  go_wp2_with fail
  go_loopw [3, 4] (fun v x wr => ∃ i : Nat, x = .int .i64 i ∧ i ≤ n ∧ wr.ownsRow w.heap.size 30 4 v i (cellsOf ((E.names.map (nodeOf E)).take i)) ∧ Off [] w wr) (fun _ x _ => n - (intOf x).toNat)
  case atStart => exact ⟨0, rfl, by omega, ⟨rfl, .inl ⟨rfl, rfl⟩⟩, Off.refl _ _⟩
  case round =>
    obtain ⟨i, rfl, hi, hown, ho⟩ := hrel; have HO := Lib.hid ho; have HOWN := Lib.hid hown; have hM := H.out.off_nil ho; have hc := hM.blk.cell; unfold refCells at hc; rw [HV.out, HN.out] at hc
    by_cases hlt : i < n
    · obtain ⟨x, hx⟩ : ∃ x, E.names[i]? = some x := ⟨_, List.getElem?_eq_getElem (by rw [HN.out]; exact hlt)⟩
      obtain ⟨m, hm⟩ := HI.out x (List.mem_of_getElem? hx); obtain ⟨j, hj, hm2⟩ := inode_get hm; obtain ⟨g1, c1, e1, hl1, hc1, hm1, hg1, ⟨csn, hBg1⟩, hn0, hn1⟩ := hM.ent hx; have hBp := hM.blk; obtain ⟨g2, c2, e2, hl2, hc2, hm3, hg2, -, k0, k1, k2, k3, k4⟩ := hM.ino hm2; rw [HV.out, HN.out] at e1; injection e1 with e1 _ e3
      subst e1; subst e3; rw [e2] at hc; generalize E.inos.length = n2 at *; unfold maxLen at hm3; rw [hj] at hn1; have hwj : IntKind.i64.wrap (j : Int) = (j : Int) := IntWalk.i64_in _ (by omega)
      have hlp := hM.blk.lt; have hwr : IntKind.i64.wrap (((j + 1 : Nat) : Int) - 1) = (j : Int) := by rw [show ((j + 1 : Nat) : Int) - 1 = j by omega]; exact IntWalk.i64_in _ (by omega)
      have hTK : (E.names.map (nodeOf E)).take (i + 1) = (E.names.map (nodeOf E)).take i ++ [⟨x.1, m.node.kind, m.node.data, m.node.mode⟩] := by
        have : (E.names.map (nodeOf E))[i]? = some ⟨x.1, m.node.kind, m.node.data, m.node.mode⟩ := by
          rw [List.getElem?_map, hx]
          show some (nodeOf E x) = _
          unfold nodeOf; rw [hm]
        rw [List.take_add_one, this]; rfl
      have HTK := Lib.hid hTK; have hilt : (i : Int) < n := by omega
      generalize x.1 = path at *
      rw [HN.out] at hl1 hc1; clear hx hm hm2 hj e2 hTK hM ho hown
      go_wp2_with fail
      go_region
      go_wp2_with fail
      refine code_gen (fun W => Blk W wr.heap.size 125 #[.int .i64 m.node.kind, .int .i64 m.node.mode, .int .i64 m.time, .string m.node.data, .bool m.dirty] ∧ Off [] wr W) ⟨(Blk.new wr _ _).drew, ((Off.refl _ _).alloc _).drew⟩ ?_
      rintro W ⟨hBn, hoW⟩; have hcn := hBn.cell; have hln := hBn.lt; have hpW := Nat.lt_of_lt_of_le hlp hoW.size; have hgW := Nat.lt_of_lt_of_le hg1 hoW.size; obtain ⟨pu, cu, rfl, -, -, -⟩ := own_at HOWN.out; have hbW : w.heap.size ≤ W.heap.size := Nat.le_trans HO.out.size hoW.size
      have hs0 : wr.cell? ⟨p, 0, none⟩ = some (.slice (some ⟨g1, 0, none⟩) n cap) := hc 0
      have SK := Lib.hid (show ∀ W', Off [] W W' → W'.cell? ⟨p, 0, none⟩ = some (.slice (some ⟨g1, 0, none⟩) n cap) ∧ W'.cell? ⟨g1, i * 2, none⟩ = some (.string path) ∧ (∀ i, W'.cell? ⟨wr.heap.size, i, none⟩ = (#[.int .i64 m.node.kind, .int .i64 m.node.mode, .int .i64 m.time, .string m.node.data, .bool m.dirty] : Array Value)[i]?) from fun W' h =>
        ⟨((hoW.trans_nil h).cell (p := ⟨p, 0, none⟩) hlp (by simp)).trans hs0, ((hoW.trans_nil h).cell (p := ⟨g1, i * 2, none⟩) hg1 (by simp)).trans hn0, (hBn.off h (by simp)).cell⟩)
      have hown6 := (own_offk (k := []) HOWN.out (hoW.trans_nil ((Off.refl [] W).drew.alloc (.cells #[.string path, .int .i64 m.node.kind, .string m.node.data, .int .i64 m.node.mode] 30))) (by simp))
      have SG := Lib.hid (show ∀ w7, (W.drew.alloc (.cells #[.string path, .int .i64 m.node.kind, .string m.node.data, .int .i64 m.node.mode] 30)).grownBy w7 (Value.slice pu i cu).ownBlock → w7.cell? ⟨p, 0, none⟩ = some (.slice (some ⟨g1, 0, none⟩) n cap) ∧ w7.cell? ⟨g1, i * 2, none⟩ = some (.string path) ∧ (∀ i, w7.cell? ⟨wr.heap.size, i, none⟩ = (#[.int .i64 m.node.kind, .int .i64 m.node.mode, .int .i64 m.time, .string m.node.data, .bool m.dirty] : Array Value)[i]?) from fun w7 hg => by
        have hoA := (Off.refl [] W).drew.alloc (.cells #[.string path, .int .i64 m.node.kind, .string m.node.data, .int .i64 m.node.mode] 30); have a1 := hBp.off (hoW.trans_nil hoA) (by simp); have a2 := hBg1.off (hoW.trans_nil hoA) (by simp); have a3 := hBn.off hoA (by simp); obtain ⟨b1, b2, -⟩ := SK.out _ hoA
        exact ⟨((a1.grown hg (own_ne hown6 a1 (by decide))).cell 0).trans ((a1.cell 0).symm.trans b1), ((a2.grown hg (own_ne hown6 a2 (by decide))).cell _).trans ((a2.cell _).symm.trans b2), (a3.grown hg (own_ne hown6 a3 (by decide))).cell⟩)
      have HW6 := Lib.hid hown6; have HBW := Lib.hid hbW; have HOW := Lib.hid hoW; clear hc k0 k1 k2 k3 k4 hn0 hn1 hBn hoW hlp hg1 hg2 hown6 hbW hs0 hBp hBg1 hcn
      go_region_held_law (fun w' => w'.cell? ⟨p, 0, none⟩ = some (.slice (some ⟨g1, 0, none⟩) n cap) ∧ w'.cell? ⟨g1, i * 2, none⟩ = some (.string path) ∧ (∀ i, w'.cell? ⟨wr.heap.size, i, none⟩ = (#[.int .i64 m.node.kind, .int .i64 m.node.mode, .int .i64 m.time, .string m.node.data, .bool m.dirty] : Array Value)[i]?)) (first | assumption | exact SK.out _ (Off.refl [] W).drew | exact SK.out _ ((Off.refl [] W).drew.alloc _)) ((refine step_append_lies _ (by rfl) _ _ _ (by rfl) w.heap.size 30 i0 node0.val 4 48 Tryz.underlying31 hi0 hz0 hz1 hz2 rfl (by decide) _ i _ (by rfl) HW6.out ⟨W.heap.size, 0, none⟩ 1 1 [_, _, _, _] (by rfl) (by rfl) (nd_four_at (Blk.new W.drew _ _)) (by simp [Value.oneCell']) (by omega) (by unfold maxLen; omega) (by omega) (by have := HBW.out; simp; omega) (W.heap.size + 1) (by simp) ?_; intro gg cap7 w7 hown7 hgrow7 hat7 hlt7; have hS7 := SG.out _ hgrow7))
      go_wp2_with fail
      all_goals refine ⟨⟨i + 1, by congr 1, by omega, ?_, ?_⟩, by simp only [intOf]; omega⟩
      all_goals first
        | (rw [HTK.out, cellsOf_append]; assumption)
        | exact own_grown (HO.out.trans_nil (HOW.out.trans_nil ((Off.refl [] W).drew.alloc _))) HW6.out (by assumption)
    obtain rfl : i = n := by omega
    clear hown ho hM
    go_wp2_with fail
    go_ret
    refine ⟨_, rfl, ?_, HO.out⟩
    have := HOWN.out; rw [List.take_of_length_le (by rw [List.length_map, HN.out]; exact Nat.le_refl _)] at this; exact this
end
section
open Go.RowKit Go.Op Go.Maps
variable {A : RArg}
theorem str_ne7 {a b : ByteArray} (h : a ≠ b) : (a.toList == b.toList) = false := by
  rw [toList_str, toList_str]; exact beq_eq_false_iff_ne.2 (fun e => h (str_inj e))
theorem infoEnt : (Tryz.prog.info? 127).map (fun i => (i.zero, i.size, i.bytes)) = some (some (.agg #[.string ⟨#[]⟩, .int .i64 0]), 2, 24) := by kernel_rfl
theorem infoIno : (Tryz.prog.info? 125).map (fun i => (i.zero, i.size, i.bytes)) = some (some (.agg #[.int .i64 0, .int .i64 0, .int .i64 0, .string ⟨#[]⟩, .bool false]), 5, 48) := by kernel_rfl
theorem infoEnts : (Tryz.prog.info? 64).map (fun i => (i.zero, i.size, i.bytes)) = some (some (.slice none 0 0), 1, 24) := by kernel_rfl
theorem entCells_snoc (l : NameL) (x : ByteArray × Nat) : entCells (l ++ [x]) = entCells l ++ [.string x.1, .int .i64 x.2] := by unfold entCells; simp
theorem delN_take {l : NameL} {p : ByteArray} {i : Nat} {x : ByteArray × Nat} (h : l[i]? = some x) : delN (l.take (i + 1)) p = delN (l.take i) p ++ (if x.1 = p then [] else [x]) := by
  unfold delN; rw [List.take_add_one, h, List.filter_append]
  congr 1
  by_cases e : x.1 = p
  · rw [if_pos e]; simp [e]
  rw [if_neg e]; simp [e]
set_option maxRecDepth 100000 in
set_option maxHeartbeats 8000000 in
theorem r7without_any (p : Nat) (G : RGeo) (E : PDisk) (path : ByteArray) (w : World) (h : RefM A w p G E) (hl : E.names.length ≤ 1000000) :
    Calls Tryz.prog 106 #[.pointer (some ⟨p, 0, none⟩), .string path] w fun e w' => ∃ v, e = .returned v ∧ w'.ownsRow w.heap.size 127 2 v (delN E.names path).length (entCells (delN E.names path)) ∧ Off [] w w' := by
  obtain ⟨i0, hi0, hz0, hz1, hz2⟩ := info_parts infoEnt; have H := Lib.hid h; obtain ⟨pl, cap, hv, hcap, hcm, -⟩ := own_at h.names; have HV := Lib.hid hv; obtain ⟨n, hn⟩ : ∃ n, E.names.length = n := ⟨_, rfl⟩
  have HN := Lib.hid hn; rw [hn] at hcap hl; unfold maxLen at hcm; clear h hv hn
  go_enter Tryz.func106, Tryz.ntmps106
  go_wp2_with fail
  go_loopw [5, 6] (fun v x wr => ∃ i : Nat, x = .int .i64 i ∧ i ≤ n ∧ (delN (E.names.take i) path).length ≤ i ∧ wr.ownsRow w.heap.size 127 2 v (delN (E.names.take i) path).length (entCells (delN (E.names.take i) path)) ∧ Off [] w wr) (fun _ x _ => n - (intOf x).toNat)
  case atStart => exact ⟨0, rfl, by omega, by simp [delN], ⟨rfl, .inl ⟨rfl, rfl⟩⟩, Off.refl _ _⟩
  case round =>
    obtain ⟨i, rfl, hi, hdl, hown, ho⟩ := hrel; have HO := Lib.hid ho; have HOWN := Lib.hid hown; have hM := H.out.off_nil ho; have hc := hM.blk.cell; unfold refCells at hc; rw [HV.out, HN.out] at hc
    by_cases hlt : i < n
    · obtain ⟨x, hx⟩ : ∃ x, E.names[i]? = some x := ⟨_, List.getElem?_eq_getElem (by rw [HN.out]; exact hlt)⟩
      obtain ⟨g1, c1, e1, hl1, hc1, hm1, hg1, -, hn0, hn1⟩ := hM.ent hx; rw [HV.out, HN.out] at e1; injection e1 with e1 _ e3
      subst e1; subst e3; have HDT := Lib.hid (delN_take (p := path) hx); have hilt : (i : Int) < n := by omega
      rw [HN.out] at hl1 hc1; obtain ⟨nm, k⟩ := x; dsimp only at hn0 hn1; have HSZ := Lib.hid (show w.heap.size ≤ wr.heap.size from ho.size)
      by_cases e : nm = path
      · have he : (nm.toList == path.toList) = true := by rw [e]; simp
        have HE := Lib.hid (show delN (E.names.take (i + 1)) path = delN (E.names.take i) path by rw [HDT.out, if_pos e, List.append_nil]); clear e hx hM ho hown
        go_wp2_with fail
        refine ⟨⟨i + 1, by congr 1, by omega, by rw [HE.out]; omega, ?_, HO.out⟩, by simp only [intOf]; omega⟩
        rw [HE.out]; exact HOWN.out
      have he : (nm.toList == path.toList) = false := str_ne7 e
      have HE := Lib.hid (show delN (E.names.take (i + 1)) path = delN (E.names.take i) path ++ [(nm, k)] by rw [HDT.out, if_neg e]); have hnB := hown.alloc (.cells #[.string nm, .int .i64 k] 127); generalize delN (E.names.take i) path = L at *; obtain ⟨ln, hln⟩ : ∃ ln, L.length = ln := ⟨_, rfl⟩
      have HLN := Lib.hid hln; rw [hln] at hnB hdl; clear e hx hM ho hown hln
      go_wp2_with (at_builtin; refine wpList_append_own _ rfl _ _ 64 rfl w.heap.size 127 i0 _ 2 24 Tryz.underlying64 hi0 hz0 hz1 hz2 rfl (by decide) _ _ _ rfl hnB ⟨wr.heap.size, 0, none⟩ 1 1 [_, _] rfl rfl (cell_two_at (Blk.new wr _ _)) (by simp [Value.oneCell']) (by unfold maxLen; omega) (by omega) (by have := HSZ.out; simp; omega) ?_; intro v' W6 hown' hgrow _)
      refine ⟨⟨i + 1, by congr 1, by omega, by rw [HE.out, List.length_append, HLN.out]; simp; omega, ?_, ?_⟩, by simp only [intOf]; omega⟩
      · rw [HE.out, entCells_snoc, List.length_append, HLN.out]
        exact hown'
      exact own_grown ((HO.out.alloc _)) hnB hgrow
    obtain rfl : i = n := by omega
    clear hown ho hM
    go_wp2_with fail
    go_ret
    refine ⟨_, rfl, ?_, HO.out⟩
    have := HOWN.out; rw [List.take_of_length_le (by rw [HN.out]; exact Nat.le_refl _)] at this; exact this
end
section
open Go.RowKit Go.Op Go.Maps
variable {A : RArg}
def posN (s : NameL) (p : ByteArray) : Nat → Nat
  | 0 => 0
  | k + 1 => match s[k]? with
    | none => 0
    | some y => if 0 < order (str y.1) (str p) then posN s p k else k + 1
def insN (s : NameL) (x : ByteArray × Nat) : NameL := s.take (posN s x.1 s.length) ++ x :: s.drop (posN s x.1 s.length)
def sortI (l : NameL) : NameL := l.foldl insN []
theorem posN_le (s : NameL) (p : ByteArray) : ∀ k, posN s p k ≤ k
  | 0 => Nat.le_refl _
  | k + 1 => by
    unfold posN
    split
    · omega
    split
    · have := posN_le s p k; omega
    exact Nat.le_refl _
theorem insN_len (s : NameL) (x : ByteArray × Nat) : (insN s x).length = s.length + 1 := by
  unfold insN; have := posN_le s x.1 s.length; rw [List.length_append, List.length_cons, List.length_take, List.length_drop]; omega
theorem insN_mem {s : NameL} {x y : ByteArray × Nat} : y ∈ insN s x ↔ y = x ∨ y ∈ s := by
  have h : y ∈ s ↔ y ∈ s.take (posN s x.1 s.length) ∨ y ∈ s.drop (posN s x.1 s.length) := by rw [← List.mem_append, List.take_append_drop]
  unfold insN; rw [h, List.mem_append, List.mem_cons]
  constructor
  · rintro (h | h | h)
    · exact .inr (.inl h)
    · exact .inl h
    exact .inr (.inr h)
  rintro (h | h | h)
  · exact .inr (.inl h)
  · exact .inl h
  exact .inr (.inr h)
theorem fold_mem (y : ByteArray × Nat) : ∀ (l s : NameL), y ∈ l.foldl insN s ↔ y ∈ l ∨ y ∈ s
  | [], s => by simp
  | x :: l, s => by
    rw [List.foldl_cons, fold_mem y l, insN_mem, List.mem_cons]
    constructor
    · rintro (h | h | h)
      · exact .inl (.inr h)
      · exact .inl (.inl h)
      exact .inr h
    rintro ((h | h) | h)
    · exact .inr (.inl h)
    · exact .inl h
    exact .inr (.inr h)
theorem sortI_mem {l : NameL} {y : ByteArray × Nat} : y ∈ sortI l ↔ y ∈ l := by
  unfold sortI; rw [fold_mem]; simp
theorem fold_len : ∀ (l s : NameL), (l.foldl insN s).length = l.length + s.length
  | [], s => by simp
  | x :: l, s => by rw [List.foldl_cons, fold_len l, insN_len, List.length_cons]; omega
theorem sortI_len (l : NameL) : (sortI l).length = l.length := by unfold sortI; rw [fold_len]; rfl
theorem sortI_take {l : NameL} {i : Nat} {x : ByteArray × Nat} (h : l[i]? = some x) : sortI (l.take (i + 1)) = insN (sortI (l.take i)) x := by
  unfold sortI; rw [List.take_add_one, h, List.foldl_append]
  rfl
theorem own_set2 {W : World} {base sz e g m cap : Nat} {xs : List Value} (h : W.ownsRow base e sz (.slice (some ⟨g, 0, none⟩) m cap) m xs) (j : Nat) (u : Value) : (W.setCell ⟨g, j, none⟩ u).ownsRow base e sz (.slice (some ⟨g, 0, none⟩) m cap) m (xs.set j u) := by
  refine ⟨by rw [List.length_set]; exact h.1, ?_⟩
  rcases h.2 with ⟨h0, _⟩ | ⟨g', cap', cur, hv, hb, hh, hc, hmx, hs, ht⟩
  · cases h0
  injection hv with h1 h2 h3
  injection h1 with h1
  injection h1 with h1 _
  subst h1; subst h3; refine .inr ⟨g, cap, cur.setIfInBounds j u, rfl, hb, ?_, hc, hmx, by rw [Array.size_setIfInBounds]; exact hs, ?_⟩
  · exact Blk.set_ (w := W) (g := g) (t := e) (cs := cur) hh j u
  rw [Array.toList_setIfInBounds, List.take_set, ht]
theorem own_frozen2 {W : World} {base sz e g m cap : Nat} {xs : List Value} (h : W.ownsRow base e sz (.slice (some ⟨g, 0, none⟩) m cap) m xs) (j : Nat) : W.frozen? ⟨g, j, none⟩ = false := by
  rcases h.2 with ⟨h0, _⟩ | ⟨g', cap', cur, hv, hb, hh, _⟩
  · cases h0
  injection hv with h1 h2 h3
  injection h1 with h1
  injection h1 with h1 _
  subst h1; exact Blk.frozen (w := W) (g := g) (t := e) (cs := cur) hh j
theorem own_cell2 {W : World} {base sz e g m cap : Nat} {xs : List Value} (h : W.ownsRow base e sz (.slice (some ⟨g, 0, none⟩) m cap) m xs) {j : Nat} {u : Value} (hj : xs[j]? = some u) : W.cell? ⟨g, j, none⟩ = some u := by
  rcases h.2 with ⟨h0, _⟩ | ⟨g', cap', cur, hv, hb, hh, hc, hmx, hs, ht⟩
  · cases h0
  injection hv with h1 h2 h3
  injection h1 with h1
  injection h1 with h1 _
  subst h1; have hB : Blk W g e cur := hh
  rw [hB.cell]; rw [← ht, List.getElem?_take] at hj
  split at hj
  · simpa using hj
  cases hj
theorem ent_set : ∀ (l : NameL) (j : Nat) (x : ByteArray × Nat), j < l.length → ((entCells l).set (j * 2) (.string x.1)).set (j * 2 + 1) (.int .i64 x.2) = entCells (l.set j x)
  | [], j, x, h => absurd h (by simp)
  | y :: l, 0, x, _ => by unfold entCells; simp
  | y :: l, j + 1, x, h => by
    have ih := ent_set l j x (by simpa using h); unfold entCells at ih ⊢; rw [List.set_cons_succ, List.flatMap_cons, List.flatMap_cons, ← ih, show (j + 1) * 2 = j * 2 + 1 + 1 by omega]
    rfl
theorem gap_set (s : NameL) (j : Nat) (z y : ByteArray × Nat) (h : s[j]? = some y) : (s.take (j + 1) ++ z :: s.drop (j + 1)).set (j + 1) y = s.take j ++ y :: s.drop j := by
  have hj := (List.getElem?_eq_some_iff.1 h).1; have h1 : (s.take (j + 1)).length = j + 1 := by rw [List.length_take]; omega
  rw [List.set_append_right _ _ (by omega), h1, Nat.sub_self, List.set_cons_zero, List.take_add_one, h]; have h2 : s.drop j = y :: s.drop (j + 1) := by
    rw [List.drop_eq_getElem_cons hj]
    congr 1
    rw [List.getElem?_eq_getElem hj] at h; injection h
  rw [h2]; simp
theorem gap_end (s : NameL) (k : Nat) (z y : ByteArray × Nat) (h : k ≤ s.length) : (s.take k ++ z :: s.drop k).set k y = s.take k ++ y :: s.drop k := by
  have h1 : (s.take k).length = k := by rw [List.length_take]; omega
  rw [List.set_append_right _ _ (by omega), h1, Nat.sub_self, List.set_cons_zero]
theorem chg_end {W : World} {base gs i cps k kk : Nat} {s : NameL} {nm : ByteArray} {z : ByteArray × Nat} (hW : W.ownsRow base 127 2 (.slice (some ⟨gs, 0, none⟩) (i + 1) cps) (i + 1) (entCells (s.take k ++ z :: s.drop k))) (hs : s.length = i) (hk : k ≤ i) (hp : posN s nm i = k) :
    ((W.setCell ⟨gs, k * 2, none⟩ (.string nm)).setCell ⟨gs, k * 2 + 1, none⟩ (.int .i64 kk)).ownsRow base 127 2 (.slice (some ⟨gs, 0, none⟩) (i + 1) cps) (i + 1) (entCells (insN s (nm, kk))) := by
  have h := own_set2 (own_set2 hW (k * 2) (.string nm)) (k * 2 + 1) (.int .i64 kk); rw [ent_set (s.take k ++ z :: s.drop k) k (nm, kk) (by rw [List.length_append, List.length_cons, List.length_take]; omega), gap_end s k z (nm, kk) (by omega)] at h; unfold insN; dsimp only; rw [hs, hp]; exact h
theorem chg_step {W : World} {base gs i cps j : Nat} {s : NameL} {y z : ByteArray × Nat} (hW : W.ownsRow base 127 2 (.slice (some ⟨gs, 0, none⟩) (i + 1) cps) (i + 1) (entCells (s.take (j + 1) ++ z :: s.drop (j + 1)))) (hs : s.length = i) (hj : s[j]? = some y) :
    ((W.setCell ⟨gs, (j + 1) * 2, none⟩ (.string y.1)).setCell ⟨gs, (j + 1) * 2 + 1, none⟩ (.int .i64 y.2)).ownsRow base 127 2 (.slice (some ⟨gs, 0, none⟩) (i + 1) cps) (i + 1) (entCells (s.take j ++ y :: s.drop j)) := by
  have hjl := (List.getElem?_eq_some_iff.1 hj).1; have h := own_set2 (own_set2 hW ((j + 1) * 2) (.string y.1)) ((j + 1) * 2 + 1) (.int .i64 y.2); rw [ent_set (s.take (j + 1) ++ z :: s.drop (j + 1)) (j + 1) y (by rw [List.length_append, List.length_cons, List.length_take]; omega), gap_set s j z y hj] at h; exact h
theorem posN_zero {s : NameL} {p : ByteArray} : posN s p 0 = 0 := rfl
theorem posN_down {s : NameL} {p : ByteArray} {j : Nat} {y : ByteArray × Nat} (h : s[j]? = some y) (hc : 0 < order (str y.1) (str p)) : posN s p (j + 1) = posN s p j := by
  rw [posN, h]; dsimp only; rw [if_pos hc]
theorem posN_stop {s : NameL} {p : ByteArray} {j : Nat} {y : ByteArray × Nat} (h : s[j]? = some y) (hc : ¬ 0 < order (str y.1) (str p)) : posN s p (j + 1) = j + 1 := by
  rw [posN, h]; dsimp only; rw [if_neg hc]
def Only (w : World) (k : List Nat) (ts : List TypeId) : Prop := ∀ b ∈ k, ∃ t ∈ ts, ∃ cs, Blk w b t cs
theorem Only.row {w w' : World} {k : List Nat} {ts : List TypeId} (hO : Only w k ts) (ho : Off k w w') {base e sz n : Nat} {v : Value} {xs : List Value} (h : w.ownsRow base e sz v n xs) (he : e ∉ ts) : w'.ownsRow base e sz v n xs :=
  own_offk h ho fun b hb hm => by
    obtain ⟨cs, hB⟩ := own_blks h b hb; obtain ⟨t, ht, cs2, hB2⟩ := hO b hm; exact hB.ne_ hB2 (fun e2 => he (e2 ▸ ht)) rfl
theorem Only.wea {w w' : World} {k : List Nat} {ts : List TypeId} (hO : Only w k ts) (ho : Off k w w') {p : Nat} {G : RGeo} {E : PDisk} (h : RefM A w p G E) (he : ∀ t ∈ ts, t ≠ 23 ∧ t ≠ 104 ∧ t ≠ 30) :
    WeatherAt w' (.slice none 0 0) (.slice none 0 0) G.fb [] [] ∧ ∀ g ∈ G.fb, ∃ t cs, Blk w' g t cs ∧ Weath t := by
  have hf : ∀ b ∈ G.fb, b ∉ k := fun b hb hm => by
    obtain ⟨t, cs, hB, hW⟩ := h.fbl b hb; obtain ⟨t2, ht, cs2, hB2⟩ := hO b hm; exact hB.ne_ hB2 (hW.ne (he t2 ht)) rfl
  refine ⟨h.fates.off ho hf, fun g hg => ?_⟩
  obtain ⟨t, cs, hB, hW⟩ := h.fbl g hg; exact ⟨t, cs, hB.off ho (hf g hg), hW⟩
theorem own_made7 {w : World} {base e sz n : Nat} {v : Value} {xs : List Value} (h : w.ownsRow base e sz v n xs) : ∀ b ∈ v.ownBlock.toList, base ≤ b := by
  rcases h.2 with ⟨rfl, _⟩ | ⟨g, cap, cur, rfl, hb, _⟩
  · intro b hb; simp [Value.ownBlock] at hb
  intro b hm
  simp [Value.ownBlock] at hm
  omega
theorem chg_fin {w wr W6 : World} {p gg cap' nl : Nat} {G : RGeo} {E : PDisk} {L : NameL} {v : Value} (hM : RefM A w p G E) (ho : Off [] w wr) (hv : wr.ownsRow w.heap.size 127 2 v L.length (entCells L)) (hnl : E.later.length = nl)
    (hown : W6.ownsRow 0 64 1 (.slice (some ⟨gg, 0, none⟩) (nl + 1) cap') (nl + 1) (G.ls ++ [v])) (hg : ((wr.setCell ⟨p, 0, none⟩ v).alloc (.cells #[v] 64)).grownBy W6 G.lv.ownBlock) (hat : G.lv.ownBlock = some gg ∨ gg = wr.heap.size + 1) :
    RefTo A w p G.blocks (W6.setCell ⟨p, 2, none⟩ (.slice (some ⟨gg, 0, none⟩) (nl + 1) cap')) { E with names := L, later := E.later ++ [L] } := by
  have hMr := hM.off_nil ho; have hpl : some p ≠ G.lv.ownBlock := own_ne hMr.later hMr.blk (by decide)
  have hX : Off (p :: G.lv.ownBlock.toList) wr (W6.setCell ⟨p, 2, none⟩ (.slice (some ⟨gg, 0, none⟩) (nl + 1) cap')) :=
    ((((Off.refl (p :: G.lv.ownBlock.toList) wr).setCell (p := ⟨p, 0, none⟩) (.inr (List.mem_cons_self ..)) _).alloc _).grown hg (fun k hk => .inr (List.mem_cons_of_mem _ (by rw [hk]; simp)))).setCell (p := ⟨p, 2, none⟩) (.inr (List.mem_cons_self ..)) _
  have hO : Only wr (p :: G.lv.ownBlock.toList) [69, 64] := fun b hb => by
    rcases List.mem_cons.1 hb with rfl | hb
    · exact ⟨_, by simp, _, hMr.blk⟩
    obtain ⟨cs, hB⟩ := own_blks hMr.later b hb; exact ⟨_, by simp, _, hB⟩
  have hvl : EntAt (W6.setCell ⟨p, 2, none⟩ (.slice (some ⟨gg, 0, none⟩) (nl + 1) cap')) v L := hO.row hX (own_base hv (Nat.zero_le _)) (by decide)
  have hsz : w.heap.size ≤ wr.heap.size := ho.size
  refine ⟨{ G with nv := v, lv := .slice (some ⟨gg, 0, none⟩) (nl + 1) cap', ls := G.ls ++ [v] }, ⟨?_, hvl, hO.row hX hMr.safe (by decide), ?_, fun i u l h1 h2 => ?_, hO.row hX hMr.inos (by decide), hO.row hX hMr.trace (by decide), (hO.wea hX hMr (by decide)).1, (hO.wea hX hMr (by decide)).2⟩, ?_, fun b hb => ?_⟩
  · have := (((hMr.blk.set_ 0 v).alloc (.cells #[v] 64)).grown hg hpl).set_ 2 (.slice (some ⟨gg, 0, none⟩) (nl + 1) cap')
    unfold refCells at this ⊢
    simpa using this
  · dsimp only
    rw [List.length_append, hnl]; refine own_offk (k := [p]) hown ((Off.refl [p] W6).setCell (.inr (by simp)) _) (fun b hb hm => ?_); simp [Value.ownBlock] at hb hm; subst hb; subst hm
    rcases hat with h | h
    · exact hpl h.symm
    have := hMr.blk.lt; omega
  · dsimp only at h1 h2
    by_cases hi : i < E.later.length
    · rw [List.getElem?_append_left (by rw [hM.lsl]; exact hi)] at h1
      rw [List.getElem?_append_left hi] at h2; exact hO.row hX (hMr.laters i u l h1 h2) (by decide)
    have hil : i = E.later.length := by
      have := (List.getElem?_eq_some_iff.1 h2).1; rw [List.length_append] at this; simp at this; omega
    subst hil; rw [← hM.lsl, List.getElem?_append_right (Nat.le_refl _), Nat.sub_self] at h1; rw [List.getElem?_append_right (Nat.le_refl _), Nat.sub_self] at h2; simp at h1 h2; subst h1; subst h2; exact hvl
  · refine ((ho.mono (l' := p :: G.blocks) (fun x _ h => by cases h)).trans hX (fun x _ h => ?_))
    rcases List.mem_cons.1 h with rfl | h
    · exact List.mem_cons_self ..
    exact List.mem_cons_of_mem _ (mem_blocks.2 (.inr (.inr (.inl h))))
  rcases mem_blocks.1 hb with hb | hb | hb | ⟨u, hu, hb2⟩ | hb | hb | hb
  · exact .inr (own_made7 hv b hb)
  · exact .inl (mem_blocks.2 (.inr (.inl hb)))
  · simp [Value.ownBlock] at hb
    subst hb
    rcases hat with h | h
    · exact .inl (mem_blocks.2 (.inr (.inr (.inl (by rw [h]; simp)))))
    exact .inr (by omega)
  · rcases List.mem_append.1 hu with hu | hu
    · exact .inl (mem_blocks.2 (.inr (.inr (.inr (.inl ⟨u, hu, hb2⟩)))))
    simp at hu
    rw [hu] at hb2; exact .inr (own_made7 hv b hb2)
  · exact .inl (mem_blocks.2 (.inr (.inr (.inr (.inr (.inl hb))))))
  · exact .inl (mem_blocks.2 (.inr (.inr (.inr (.inr (.inr (.inl hb)))))))
  exact .inl (mem_blocks.2 (.inr (.inr (.inr (.inr (.inr (.inr hb)))))))
set_option maxRecDepth 100000 in
set_option maxHeartbeats 8000000 in
theorem r7changed_any (p : Nat) (G : RGeo) (E : PDisk) (lv : Value) (l : NameL) (w : World) (h : RefM A w p G E) (hL : EntAt w lv l) (hl : l.length ≤ 1000000) (hs : ∀ x ∈ l, x.1.size ≤ 1048576) (hll : E.later.length ≤ 1000000000) :
    Calls Tryz.prog 105 #[.pointer (some ⟨p, 0, none⟩), lv] w fun e w' => e = .returned (.tuple #[]) ∧ RefTo A w p G.blocks w' { E with names := sortI l, later := E.later ++ [sortI l] } := by
  obtain ⟨i0, hi0, hz0, hz1, hz2⟩ := info_parts infoEnt; obtain ⟨i1, hi1, hy0, hy1, hy2⟩ := info_parts infoEnts; have H := Lib.hid h; have HS := Lib.hid hs; obtain ⟨pl, cap, rfl, hcap, hcm, hrow⟩ := own_at hL; obtain ⟨n, hn⟩ : ∃ n, l.length = n := ⟨_, rfl⟩
  have HN := Lib.hid hn; rw [hn] at hcap hl hrow; unfold maxLen at hcm; have HROW := Lib.hid hrow; rw [hn]; clear h hL hn hrow hs
  go_enter Tryz.func105, Tryz.ntmps105
  go_wp2_with fail
  go_loopw [4, 5, 6] (fun v x y wr => ∃ i : Nat, x = .int .i64 i ∧ i ≤ n ∧ wr.ownsRow w.heap.size 127 2 v i (entCells (sortI (l.take i))) ∧ Off [] w wr) (fun _ x _ _ => n - (intOf x).toNat)
  case atStart => exact ⟨0, rfl, by omega, ⟨rfl, .inl ⟨rfl, rfl⟩⟩, Off.refl _ _⟩
  case round =>
    obtain ⟨i, rfl, hi, hown, ho⟩ := hrel; obtain ⟨pv, cv, rfl, -, -, -⟩ := own_at hown; have HO := Lib.hid ho; have HOWN := Lib.hid hown
    by_cases hlt : i < n
    · obtain ⟨x, hx⟩ : ∃ x, l[i]? = some x := ⟨_, List.getElem?_eq_getElem (by rw [HN.out]; exact hlt)⟩
      obtain ⟨g1, rfl, -, hg1, -, hcell⟩ := HROW.out (by omega); have hx0 := (ho.cell (p := ⟨g1, i * 2, none⟩) hg1 (by simp)).trans (hcell _ _ (ent_get hx).1); have hx1 := (ho.cell (p := ⟨g1, i * 2 + 1, none⟩) hg1 (by simp)).trans (hcell _ _ (ent_get hx).2); have HX01 := Lib.hid (And.intro (hcell _ _ (ent_get hx).1) (hcell _ _ (ent_get hx).2)); have HST := Lib.hid (sortI_take hx)
      have HXS := Lib.hid (HS.out x (List.mem_of_getElem? hx)); obtain ⟨nm, kk⟩ := x; dsimp only at hx0 hx1 HX01; have HSZ := Lib.hid (show w.heap.size ≤ wr.heap.size from ho.size); have hilt : (i : Int) < n := by omega
      have hnB := hown.alloc (.cells #[.string nm, .int .i64 kk] 127); have HSL := Lib.hid (show (sortI (l.take i)).length = i by rw [sortI_len, List.length_take, HN.out]; omega); have HSM := Lib.hid (show ∀ y ∈ sortI (l.take i), y.1.size ≤ 1048576 from fun y hy => HS.out y (List.mem_of_mem_take (sortI_mem.1 hy))); generalize sortI (l.take i) = s at *; clear ho hown hx hcell HROW
      go_wp2_with (at_builtin; refine wpList_append_own _ rfl _ _ 64 rfl w.heap.size 127 i0 _ 2 24 Tryz.underlying64 hi0 hz0 hz1 hz2 rfl (by decide) _ _ _ rfl hnB ⟨wr.heap.size, 0, none⟩ 1 1 [_, _] rfl rfl (cell_two_at (Blk.new wr _ _)) (by simp [Value.oneCell']) (by unfold maxLen; omega) (by omega) (by have := HSZ.out; simp; omega) ?_; intro v' W6 hown' hgrow _; obtain ⟨ps, cps, rfl, hcp1, hcp2, hps⟩ := own_at hown'; obtain ⟨gs, rfl, hgs, hgl, -, -⟩ := hps (by omega))
      have hO6 := own_grown (HO.out.alloc _) hnB hgrow; have HO6 := Lib.hid hO6; have HW6 := Lib.hid hown'; unfold maxLen at hcp2; clear hnB hgrow hown' hps hgl hx0 hx1
      go_loopw [6] (fun y wq => ∃ k : Nat, y = .int .i64 k ∧ k ≤ i ∧ posN s nm i = posN s nm k ∧ ∃ z, wq.ownsRow w.heap.size 127 2 (.slice (some ⟨gs, 0, none⟩) (i + 1) cps) (i + 1) (entCells (s.take k ++ z :: s.drop k)) ∧ Off [] w wq) (fun y _ => (intOf y).toNat)
      case atStart =>
        refine ⟨i, rfl, Nat.le_refl _, rfl, (nm, kk), ?_, HO6.out⟩
        rw [List.take_of_length_le (by rw [HSL.out]; exact Nat.le_refl _), List.drop_of_length_le (by rw [HSL.out]; exact Nat.le_refl _), entCells_snoc]; exact HW6.out
      case round =>
        obtain ⟨k, rfl, hk, hpos, z, hownq, hoq⟩ := hrel; have HOQ := Lib.hid hoq; have HWQ := Lib.hid hownq; have HPOS := Lib.hid hpos; clear hownq hpos
        rcases k with _ | j
        · clear hoq
          go_wp2_with fail
          go_quiet (fail)
          go_upto_region 9 with fail
          refine code_gen (fun W => W.ownsRow w.heap.size 127 2 (.slice (some ⟨gs, 0, none⟩) (i + 1) cps) (i + 1) (entCells (s.take (0) ++ z :: s.drop (0))) ∧ Off [] w W) ⟨own_offk (k := []) HWQ.out ((Off.refl _ _).drewN _) (by simp), HOQ.out.drewN _⟩ ?_
          rintro W ⟨hWW, hoW⟩; have HWW := Lib.hid hWW; have HOW := Lib.hid hoW; have a0 := (hoW.cell (p := ⟨g1, i * 2, none⟩) hg1 (by simp)).trans HX01.out.1; have a1 := (hoW.cell (p := ⟨g1, i * 2 + 1, none⟩) hg1 (by simp)).trans HX01.out.2; have hgz : (s.take (0) ++ z :: s.drop (0))[0]? = some z := by
            rw [List.getElem?_append_right (by rw [List.length_take]; omega), List.length_take, Nat.min_eq_left (by have := HSL.out; omega), Nat.sub_self]; rfl
          have b0 := own_cell2 hWW (ent_get hgz).1; have b1 := own_cell2 hWW (ent_get hgz).2; have f0 := own_frozen2 hWW; clear hWW hoW hgz
          go_wp2_with fail
          refine ⟨⟨i + 1, by congr 1, by omega, ?_, (HOW.out.setCell (.inl hgs) _).setCell (.inl hgs) _⟩, by simp only [intOf]; omega⟩
          rw [HST.out]; exact chg_end (k := 0) HWW.out HSL.out (by omega) (HPOS.out)
        obtain ⟨y, hy⟩ : ∃ y, s[j]? = some y := ⟨_, List.getElem?_eq_getElem (by rw [HSL.out]; omega)⟩
        have HY := Lib.hid hy; have HYS := Lib.hid (HSM.out y (List.mem_of_getElem? hy)); have HYG := Lib.hid (show (s.take (j + 1) ++ z :: s.drop (j + 1))[j]? = some y by rw [List.getElem?_append_left (by rw [List.length_take, HSL.out]; omega), List.getElem?_take, if_pos (by omega)]; exact hy); have hy0 := own_cell2 HWQ.out (ent_get HYG.out).1
        have hwj : IntKind.i64.wrap (j : Int) = (j : Int) := IntWalk.i64_in _ (by omega)
        have hwr : IntKind.i64.wrap (((j + 1 : Nat) : Int) - 1) = (j : Int) := by rw [show ((j + 1 : Nat) : Int) - 1 = j by omega]; exact hwj
        have a0 := (hoq.cell (p := ⟨g1, i * 2, none⟩) hg1 (by simp)).trans HX01.out.1; have hg1q := Nat.lt_of_lt_of_le hg1 hoq.size; have hgsq : gs < wr.heap.size := by
          obtain ⟨cs, hB⟩ := own_blks HWQ.out gs (by simp [Value.ownBlock]); exact hB.lt
        have hx := fun (x : World) (p : Addr) (hp : p.block < wr.heap.size) => ext_cell hp x
        have hjp : (0 : Int) < ((j + 1 : Nat) : Int) := by omega
        obtain ⟨c, hc⟩ : ∃ c, order (str y.1) (str nm) = c := ⟨_, rfl⟩
        have HC := Lib.hid hc; clear hy hc hoq
        by_cases hc0 : 0 < c
        · go_wp2_with fail
          refine wp_region_ext (by kernel_rfl) (by kernel_rfl) ?_
          repeat (go_big_quiet_step (first
            | (go_at_call 84; exact Calls.ext_of (rorder_v y.1 nm _ HYS.out HXS.out c HC.out))))
          refine wpQuiet_nil ?_
          rintro W2 ⟨x2, rfl⟩; have hoE := ext_off wr x2; clear hx a0 hy0; generalize ext wr x2 = W2 at *; have hW2 := own_offk (k := []) HWQ.out hoE (by simp); have HW2 := Lib.hid hW2; have HO2 := Lib.hid (HOQ.out.trans_nil hoE); have hgz : (s.take (j + 1) ++ z :: s.drop (j + 1))[j + 1]? = some z := by
            rw [List.getElem?_append_right (by rw [List.length_take]; omega), List.length_take, Nat.min_eq_left (by have := HSL.out; omega), Nat.sub_self]; rfl
          have b0 := own_cell2 hW2 (ent_get hgz).1; have b1 := own_cell2 hW2 (ent_get hgz).2; have d0 := own_cell2 hW2 (ent_get HYG.out).1; have d1 := own_cell2 hW2 (ent_get HYG.out).2; have f0 := own_frozen2 hW2; clear hW2 hoE hgz
          go_wp2_with fail
          refine ⟨⟨j, by congr 1, by omega, HPOS.out.trans (posN_down HY.out (by rw [HC.out]; exact hc0)), y, chg_step HW2.out HSL.out HY.out, (HO2.out.setCell (.inl hgs) _).setCell (.inl hgs) _⟩, by simp only [intOf]; omega⟩
        go_wp2_with fail
        refine wp_region_ext (by kernel_rfl) (by kernel_rfl) ?_
        repeat (go_big_quiet_step (first
          | (go_at_call 84; exact Calls.ext_of (rorder_v y.1 nm _ HYS.out HXS.out c HC.out))))
        refine wpQuiet_nil ?_
        rintro W2 ⟨x2, rfl⟩; have hoE := ext_off wr x2; clear hx a0 hy0; generalize ext wr x2 = W2 at *
        go_upto_region 9 with fail
        refine code_gen (fun W => W.ownsRow w.heap.size 127 2 (.slice (some ⟨gs, 0, none⟩) (i + 1) cps) (i + 1) (entCells (s.take (j + 1) ++ z :: s.drop (j + 1))) ∧ Off [] w W) ⟨own_offk (k := []) HWQ.out hoE (by simp), HOQ.out.trans_nil hoE⟩ ?_
        rintro W ⟨hWW, hoW⟩; have HWW := Lib.hid hWW; have HOW := Lib.hid hoW; have a0 := (hoW.cell (p := ⟨g1, i * 2, none⟩) hg1 (by simp)).trans HX01.out.1; have a1 := (hoW.cell (p := ⟨g1, i * 2 + 1, none⟩) hg1 (by simp)).trans HX01.out.2; have hgz : (s.take (j + 1) ++ z :: s.drop (j + 1))[j + 1]? = some z := by
          rw [List.getElem?_append_right (by rw [List.length_take]; omega), List.length_take, Nat.min_eq_left (by have := HSL.out; omega), Nat.sub_self]; rfl
        have b0 := own_cell2 hWW (ent_get hgz).1; have b1 := own_cell2 hWW (ent_get hgz).2; have f0 := own_frozen2 hWW; clear hWW hoW hgz
        go_wp2_with fail
        refine ⟨⟨i + 1, by congr 1, by omega, ?_, (HOW.out.setCell (.inl hgs) _).setCell (.inl hgs) _⟩, by simp only [intOf]; omega⟩
        rw [HST.out]; exact chg_end (k := j + 1) HWW.out HSL.out (by omega) (HPOS.out.trans (posN_stop HY.out (by rw [HC.out]; omega)))
    obtain rfl : n = i := by omega
    have hv : wr.ownsRow w.heap.size 127 2 (.slice pv n cv) (sortI l).length (entCells (sortI l)) := by
      have := HOWN.out; rw [List.take_of_length_le (by rw [HN.out]; exact Nat.le_refl _)] at this; rw [sortI_len, HN.out]; exact this
    have HV := Lib.hid hv; have hM := H.out.off_nil ho; obtain ⟨nl, hnl⟩ : ∃ nl, E.later.length = nl := ⟨_, rfl⟩
    have HNL := Lib.hid hnl; obtain ⟨plv, clv, hlv, hlc, hlm, -⟩ := own_at hM.later; rw [hnl] at hlv hll hlc; have HLV := Lib.hid hlv; have hB := hM.blk; have hc := hB.cell; have hf := hB.frozen; have hlp := hB.lt; unfold refCells at hc; rw [hlv] at hc; have hw : ((wr.setCell ⟨p, 0, none⟩ (.slice pv n cv)).alloc (.cells #[.slice pv n cv] 64)).ownsRow 0 64 1 (.slice plv nl clv) nl G.ls := by
      have h1 := own_offk (k := [p]) hM.later (((Off.refl [p] wr).setCell (p := ⟨p, 0, none⟩) (.inr (by simp)) (.slice pv n cv)).alloc (.cells #[.slice pv n cv] 64)) (fun b hb hm => by
        simp at hm
        subst hm; exact own_ne hM.later hM.blk (by decide) (by have : G.lv.ownBlock = some b := (by simpa using hb); exact this.symm))
      rw [hnl, hlv] at h1; exact h1
    have hpl : some p ≠ (Value.slice plv nl clv).ownBlock := by rw [← hlv]; exact own_ne hM.later hM.blk (by decide)
    have hB6 := (hB.set_ 0 (.slice pv n cv)).alloc (.cells #[.slice pv n cv] 64); have HPL := Lib.hid hpl; have HB6 := Lib.hid hB6; have hbn : Blk ((wr.setCell ⟨p, 0, none⟩ (.slice pv n cv)).alloc (.cells #[.slice pv n cv] 64)) wr.heap.size 64 #[.slice pv n cv] := by
      have := Blk.new (wr.setCell ⟨p, 0, none⟩ (.slice pv n cv)) 64 #[.slice pv n cv]
      simpa using this
    have HBN := Lib.hid hbn; clear hv hM hnl hlv hown ho hB hpl hB6 hbn
    go_wp2_with (at_builtin; refine wpList_append_lies _ rfl _ _ 65 rfl 0 64 i1 _ 1 24 Tryz.underlying65 hi1 hy0 hy1 hy2 rfl (by decide) _ _ _ rfl hw ⟨wr.heap.size, 0, none⟩ 1 1 [_] rfl rfl (cell_one_at HBN.out) (by simp [Value.oneCell']) (by omega) (by unfold maxLen; omega) (by omega) (by simp) (wr.heap.size + 1) (by simp) ?_; intro gg cap7 w7 hown7 hgrow7 hat7 hlt7; have hB7 := HB6.out.grown hgrow7 HPL.out; have hc7 := hB7.cell; have hf7 := hB7.frozen; unfold refCells at hc7)
    refine bodyPost_end (results_none rfl _ _ _) rfl ?_
    rw [← HLV.out] at hgrow7 hat7; exact ⟨rfl, chg_fin H.out HO.out HV.out HNL.out hown7 hgrow7 hat7⟩
end
section
open Go.RowKit Go.Op Go.Maps
variable {A : RArg}
structure RefP (w : World) (G : RGeo) (E : PDisk) : Prop where
  names : EntAt w G.nv E.names
  safe : EntAt w G.sv E.safe
  later : w.ownsRow 0 64 1 G.lv E.later.length G.ls
  laters : ∀ (i : Nat) (v : Value) (l : NameL), G.ls[i]? = some v → E.later[i]? = some l → EntAt w v l
  inos : w.ownsRow 0 125 5 G.iv E.inos.length (rinoCells E.inos)
  trace : w.ownsRow 0 73 3 G.tv E.trace.length (didCells E.trace)
  fates : WeatherAt w (.slice none 0 0) (.slice none 0 0) G.fb [] []
  fbl : ∀ g ∈ G.fb, ∃ t cs, Blk w g t cs ∧ Weath t
section
variable {w w' : World} {p : Nat} {G G' : RGeo} {E E' : PDisk}
theorem RefP.with (h : RefP w G E) (hB : Blk w p 69 (refCells A G E)) : RefM A w p G E := ⟨hB, h.names, h.safe, h.later, h.laters, h.inos, h.trace, h.fates, h.fbl⟩
theorem Only.self {cs : Array Value} (h : Blk w p 69 cs) : Only w [p] [69] := fun b hb => by
  simp at hb
  subst hb; exact ⟨_, by simp, _, h⟩
theorem RefP.self {cs : Array Value} (h : RefP w G E) (hB : Blk w p 69 cs) (ho : Off [p] w w') : RefP w' G E := by
  have hO := Only.self hB; have hf : ∀ b ∈ G.fb, b ∉ [p] := fun b hb hm => by
    obtain ⟨t, cs2, hB2, hW⟩ := h.fbl b hb; simp at hm; subst hm; exact hB.ne_ hB2 (Ne.symm (hW.ne (by decide))) rfl
  refine ⟨hO.row ho h.names (by decide), hO.row ho h.safe (by decide), hO.row ho h.later (by decide), fun i v l h1 h2 => hO.row ho (h.laters i v l h1 h2) (by decide), hO.row ho h.inos (by decide), hO.row ho h.trace (by decide), h.fates.off ho hf, fun g hg => ?_⟩
  obtain ⟨t, cs2, hB2, hW⟩ := h.fbl g hg; exact ⟨t, cs2, hB2.off ho (hf g hg), hW⟩
def RefS (A : RArg) (w : World) (p : Nat) (L : List Nat) (W : World) (G : RGeo) (E : PDisk) : Prop := RefM A W p G E ∧ Off (p :: L) w W ∧ ∀ b ∈ G.blocks, b ∈ L ∨ w.heap.size ≤ b
theorem RefS.to {L : List Nat} (h : RefS A w p L w' G E) : RefTo A w p L w' E := ⟨G, h⟩
theorem RefS.refl (h : RefM A w p G E) : RefS A w p G.blocks w G E := ⟨h, Off.refl _ _, fun _ hb => .inl hb⟩
theorem RefS.off {W W' : World} {L : List Nat} (h : RefS A w p L W G E) (ho : Off [] W W') : RefS A w p L W' G E := ⟨h.1.off_nil ho, h.2.1.trans ho (fun _ _ h => by cases h), h.2.2⟩
theorem RefS.put {W : World} {L : List Nat} (h : RefS A w p L W G E) (i : Nat) (v : Value) (h' : RefP W G' E') (hc : (refCells A G E).setIfInBounds i v = refCells A G' E') (hb : ∀ b ∈ G'.blocks, b ∈ L ∨ w.heap.size ≤ b) : RefS A w p L (W.setCell ⟨p, i, none⟩ v) G' E' := by
  refine ⟨(h'.self h.1.blk ((Off.refl [p] W).setCell (p := ⟨p, i, none⟩) (.inr (by simp)) v)).with ?_, h.2.1.setCell (p := ⟨p, i, none⟩) (.inr (List.mem_cons_self ..)) v, hb⟩
  rw [← hc]; exact h.1.blk.set_ i v
theorem RefS.putNames {W : World} {L : List Nat} {v : Value} {l : NameL} (h : RefS A w p L W G E) (hv : EntAt W v l) (hb : ∀ b ∈ v.ownBlock.toList, b ∈ L ∨ w.heap.size ≤ b) : RefS A w p L (W.setCell ⟨p, 0, none⟩ v) { G with nv := v } { E with names := l } :=
  h.put 0 v ⟨hv, h.1.safe, h.1.later, h.1.laters, h.1.inos, h.1.trace, h.1.fates, h.1.fbl⟩ (by unfold refCells; simp) fun b hm => by
    rcases mem_blocks.1 hm with hm | hm
    · exact hb b hm
    exact h.2.2 b (mem_blocks.2 (.inr hm))
theorem RefS.putSafe {W : World} {L : List Nat} {v : Value} {l : NameL} (h : RefS A w p L W G E) (hv : EntAt W v l) (hb : ∀ b ∈ v.ownBlock.toList, b ∈ L ∨ w.heap.size ≤ b) : RefS A w p L (W.setCell ⟨p, 1, none⟩ v) { G with sv := v } { E with safe := l } :=
  h.put 1 v ⟨h.1.names, hv, h.1.later, h.1.laters, h.1.inos, h.1.trace, h.1.fates, h.1.fbl⟩ (by unfold refCells; simp) fun b hm => by
    rcases mem_blocks.1 hm with hm | hm | hm
    · exact h.2.2 b (mem_blocks.2 (.inl hm))
    · exact hb b hm
    exact h.2.2 b (mem_blocks.2 (.inr (.inr hm)))
theorem RefS.noLater {W : World} {L : List Nat} (h : RefS A w p L W G E) : RefS A w p L (W.setCell ⟨p, 2, none⟩ (.slice none 0 0)) { G with lv := .slice none 0 0, ls := [] } { E with later := [] } :=
  h.put 2 _ ⟨h.1.names, h.1.safe, ⟨rfl, .inl ⟨rfl, rfl⟩⟩, fun i v l h1 _ => by simp at h1, h.1.inos, h.1.trace, h.1.fates, h.1.fbl⟩ (by unfold refCells; simp) fun b hm => by
    rcases mem_blocks.1 hm with hm | hm | hm | ⟨_, hm, _⟩ | hm
    · exact h.2.2 b (mem_blocks.2 (.inl hm))
    · exact h.2.2 b (mem_blocks.2 (.inr (.inl hm)))
    · simp [Value.ownBlock] at hm
    · cases hm
    exact h.2.2 b (mem_blocks.2 (.inr (.inr (.inr (.inr hm)))))
theorem RefS.putInos {W : World} {L : List Nat} {v : Value} {l : List Ino} (h : RefS A w p L W G E) (hv : W.ownsRow 0 125 5 v l.length (rinoCells l)) (hb : ∀ b ∈ v.ownBlock.toList, b ∈ L ∨ w.heap.size ≤ b) : RefS A w p L (W.setCell ⟨p, 3, none⟩ v) { G with iv := v } { E with inos := l } :=
  h.put 3 v ⟨h.1.names, h.1.safe, h.1.later, h.1.laters, hv, h.1.trace, h.1.fates, h.1.fbl⟩ (by unfold refCells; simp) fun b hm => by
    rcases mem_blocks.1 hm with hm | hm | hm | hm | hm | hm
    · exact h.2.2 b (mem_blocks.2 (.inl hm))
    · exact h.2.2 b (mem_blocks.2 (.inr (.inl hm)))
    · exact h.2.2 b (mem_blocks.2 (.inr (.inr (.inl hm))))
    · exact h.2.2 b (mem_blocks.2 (.inr (.inr (.inr (.inl hm)))))
    · exact hb b hm
    exact h.2.2 b (mem_blocks.2 (.inr (.inr (.inr (.inr (.inr hm))))))
theorem RefS.putOff {W : World} {L : List Nat} (h : RefS A w p L W G E) (o : Bool) : RefS A w p L (W.setCell ⟨p, 4, none⟩ (.bool o)) G { E with off := o } :=
  h.put 4 _ ⟨h.1.names, h.1.safe, h.1.later, h.1.laters, h.1.inos, h.1.trace, h.1.fates, h.1.fbl⟩ (by unfold refCells; simp) h.2.2
end
def inoVal (n : Ino) : Value := .agg #[.int .i64 n.node.kind, .int .i64 n.node.mode, .int .i64 n.time, .string n.node.data, .bool n.dirty]
theorem rino_set : ∀ (l : List Ino) (j : Nat) (n : Ino), j < l.length → (((((rinoCells l).set (j * 5) (.int .i64 n.node.kind)).set (j * 5 + 1) (.int .i64 n.node.mode)).set (j * 5 + 2) (.int .i64 n.time)).set (j * 5 + 3) (.string n.node.data)).set (j * 5 + 4) (.bool n.dirty) = rinoCells (l.set j n)
  | [], j, n, h => absurd h (by simp)
  | y :: l, 0, n, _ => by unfold rinoCells; simp
  | y :: l, j + 1, n, h => by
    have ih := rino_set l j n (by simpa using h); unfold rinoCells at ih ⊢; rw [List.set_cons_succ, List.flatMap_cons, List.flatMap_cons, ← ih, show (j + 1) * 5 = j * 5 + 1 + 1 + 1 + 1 + 1 by omega]
    rfl
theorem rino_cells {w : World} {p : Nat} {G : RGeo} {E : PDisk} (h : RefM A w p G E) {g cap : Nat} (hv : G.iv = .slice (some ⟨g, 0, none⟩) E.inos.length cap) : ∀ j u, (rinoCells E.inos)[j]? = some u → w.cell? ((⟨g, 0, none⟩ : Addr).add j) = some u := fun j u hj => by
  rw [addr_add]; have := h.inos; rw [hv] at this
  simpa using own_cell2 this hj
theorem rino_len (l : List Ino) : (rinoCells l).length = l.length * 5 := rflat_len _ 5 (fun _ => rfl) l
theorem rino_one {l : List Ino} : ∀ u ∈ rinoCells l, u.oneCell' = true := fun u hu => by
  unfold rinoCells at hu; obtain ⟨n, -, hu⟩ := List.mem_flatMap.1 hu; simp only [List.mem_cons, List.not_mem_nil, or_false] at hu
  rcases hu with rfl | rfl | rfl | rfl | rfl <;> rfl
theorem own_empty (W : World) (base : Nat) (e : TypeId) (sz : Nat) (hb : base ≤ W.heap.size) : (W.alloc (.cells #[] e)).ownsRow base e sz (.slice (some ⟨W.heap.size, 0, none⟩) 0 0) 0 [] :=
  ⟨by simp, .inr ⟨W.heap.size, 0, #[], rfl, hb, Blk.new W e #[], Nat.le_refl _, by decide, by simp, by simp⟩⟩
set_option maxRecDepth 100000 in
set_option maxHeartbeats 8000000 in
theorem r7set_any (p j : Nat) (G : RGeo) (E : PDisk) (n : Ino) (w : World) (h : RefM A w p G E) (hj : j < E.inos.length) (hl : E.inos.length ≤ 1000000000) :
    Calls Tryz.prog 103 #[.pointer (some ⟨p, 0, none⟩), .int .i64 (j + 1 : Nat), inoVal n] w fun e w' => e = .returned (.tuple #[]) ∧ RefTo A w p G.blocks w' { E with inos := E.inos.set j n } := by
  obtain ⟨i0, hi0, hz0, hz1, hz2⟩ := info_parts infoIno; have H := Lib.hid h; unfold inoVal; obtain ⟨m, hm⟩ : ∃ m, E.inos[j]? = some m := ⟨_, List.getElem?_eq_getElem hj⟩
  obtain ⟨gi, cap, hiv, -, hc1, hc2, hgi, -, -⟩ := h.ino hm; have HCL := Lib.hid (rino_cells h hiv); obtain ⟨M, hM⟩ : ∃ M, E.inos.length = M := ⟨_, rfl⟩
  have HM := Lib.hid hM; rw [hM] at hiv hj hl hc1; have hc := h.blk.cell; have hlp := h.blk.lt; unfold refCells at hc; rw [hiv] at hc; clear h hm hM hiv
  go_enter Tryz.func103, Tryz.ntmps103
  go_upto_region 1 with fail
  refine code_gen (fun W => Blk W w.heap.size 125 #[.int .i64 n.node.kind, .int .i64 n.node.mode, .int .i64 n.time, .string n.node.data, .bool n.dirty] ∧ Off [] w W) ⟨Blk.new w _ _, (Off.refl _ _).alloc _⟩ ?_
  rintro W ⟨hb, ho⟩; have HB := Lib.hid hb; have HO := Lib.hid ho; have hc0 := (ho.cell (p := ⟨p, 3, none⟩) hlp (by simp)).trans (hc 3); have hw := own_empty W w.heap.size 125 5 ho.size
  have hcl : ∀ j u, (rinoCells E.inos)[j]? = some u → (W.alloc (.cells #[] 125)).cell? ((⟨gi, 0, none⟩ : Addr).add j) = some u := fun j u hj => ((ho.alloc _).cell (p := (⟨gi, 0, none⟩ : Addr).add j) (by rw [add_block]; exact hgi) (by simp)).trans (HCL.out j u hj)
  have HSZ := Lib.hid (show w.heap.size ≤ W.heap.size from ho.size); have hpW := Nat.lt_of_lt_of_le hlp ho.size; have hrl := rino_len E.inos; rw [HM.out] at hrl; clear hb ho hc hlp
  go_upto_region 2 with (at_builtin; refine wpList_append_lies _ rfl _ _ 66 rfl w.heap.size 125 i0 _ 5 48 Tryz.underlying66 hi0 hz0 hz1 hz2 rfl (by decide) _ _ _ rfl hw ⟨gi, 0, none⟩ M cap (rinoCells E.inos) rfl hrl hcl rino_one (by omega) (by unfold maxLen; omega) (by omega) (by have := HSZ.out; simp; omega) (W.heap.size + 1) (by simp) ?_; intro gg cap7 w7 hown7 hgrow7 hat7 hlt7)
  have hown8 : w7.ownsRow w.heap.size 125 5 (.slice (some ⟨gg, 0, none⟩) M cap7) M (rinoCells E.inos) := by simpa using hown7
  have hO7 := own_grown (HO.out.alloc (.cells #[] 125)) hw hgrow7; have hB7 := (HB.out.alloc (.cells #[] 125)).grown hgrow7 (fun e => by
    have e : some w.heap.size = some W.heap.size := e
    injection e with e
    have := HB.out.lt; omega)
  have hgg : w.heap.size ≤ gg := own_made7 hown8 gg (by simp [Value.ownBlock])
  have hcn := hB7.cell; have hf8 := own_frozen2 hown8; obtain ⟨m, hm⟩ : ∃ m, E.inos[j]? = some m := ⟨_, List.getElem?_eq_getElem (by rw [HM.out]; exact hj)⟩
  have x0 : w7.cell? ⟨gg, j * 5, none⟩ = some (.int .i64 m.node.kind) := own_cell2 hown8 (rino_get hm 0 (by omega))
  have r1 := own_set2 hown8 (j * 5) (.int .i64 n.node.kind); have r2 := own_set2 r1 (j * 5 + 1) (.int .i64 n.node.mode); have r3 := own_set2 r2 (j * 5 + 2) (.int .i64 n.time); have r4 := own_set2 r3 (j * 5 + 3) (.string n.node.data); have x1 := own_cell2 r1 ((List.getElem?_set_ne (by omega)).trans (rino_get hm 1 (by omega)))
  have x2 := own_cell2 r2 ((List.getElem?_set_ne (by omega)).trans ((List.getElem?_set_ne (by omega)).trans (rino_get hm 2 (by omega)))); have x3 := own_cell2 r3 ((List.getElem?_set_ne (by omega)).trans ((List.getElem?_set_ne (by omega)).trans ((List.getElem?_set_ne (by omega)).trans (rino_get hm 3 (by omega)))))
  have x4 := own_cell2 r4 ((List.getElem?_set_ne (by omega)).trans ((List.getElem?_set_ne (by omega)).trans ((List.getElem?_set_ne (by omega)).trans ((List.getElem?_set_ne (by omega)).trans (rino_get hm 4 (by omega)))))); have f1 := own_frozen2 r1; have f2 := own_frozen2 r2; have f3 := own_frozen2 r3; have f4 := own_frozen2 r4; clear r1 r2 r3 r4; have HW8 := Lib.hid hown8; have HO7 := Lib.hid hO7
  have hwj : IntKind.i64.wrap (j : Int) = (j : Int) := IntWalk.i64_in _ (by omega)
  have hwr : IntKind.i64.wrap (((j + 1 : Nat) : Int) - 1) = (j : Int) := by rw [show ((j + 1 : Nat) : Int) - 1 = j by omega]; exact hwj
  have hltb := hB7.lt; clear hown7 hgrow7 hat7 hown8 hO7 hw hcl hc0 hB7 hm
  go_upto_region 3 with fail
  refine code_gen (fun W8 => W8.ownsRow w.heap.size 125 5 (.slice (some ⟨gg, 0, none⟩) M cap7) M (rinoCells (E.inos.set j n)) ∧ Off [] w W8) ⟨?_, ?_⟩ ?_
  · rw [← rino_set E.inos j n (by rw [HM.out]; exact hj)]
    exact own_set2 (own_set2 (own_set2 (own_set2 (own_set2 HW8.out _ _) _ _) _ _) _ _) _ _
  · exact ((((HO7.out.setCell (.inl hgg) _).setCell (.inl hgg) _).setCell (.inl hgg) _).setCell (.inl hgg) _).setCell (.inl hgg) _
  rintro W8 ⟨hw8, ho8⟩; have HW9 := Lib.hid hw8; have HO9 := Lib.hid ho8; have hM8 := H.out.off_nil ho8; have hc8 := hM8.blk.cell; have hf9 := hM8.blk.frozen; unfold refCells at hc8; clear hw8 ho8 hM8 x0 x1 x2 x3 x4 hf8 hcn f1 f2 f3 f4
  go_wp2_with fail
  refine bodyPost_end (results_none rfl _ _ _) rfl ⟨rfl, ?_⟩
  refine (((RefS.refl H.out).off HO9.out).putInos (own_base (b := w.heap.size) (b' := 0) ?_ (Nat.zero_le _)) (fun b hb => .inr (own_made7 HW9.out b hb))).to
  rw [List.length_set, HM.out]; exact HW9.out
end
section
open Go.RowKit Go.Op Go.Maps
def LtN (x y : ByteArray × Nat) : Prop := order (str x.1) (str y.1) < 0
theorem posN_above (s : NameL) (p : ByteArray) : ∀ n, n ≤ s.length → ∀ i, posN s p n ≤ i → i < n → ∃ y, s[i]? = some y ∧ 0 < order (str y.1) (str p)
  | 0, _, i, _, h => absurd h (by omega)
  | n + 1, hn, i, h1, h2 => by
    have hs : s[n]? = some s[n] := List.getElem?_eq_getElem (by omega)
    by_cases hc : 0 < order (str s[n].1) (str p)
    · rw [posN_down hs hc] at h1
      by_cases hi : i = n
      · subst hi; exact ⟨_, hs, hc⟩
      exact posN_above s p n (by omega) i h1 (by omega)
    rw [posN_stop hs hc] at h1; omega
theorem posN_below (s : NameL) (p : ByteArray) : ∀ n, n ≤ s.length → ∀ j, posN s p n = j + 1 → ∃ y, s[j]? = some y ∧ ¬ 0 < order (str y.1) (str p)
  | 0, _, j, h => by rw [posN_zero] at h; omega
  | n + 1, hn, j, h => by
    have hs : s[n]? = some s[n] := List.getElem?_eq_getElem (by omega)
    by_cases hc : 0 < order (str s[n].1) (str p)
    · rw [posN_down hs hc] at h
      exact posN_below s p n (by omega) j h
    rw [posN_stop hs hc] at h; obtain rfl : n = j := by omega
    exact ⟨_, hs, hc⟩
theorem insN_perm (s : NameL) (x : ByteArray × Nat) : (insN s x).Perm (x :: s) := by
  unfold insN; refine List.perm_middle.trans ?_; rw [List.take_append_drop]
theorem insN_sorted {s : NameL} {x : ByteArray × Nat} (h : s.Pairwise LtN) (hx : ∀ y ∈ s, y.1 ≠ x.1) : (insN s x).Pairwise LtN := by
  obtain ⟨k, hk⟩ : ∃ k, posN s x.1 s.length = k := ⟨_, rfl⟩
  have hle := posN_le s x.1 s.length; rw [hk] at hle; have hup : ∀ y ∈ s.drop k, LtN x y := fun y hy => by
    obtain ⟨i, hi, rfl⟩ := List.getElem_of_mem hy; rw [List.length_drop] at hi; obtain ⟨z, hz, hc⟩ := posN_above s x.1 s.length (Nat.le_refl _) (k + i) (by omega) (by omega); rw [List.getElem?_eq_getElem (by omega)] at hz; injection hz with hz
    rw [List.getElem_drop, hz]; unfold LtN; rw [order_swap]; omega
  have hdn : ∀ y ∈ s.take k, LtN y x := fun y hy => by
    cases k with
    | zero => simp at hy
    | succ j =>
      obtain ⟨z, hz, hc⟩ := posN_below s x.1 s.length (Nat.le_refl _) j hk; have hzx : LtN z x := by
        have hne := hx z (List.mem_of_getElem? hz)
        rcases order_range (str z.1) (str x.1) with h1 | h1 | h1
        · unfold LtN; omega
        · exact absurd (str_inj (order_eq h1)) hne
        omega
      obtain ⟨i, hi, rfl⟩ := List.getElem_of_mem hy; rw [List.length_take] at hi; rw [List.getElem_take]
      by_cases hij : i = j
      · subst hij
        rw [List.getElem?_eq_getElem (by omega)] at hz; injection hz with hz
        rw [hz]; exact hzx
      have := (List.pairwise_iff_getElem.1 h) i j (by omega) (by omega) (by omega); rw [List.getElem?_eq_getElem (by omega)] at hz; injection hz with hz
      rw [hz] at this; exact order_trans this hzx
  unfold insN; rw [hk, List.pairwise_append]; refine ⟨h.sublist (List.take_sublist ..), List.pairwise_cons.2 ⟨hup, h.sublist (List.drop_sublist ..)⟩, fun a ha b hb => ?_⟩
  rcases List.mem_cons.1 hb with rfl | hb
  · exact hdn a ha
  exact order_trans (hdn a ha) (hup b hb)
theorem fold_sorted : ∀ (l s : NameL), s.Pairwise LtN → Apart l → (∀ x ∈ l, ∀ y ∈ s, y.1 ≠ x.1) → (l.foldl insN s).Pairwise LtN ∧ (l.foldl insN s).Perm (l ++ s)
  | [], s, h, _, _ => ⟨h, List.Perm.refl _⟩
  | x :: l, s, h, ha, hx => by
    obtain ⟨h1, h2⟩ := List.pairwise_cons.1 ha; obtain ⟨h3, h4⟩ := fold_sorted l (insN s x) (insN_sorted h (hx x (List.mem_cons_self ..))) h2 (fun y hy z hz => by
      rcases insN_mem.1 hz with rfl | hz
      · exact h1 y hy
      exact hx y (List.mem_cons_of_mem _ hy) z hz)
    refine ⟨h3, h4.trans ?_⟩
    refine ((insN_perm s x).append_left l).trans ?_
    exact List.perm_middle
def leN (x y : ByteArray × Nat) : Bool := !decide (order (str y.1) (str x.1) < 0)
theorem leN_trans (a b c : ByteArray × Nat) (h1 : leN a b = true) (h2 : leN b c = true) : leN a c = true := by
  unfold leN at *; simp only [Bool.not_eq_true', decide_eq_false_iff_not] at *
  intro h
  rcases order_range (str a.1) (str b.1) with h3 | h3 | h3
  · exact h2 (order_trans h (by omega))
  · rw [order_eq h3] at h
    exact h2 h
  rw [order_swap] at h1; omega
theorem leN_total (a b : ByteArray × Nat) : (leN a b || leN b a) = true := by
  unfold leN; rw [order_swap (str a.1) (str b.1)]
  rcases order_range (str a.1) (str b.1) with h | h | h <;> rw [h] <;> decide
theorem Apart.one {l : NameL} (h : Apart l) {x y : ByteArray × Nat} (hx : x ∈ l) (hy : y ∈ l) (e : x.1 = y.1) : x = y := by
  have h1 := lookN_mem h hx; have h2 := lookN_mem h hy; rw [e, h2] at h1; exact Prod.ext e h1.symm
theorem sortI_eq {l : NameL} (ha : Apart l) : sortI l = PDisk.sortN l := by
  obtain ⟨h1, h2⟩ := fold_sorted l [] List.Pairwise.nil ha (fun _ _ _ h => by cases h); rw [List.append_nil] at h2; have hp : (sortI l).Perm l := h2
  refine List.Perm.eq_of_pairwise (le := fun a b => leN a b = true) (fun a b ha' hb' h3 h4 => ?_) ?_ (List.pairwise_mergeSort leN_trans leN_total l) (hp.trans (List.mergeSort_perm l leN).symm)
  · have hab : order (str a.1) (str b.1) = 0 := by
      unfold leN at h3 h4; simp only [Bool.not_eq_true', decide_eq_false_iff_not] at h3 h4; rw [order_swap] at h3
      rcases order_range (str a.1) (str b.1) with h | h | h <;> omega
    exact ha.one (hp.subset ha') (List.mem_mergeSort.1 hb') (str_inj (order_eq hab))
  refine h1.imp fun {a b} h => ?_
  unfold leN; unfold LtN at h; rw [order_swap]; simp only [Bool.not_eq_true', decide_eq_false_iff_not]; omega
end
section
open Go.RowKit Go.Op Go.Maps
variable {A : RArg}
set_option maxRecDepth 100000 in
set_option maxHeartbeats 8000000 in
theorem r7boot_any (p : Nat) (G : RGeo) (E : PDisk) (fs : List FateP) (es : List EditP) (pf pe : Option Addr) (nf cf ne ce : Nat) (ev' : Value) (w : World) (h : RefM A w p G E) :
    Calls Tryz.prog 27 #[.pointer (some ⟨p, 0, none⟩), .slice pf nf cf, .slice pe ne ce] w fun e w' => e = .returned (.tuple #[]) ∧ ∃ G', RefM ⟨.slice pf nf cf, .slice pe ne ce⟩ w' p G' (E.bootE fs es ev') ∧ Off [p] w w' ∧ ∀ b ∈ G'.blocks, b ∈ G.blocks := by
  have H := Lib.hid h; have hc := h.blk.cell; have hf := h.blk.frozen; unfold refCells at hc; clear h
  go_enter Tryz.func27, Tryz.ntmps27
  go_wp2_with fail
  refine bodyPost_end (results_none rfl _ _ _) rfl ⟨rfl, ?_⟩
  have hO : Off [p] w (((((w.setCell ⟨p, 4, none⟩ (.bool false)).setCell ⟨p, 5, none⟩ (.int .i64 0)).setCell ⟨p, 7, none⟩ (.slice none 0 0)).setCell ⟨p, 8, none⟩ (.slice pf nf cf)).setCell ⟨p, 9, none⟩ (.slice pe ne ce)) :=
    (((((Off.refl [p] w).setCell (p := ⟨p, 4, none⟩) (.inr (by simp)) _).setCell (p := ⟨p, 5, none⟩) (.inr (by simp)) _).setCell (p := ⟨p, 7, none⟩) (.inr (by simp)) _).setCell (p := ⟨p, 8, none⟩) (.inr (by simp)) _).setCell (p := ⟨p, 9, none⟩) (.inr (by simp)) _
  have hP : RefP w { G with tv := .slice none 0 0 } (E.bootE fs es ev') :=
    ⟨H.out.names, H.out.safe, H.out.later, H.out.laters, H.out.inos, ⟨rfl, .inl ⟨rfl, rfl⟩⟩, H.out.fates, H.out.fbl⟩
  refine ⟨{ G with tv := .slice none 0 0 }, (hP.self H.out.blk hO).with ?_, hO, fun b hb => ?_⟩
  · have := ((((H.out.blk.set_ 4 (.bool false)).set_ 5 (.int .i64 0)).set_ 7 (.slice none 0 0)).set_ 8 (.slice pf nf cf)).set_ 9 (.slice pe ne ce)
    unfold refCells PDisk.bootE at *
    simpa using this
  rcases mem_blocks.1 hb with hb | hb | hb | hb | hb | hb | hb
  · exact mem_blocks.2 (.inl hb)
  · exact mem_blocks.2 (.inr (.inl hb))
  · exact mem_blocks.2 (.inr (.inr (.inl hb)))
  · exact mem_blocks.2 (.inr (.inr (.inr (.inl hb))))
  · exact mem_blocks.2 (.inr (.inr (.inr (.inr (.inl hb)))))
  · simp [Value.ownBlock] at hb
  exact mem_blocks.2 (.inr (.inr (.inr (.inr (.inr (.inr hb))))))
end
section
open Go.RowKit Go.Op Go.Maps
variable {A : RArg}
def rcrashN (E : PDisk) (f : FateP) : NameL :=
  match E.later[(min f.keep E.later.length).toNat - 1]? with
  | some l => if 0 < min f.keep E.later.length then l else E.safe
  | none => E.safe
theorem crash_eq (E : PDisk) (f : FateP) : E.crash f = { E with names := rcrashN E f, safe := rcrashN E f, later := [], off := true, inos := E.inos.map (PDisk.tear f.torn) } := rfl
theorem rcrash_later {E : PDisk} {f : FateP} {k : Nat} {l : NameL} (hk : min (max f.keep 0) (E.later.length : Int) = ((k + 1 : Nat) : Int)) (hel : E.later[k]? = some l) : rcrashN E f = l := by
  unfold rcrashN; have e : (min f.keep (E.later.length : Int)).toNat - 1 = k := by omega
  rw [e, hel]; dsimp only; rw [if_pos (by omega)]
theorem rcrash_safe {E : PDisk} {f : FateP} (h : ¬ 0 < min (max f.keep 0) (E.later.length : Int)) : rcrashN E f = E.safe := by
  unfold rcrashN
  split
  · rw [if_neg (by omega)]
  rfl
theorem crash_safe_st {w W : World} {p : Nat} {L : List Nat} {G : RGeo} {E : PDisk} (h : RefS A w p L W G E) :
    ∃ G', RefS A w p L (((W.setCell ⟨p, 0, none⟩ G.sv).setCell ⟨p, 1, none⟩ G.sv).setCell ⟨p, 2, none⟩ (.slice none 0 0)) G' { E with names := E.safe, safe := E.safe, later := [] } := by
  have hb : ∀ b ∈ G.sv.ownBlock.toList, b ∈ L ∨ w.heap.size ≤ b := fun b hb => h.2.2 b (mem_blocks.2 (.inr (.inl hb)))
  have h1 := h.putNames h.1.safe hb; have h2 := h1.putSafe h1.1.safe hb; exact ⟨_, h2.noLater⟩
theorem crash_later_st {w W : World} {p k : Nat} {L : List Nat} {G : RGeo} {E : PDisk} {v : Value} {l : NameL} (h : RefS A w p L W G E) (h1 : G.ls[k]? = some v) (h2 : E.later[k]? = some l) :
    ∃ G', RefS A w p L ((((W.setCell ⟨p, 0, none⟩ G.sv).setCell ⟨p, 0, none⟩ v).setCell ⟨p, 1, none⟩ v).setCell ⟨p, 2, none⟩ (.slice none 0 0)) G' { E with names := l, safe := l, later := [] } := by
  have hb : ∀ b ∈ G.sv.ownBlock.toList, b ∈ L ∨ w.heap.size ≤ b := fun b hb => h.2.2 b (mem_blocks.2 (.inr (.inl hb)))
  have hv : ∀ b ∈ v.ownBlock.toList, b ∈ L ∨ w.heap.size ≤ b := fun b hb => h.2.2 b (mem_blocks.2 (.inr (.inr (.inr (.inl ⟨v, List.mem_of_getElem? h1, hb⟩)))))
  have s1 := h.putNames h.1.safe hb; have s2 := s1.putNames (s1.1.laters k v l h1 h2) hv; have s3 := s2.putSafe s2.1.names hv; exact ⟨_, s3.noLater⟩
def tearL (t : Int) (l : List Ino) (i : Nat) : List Ino := (l.take i).map (PDisk.tear t) ++ l.drop i
theorem tearL_get {t : Int} {l : List Ino} {i : Nat} (h : i < l.length) : (tearL t l i)[i]? = l[i]? := by
  unfold tearL; rw [List.getElem?_append_right (by rw [List.length_map, List.length_take]; omega), List.getElem?_drop]
  congr 1
  simp only [List.length_map, List.length_take]
  omega
theorem tearL_succ {t : Int} {l : List Ino} {i : Nat} {m : Ino} (h : l[i]? = some m) : tearL t l (i + 1) = (tearL t l i).set i (PDisk.tear t m) := by
  have hi := (List.getElem?_eq_some_iff.1 h).1; have hd : l.drop i = m :: l.drop (i + 1) := by
    rw [List.drop_eq_getElem_cons hi]; rw [List.getElem?_eq_getElem hi] at h; injection h with h
    rw [h]
  have hlen : ((l.take i).map (PDisk.tear t)).length = i := by simp; omega
  unfold tearL; rw [List.take_add_one, h, List.map_append, hd, List.set_append_right _ _ (by omega), hlen, Nat.sub_self, List.set_cons_zero, List.append_assoc]
  rfl
theorem set_same {α : Type} : ∀ {l : List α} {i : Nat} {m : α}, l[i]? = some m → l.set i m = l
  | [], _, _, h => by simp at h
  | x :: l, 0, m, h => by simp at h; simp [h]
  | x :: l, i + 1, m, h => by rw [List.set_cons_succ, set_same (by simpa using h)]
theorem rino_set2 : ∀ {l : List Ino} {j : Nat} {m : Ino} (d : ByteArray) (b : Bool), l[j]? = some m → ((rinoCells l).set (j * 5 + 3) (.string d)).set (j * 5 + 4) (.bool b) = rinoCells (l.set j { m with node := { m.node with data := d }, dirty := b })
  | [], j, m, d, b, h => by simp at h
  | y :: l, 0, m, d, b, h => by
    have : y = m := by simpa using h
    subst this; unfold rinoCells; simp
  | y :: l, j + 1, m, d, b, h => by
    have ih := rino_set2 (l := l) (j := j) (m := m) d b (by simpa using h); unfold rinoCells at ih ⊢; rw [List.set_cons_succ, List.flatMap_cons, List.flatMap_cons, ← ih, show (j + 1) * 5 = j * 5 + 1 + 1 + 1 + 1 + 1 by omega]
    rfl
theorem tear_clean7 {t : Int} {m : Ino} (h : m.dirty = false) : PDisk.tear t m = m := by unfold PDisk.tear; rw [h]; rfl
theorem tear_dirty {t : Int} {m : Ino} (h : m.dirty = true) : PDisk.tear t m = { m with node := { m.node with data := m.node.data.extract 0 (min (max t 0) (m.node.data.size : Int)).toNat }, dirty := false } := by
  have e : (min (max t 0) (m.node.data.size : Int)).toNat = min t.toNat m.node.data.size := by omega
  unfold PDisk.tear; rw [h, e]
  rfl
theorem crash_fin {w W7 wr : World} {p M : Nat} {G G1 : RGeo} {E E1 : PDisk} {f : FateP} {pp : Option Addr} {cc : Nat} (hS : RefS A w p G.blocks W7 G1 E1) (hE : E1 = { E with names := rcrashN E f, safe := rcrashN E f, later := [] }) (hM : E.inos.length = M) (hw : wr.ownsRow W7.heap.size 125 5 (.slice pp M cc) M (rinoCells (tearL f.torn E.inos M))) (ho : Off [] W7 wr) :
    RefTo A w p G.blocks ((wr.setCell ⟨p, 3, none⟩ (.slice pp M cc)).setCell ⟨p, 4, none⟩ (.bool true)) (E.crash f) := by
  have hT : tearL f.torn E.inos M = E.inos.map (PDisk.tear f.torn) := by
    unfold tearL; rw [List.take_of_length_le (by omega), List.drop_of_length_le (by omega), List.append_nil]
  rw [hT] at hw; have h1 := (hS.off ho).putInos (v := .slice pp M cc) (l := E.inos.map (PDisk.tear f.torn)) (by
    rw [List.length_map, hM]; exact own_base hw (Nat.zero_le _)) (fun b hb => .inr (Nat.le_trans hS.2.1.size (own_made7 hw b hb)))
  have h2 := (h1.putOff true).to; rw [crash_eq]; rw [hE] at h2; exact h2
set_option maxRecDepth 100000 in
set_option maxHeartbeats 8000000 in
theorem r7crash_any (p : Nat) (G : RGeo) (E : PDisk) (f : FateP) (w : World) (h : RefM A w p G E) (hl : E.inos.length ≤ 1000000000) (hll : E.later.length ≤ 1000000000) :
    Calls Tryz.prog 134 #[.pointer (some ⟨p, 0, none⟩), .agg #[.int .i64 f.at_, .int .i64 f.what, .int .i64 f.keep, .int .i64 f.torn]] w fun e w' => e = .returned (.tuple #[]) ∧ RefTo A w p G.blocks w' (E.crash f) := by
  obtain ⟨i0, hi0, hz0, hz1, hz2⟩ := info_parts infoIno; have H := Lib.hid h; obtain ⟨pv, cv, hlv, -, -, -⟩ := own_at h.later; obtain ⟨nl, hnl⟩ : ∃ nl, E.later.length = nl := ⟨_, rfl⟩
  have HNL := Lib.hid hnl; rw [hnl] at hlv hll; have hc := h.blk.cell; have hlp := h.blk.lt; unfold refCells at hc; rw [hlv] at hc; clear h hnl
  go_enter Tryz.func134, Tryz.ntmps134
  go_wp2_with fail
  go_region
  go_upto_region 2 with fail
  refine code_gen (fun W => Blk W w.heap.size 23 #[.int .i64 f.at_, .int .i64 f.what, .int .i64 f.keep, .int .i64 f.torn] ∧ Off [] w W) ⟨(Blk.new w _ _).drew, ((Off.refl _ _).alloc _).drew⟩ ?_
  rintro W ⟨hb, ho⟩; have HB := Lib.hid hb; have hS := (RefS.refl H.out).off ho; have HS := Lib.hid hS; have hc0 := hS.1.blk.cell; have hf0 := hS.1.blk.frozen; unfold refCells at hc0; rw [hlv] at hc0; have HWO := Lib.hid ho.size; have hltp := hS.1.blk.lt; obtain ⟨psv, csv, hsv, -, -, -⟩ := own_at H.out.safe; have HNS := Lib.hid (own_at H.out.safe); clear hb ho hS hc hlp
  have MID : ∀ (K : Act → World → Prop) (Q : Exit → Act → World → Prop), True := fun _ _ => trivial
  clear MID; have HSV := Lib.hid hsv; have HPB := Lib.hid (show w.heap.size ∉ [p] from fun h => by
    simp at h
    have := H.out.blk.lt; omega)
  by_cases hK : 0 < min (max f.keep 0) (nl : Int)
  · obtain ⟨k, hk⟩ : ∃ k : Nat, min (max f.keep 0) (nl : Int) = ((k + 1 : Nat) : Int) := ⟨(min (max f.keep 0) (nl : Int)).toNat - 1, by omega⟩
    rw [hk]; have hkn : k < nl := by omega
    have hwj : IntKind.i64.wrap (k : Int) = (k : Int) := IntWalk.i64_in _ (by omega)
    have hel : ∃ l, E.later[k]? = some l := ⟨_, List.getElem?_eq_getElem (by rw [HNL.out]; exact hkn)⟩
    obtain ⟨l, hel⟩ := hel; have hgl : ∃ v, G.ls[k]? = some v := ⟨_, List.getElem?_eq_getElem (by rw [H.out.lsl, HNL.out]; exact hkn)⟩
    obtain ⟨v, hgl⟩ := hgl; have HEL := Lib.hid hel; have HGL := Lib.hid hgl; obtain ⟨pk, ck, rfl, -, -, -⟩ := own_at (H.out.laters k v l hgl hel); obtain ⟨pv2, cv2, hlv2, hcc, -, hlr⟩ := own_at HS.out.1.later; rw [HNL.out] at hlv2 hcc hlr; rw [hlv] at hlv2; injection hlv2 with e1 e2 e3
    subst e1; subst e3; obtain ⟨gl, rfl, -, hgls, ⟨csl, hBl⟩, hcl⟩ := hlr (by omega); have hclk := hcl k _ hgl; have hne : gl ≠ p := hBl.ne_ HS.out.1.blk (by decide)
    have hne2 : p ≠ gl := Ne.symm hne
    have HRN := Lib.hid (rcrash_later (f := f) (by rw [HNL.out]; exact hk) hel); clear hcl hBl hel hgl hlr
    go_upto_region 7 with fail
    refine code_gen (fun W7 => ∃ G1 E1, RefS A w p G.blocks W7 G1 E1 ∧ E1 = { E with names := rcrashN E f, safe := rcrashN E f, later := [] } ∧ Blk W7 w.heap.size 23 #[.int .i64 f.at_, .int .i64 f.what, .int .i64 f.keep, .int .i64 f.torn]) ?_ ?_
    · obtain ⟨G1, h1⟩ := crash_later_st HS.out HGL.out HEL.out
      refine ⟨G1, _, by rw [HSV.out] at h1; exact h1, by rw [HRN.out], ?_⟩
      exact (((((HB.out.off ((Off.refl [p] W).setCell (p := ⟨p, 0, none⟩) (.inr (by simp)) _) HPB.out).off ((Off.refl [p] _).setCell (p := ⟨p, 0, none⟩) (.inr (by simp)) _) HPB.out).off ((Off.refl [p] _).setCell (p := ⟨p, 1, none⟩) (.inr (by simp)) _) HPB.out).off ((Off.refl [p] _).setCell (p := ⟨p, 2, none⟩) (.inr (by simp)) _) HPB.out))
    rintro W7 ⟨G1, E1, hS7, hE1, hb7⟩; have HS7 := Lib.hid hS7; have HE1 := Lib.hid hE1; have HB7 := Lib.hid hb7; have hin : E1.inos = E.inos := by rw [hE1]
    have hio := hS7.1.inos; rw [hin] at hio; obtain ⟨pi, ci, hiv, hic, him, hir⟩ := own_at hio; have HIO := Lib.hid hio; obtain ⟨M, hM⟩ : ∃ M, E.inos.length = M := ⟨_, rfl⟩
    have HM := Lib.hid hM; rw [hM] at hiv hic hl hir hio; have hc7 := hS7.1.blk.cell; unfold refCells at hc7; rw [hiv] at hc7; have hw := own_empty W7 W7.heap.size 125 5 (Nat.le_refl _); have hrl := rino_len E.inos; rw [HM.out] at hrl; have hp7 := hS7.1.blk.lt; have HIR := Lib.hid hir; have HIV := Lib.hid (show 0 < M ∨ M = 0 by omega); have HVI := Lib.hid hiv
    clear hS7 hE1 hb7 hin hio hM hir HB HWO hiv
    rcases pi with _ | a
    · obtain rfl : 0 = M := by
        rcases HIV.out with h | h
        · obtain ⟨g, h1, -⟩ := HIR.out h
          cases h1
        exact h.symm
      have hci : ci = 0 := by
        have := HIO.out
        rcases this.2 with ⟨h1, -⟩ | ⟨g, cap, cur, h1, -⟩
        · rw [HVI.out] at h1; injection h1
        rw [HVI.out] at h1; injection h1 with h1; cases h1
      subst hci
      go_upto_region 8 with (at_builtin; refine wpList_append_own_none rfl _ _ 66 rfl W7.heap.size 125 i0 5 Tryz.underlying66 hi0 _ _ _ rfl hw rfl ?_)
      have hnil : E.inos = [] := List.length_eq_zero_iff.1 HM.out
      have HW8 := Lib.hid (show (W7.alloc (.cells #[] 125)).ownsRow W7.heap.size 125 5 (.slice (some ⟨W7.heap.size, 0, none⟩) 0 0) 0 (rinoCells E.inos) by rw [hnil]; exact hw); have HO8 := Lib.hid ((Off.refl [] W7).alloc (.cells #[] 125)); clear hw hc7 hnil
      go_wp2_with fail
      go_loopw [6] (fun x wr => x = .int .i64 0 ∧ Off [] W7 wr ∧ wr.ownsRow W7.heap.size 125 5 (.slice (some ⟨W7.heap.size, 0, none⟩) 0 0) 0 (rinoCells (tearL f.torn E.inos 0))) (fun _ _ => 0)
      case atStart => exact ⟨rfl, HO8.out, by simpa [tearL] using HW8.out⟩
      case round =>
        obtain ⟨rfl, ho, hown⟩ := hrel; have HO := Lib.hid ho; have HOWN := Lib.hid hown; have hM7 := (HS7.out.off ho).1; have hcz := hM7.blk.cell; have hfz := hM7.blk.frozen; unfold refCells at hcz; clear hown ho hM7
        go_wp2_with fail
        refine bodyPost_end (results_none rfl _ _ _) rfl ⟨rfl, ?_⟩
        exact crash_fin HS7.out HE1.out HM.out HOWN.out HO.out
    have hcl : ∀ j u, (rinoCells E.inos)[j]? = some u → (W7.alloc (.cells #[] 125)).cell? (a.add j) = some u := fun j u hj => by
      have hlt := (List.getElem?_eq_some_iff.1 hj).1; obtain ⟨g, h1, -, h3, -, h5⟩ := HIR.out (by omega); injection h1 with h1
      subst h1; rw [addr_add, ((Off.refl [] W7).alloc _).cell (p := ⟨g, j, none⟩) h3 (by simp)]; exact h5 j u hj
    have HCL := Lib.hid hcl; clear hcl
    go_upto_region 8 with (at_builtin; refine wpList_append_own _ rfl _ _ 66 rfl W7.heap.size 125 i0 _ 5 48 Tryz.underlying66 hi0 hz0 hz1 hz2 rfl (by decide) _ _ _ rfl hw a M ci (rinoCells E.inos) rfl hrl HCL.out rino_one (by unfold maxLen; omega) (by omega) (by simp) ?_; intro v8 W8 hown8 hgrow8 _; obtain ⟨pp, cc, e8, -, -, -⟩ := own_at hown8; rw [Nat.zero_add] at e8; subst e8)
    have HW8 := Lib.hid (show W8.ownsRow W7.heap.size 125 5 (.slice pp M cc) M (rinoCells E.inos) by simpa using hown8); have HO8 := Lib.hid (own_grown ((Off.refl [] W7).alloc (.cells #[] 125)) hw hgrow8); clear hown8 hgrow8 hw hc7
    go_wp2_with fail
    go_loopw [6] (fun x wr => ∃ i : Nat, x = .int .i64 i ∧ i ≤ M ∧ wr.ownsRow W7.heap.size 125 5 (.slice pp M cc) M (rinoCells (tearL f.torn E.inos i)) ∧ Off [] W7 wr) (fun x _ => M - (intOf x).toNat)
    case atStart => exact ⟨0, rfl, by omega, by simpa [tearL] using HW8.out, HO8.out⟩
    case round =>
      obtain ⟨i, rfl, hi, hown, ho⟩ := hrel; have HO := Lib.hid ho; have HOWN := Lib.hid hown
      by_cases hlt : i < M
      · obtain ⟨m, hm⟩ : ∃ m, E.inos[i]? = some m := ⟨_, List.getElem?_eq_getElem (by rw [HM.out]; exact hlt)⟩
        obtain ⟨pq, cq, e, -, -, hq⟩ := own_at hown; injection e with e1 e2 e3
        subst e1; subst e3; obtain ⟨gg, rfl, hgg, hgl, -, -⟩ := hq (by omega); have hm2 : (tearL f.torn E.inos i)[i]? = some m := by rw [tearL_get (by rw [HM.out]; exact hlt)]; exact hm
        have x3 : wr.cell? ⟨gg, i * 5 + 3, none⟩ = some (.string m.node.data) := own_cell2 hown (rino_get hm2 3 (by omega))
        have x4 : wr.cell? ⟨gg, i * 5 + 4, none⟩ = some (.bool m.dirty) := own_cell2 hown (rino_get hm2 4 (by omega))
        have fr := own_frozen2 hown; have hbf := HB7.out.off ho (by simp); have hcf : wr.cell? ⟨w.heap.size, 3, none⟩ = some (.int .i64 f.torn) := hbf.cell 3
        have hlf := hbf.lt; have HTS := Lib.hid (tearL_succ (t := f.torn) hm); have HM2 := Lib.hid hm2; have hilt : (i : Int) < M := by omega
        have hnf : gg ≠ w.heap.size := by
          have := HB7.out.lt; omega
        have hnf2 : w.heap.size ≠ gg := Ne.symm hnf
        clear hq hown ho hm hm2 hbf
        cases hd : m.dirty
        · rw [hd] at x4
          have HT := Lib.hid (tear_clean7 (t := f.torn) hd); clear hd
          go_wp2_with fail
          refine ⟨⟨i + 1, by congr 1, by omega, ?_, HO.out⟩, by simp only [intOf]; omega⟩
          rw [HTS.out, HT.out, set_same HM2.out]; exact HOWN.out
        rw [hd] at x4; have HT := Lib.hid (tear_dirty (t := f.torn) hd); have hK0 : 0 ≤ min (max f.torn 0) (m.node.data.size : Int) := by omega
        have hK1 : min (max f.torn 0) (m.node.data.size : Int) ≤ m.node.data.size := by omega
        clear hd
        go_wp2_with fail
        go_region
        go_upto_region 13 with fail
        refine code_gen (fun W9 => W9.ownsRow W7.heap.size 125 5 (.slice (some ⟨gg, 0, none⟩) M cc) M ((rinoCells (tearL f.torn E.inos i)).set (i * 5 + 3) (.string (m.node.data.extract 0 (min (max f.torn 0) (m.node.data.size : Int)).toNat))) ∧ Off [] W7 W9) ⟨own_offk (k := []) (own_set2 HOWN.out _ _) ((Off.refl _ _).drew) (by simp), (HO.out.setCell (.inl hgg) _).drew⟩ ?_
        rintro W9 ⟨hw9, ho9⟩; have y4 : W9.cell? ⟨gg, i * 5 + 4, none⟩ = some (.bool m.dirty) := own_cell2 hw9 ((List.getElem?_set_ne (by omega)).trans (rino_get HM2.out 4 (by omega)))
        have fr9 := own_frozen2 hw9; have HW9 := Lib.hid hw9; have HO9 := Lib.hid ho9; clear hw9 ho9 x3 x4 fr hcf hlf
        go_wp2_with fail
        refine ⟨⟨i + 1, by congr 1, by omega, ?_, HO9.out.setCell (.inl hgg) _⟩, by simp only [intOf]; omega⟩
        rw [HTS.out, HT.out, ← rino_set2 _ _ HM2.out]; exact own_set2 HW9.out _ _
      obtain rfl : M = i := by omega
      have hM7 := (HS7.out.off ho).1; have hcz := hM7.blk.cell; have hfz := hM7.blk.frozen; unfold refCells at hcz; clear hown ho hM7
      go_wp2_with fail
      refine bodyPost_end (results_none rfl _ _ _) rfl ⟨rfl, ?_⟩
      exact crash_fin HS7.out HE1.out HM.out HOWN.out HO.out
  rw [show min (max f.keep 0) (nl : Int) = 0 by omega]; have HRN := Lib.hid (rcrash_safe (E := E) (f := f) (by rw [HNL.out]; exact hK))
  go_upto_region 7 with fail
  refine code_gen (fun W7 => ∃ G1 E1, RefS A w p G.blocks W7 G1 E1 ∧ E1 = { E with names := rcrashN E f, safe := rcrashN E f, later := [] } ∧ Blk W7 w.heap.size 23 #[.int .i64 f.at_, .int .i64 f.what, .int .i64 f.keep, .int .i64 f.torn]) ?_ ?_
  · obtain ⟨G1, h1⟩ := crash_safe_st HS.out
    refine ⟨G1, _, by rw [HSV.out] at h1; exact h1, by rw [HRN.out], ?_⟩
    exact ((((HB.out.off ((Off.refl [p] W).setCell (p := ⟨p, 0, none⟩) (.inr (by simp)) _) HPB.out).off ((Off.refl [p] _).setCell (p := ⟨p, 1, none⟩) (.inr (by simp)) _) HPB.out).off ((Off.refl [p] _).setCell (p := ⟨p, 2, none⟩) (.inr (by simp)) _) HPB.out))
  rintro W7 ⟨G1, E1, hS7, hE1, hb7⟩; have HS7 := Lib.hid hS7; have HE1 := Lib.hid hE1; have HB7 := Lib.hid hb7; have hin : E1.inos = E.inos := by rw [hE1]
  have hio := hS7.1.inos; rw [hin] at hio; obtain ⟨pi, ci, hiv, hic, him, hir⟩ := own_at hio; have HIO := Lib.hid hio; obtain ⟨M, hM⟩ : ∃ M, E.inos.length = M := ⟨_, rfl⟩
  have HM := Lib.hid hM; rw [hM] at hiv hic hl hir hio; have hc7 := hS7.1.blk.cell; unfold refCells at hc7; rw [hiv] at hc7; have hw := own_empty W7 W7.heap.size 125 5 (Nat.le_refl _); have hrl := rino_len E.inos; rw [HM.out] at hrl; have hp7 := hS7.1.blk.lt; have HIR := Lib.hid hir; have HIV := Lib.hid (show 0 < M ∨ M = 0 by omega); have HVI := Lib.hid hiv
  clear hS7 hE1 hb7 hin hio hM hir HB HWO hiv
  rcases pi with _ | a
  · obtain rfl : 0 = M := by
      rcases HIV.out with h | h
      · obtain ⟨g, h1, -⟩ := HIR.out h
        cases h1
      exact h.symm
    have hci : ci = 0 := by
      have := HIO.out
      rcases this.2 with ⟨h1, -⟩ | ⟨g, cap, cur, h1, -⟩
      · rw [HVI.out] at h1; injection h1
      rw [HVI.out] at h1; injection h1 with h1; cases h1
    subst hci
    go_upto_region 8 with (at_builtin; refine wpList_append_own_none rfl _ _ 66 rfl W7.heap.size 125 i0 5 Tryz.underlying66 hi0 _ _ _ rfl hw rfl ?_)
    have hnil : E.inos = [] := List.length_eq_zero_iff.1 HM.out
    have HW8 := Lib.hid (show (W7.alloc (.cells #[] 125)).ownsRow W7.heap.size 125 5 (.slice (some ⟨W7.heap.size, 0, none⟩) 0 0) 0 (rinoCells E.inos) by rw [hnil]; exact hw); have HO8 := Lib.hid ((Off.refl [] W7).alloc (.cells #[] 125)); clear hw hc7 hnil
    go_wp2_with fail
    go_loopw [6] (fun x wr => x = .int .i64 0 ∧ Off [] W7 wr ∧ wr.ownsRow W7.heap.size 125 5 (.slice (some ⟨W7.heap.size, 0, none⟩) 0 0) 0 (rinoCells (tearL f.torn E.inos 0))) (fun _ _ => 0)
    case atStart => exact ⟨rfl, HO8.out, by simpa [tearL] using HW8.out⟩
    case round =>
      obtain ⟨rfl, ho, hown⟩ := hrel; have HO := Lib.hid ho; have HOWN := Lib.hid hown; have hM7 := (HS7.out.off ho).1; have hcz := hM7.blk.cell; have hfz := hM7.blk.frozen; unfold refCells at hcz; clear hown ho hM7
      go_wp2_with fail
      refine bodyPost_end (results_none rfl _ _ _) rfl ⟨rfl, ?_⟩
      exact crash_fin HS7.out HE1.out HM.out HOWN.out HO.out
  have hcl : ∀ j u, (rinoCells E.inos)[j]? = some u → (W7.alloc (.cells #[] 125)).cell? (a.add j) = some u := fun j u hj => by
    have hlt := (List.getElem?_eq_some_iff.1 hj).1; obtain ⟨g, h1, -, h3, -, h5⟩ := HIR.out (by omega); injection h1 with h1
    subst h1; rw [addr_add, ((Off.refl [] W7).alloc _).cell (p := ⟨g, j, none⟩) h3 (by simp)]; exact h5 j u hj
  have HCL := Lib.hid hcl; clear hcl
  go_upto_region 8 with (at_builtin; refine wpList_append_own _ rfl _ _ 66 rfl W7.heap.size 125 i0 _ 5 48 Tryz.underlying66 hi0 hz0 hz1 hz2 rfl (by decide) _ _ _ rfl hw a M ci (rinoCells E.inos) rfl hrl HCL.out rino_one (by unfold maxLen; omega) (by omega) (by simp) ?_; intro v8 W8 hown8 hgrow8 _; obtain ⟨pp, cc, e8, -, -, -⟩ := own_at hown8; rw [Nat.zero_add] at e8; subst e8)
  have HW8 := Lib.hid (show W8.ownsRow W7.heap.size 125 5 (.slice pp M cc) M (rinoCells E.inos) by simpa using hown8); have HO8 := Lib.hid (own_grown ((Off.refl [] W7).alloc (.cells #[] 125)) hw hgrow8); clear hown8 hgrow8 hw hc7
  go_wp2_with fail
  go_loopw [6] (fun x wr => ∃ i : Nat, x = .int .i64 i ∧ i ≤ M ∧ wr.ownsRow W7.heap.size 125 5 (.slice pp M cc) M (rinoCells (tearL f.torn E.inos i)) ∧ Off [] W7 wr) (fun x _ => M - (intOf x).toNat)
  case atStart => exact ⟨0, rfl, by omega, by simpa [tearL] using HW8.out, HO8.out⟩
  case round =>
    obtain ⟨i, rfl, hi, hown, ho⟩ := hrel; have HO := Lib.hid ho; have HOWN := Lib.hid hown
    by_cases hlt : i < M
    · obtain ⟨m, hm⟩ : ∃ m, E.inos[i]? = some m := ⟨_, List.getElem?_eq_getElem (by rw [HM.out]; exact hlt)⟩
      obtain ⟨pq, cq, e, -, -, hq⟩ := own_at hown; injection e with e1 e2 e3
      subst e1; subst e3; obtain ⟨gg, rfl, hgg, hgl, -, -⟩ := hq (by omega); have hm2 : (tearL f.torn E.inos i)[i]? = some m := by rw [tearL_get (by rw [HM.out]; exact hlt)]; exact hm
      have x3 : wr.cell? ⟨gg, i * 5 + 3, none⟩ = some (.string m.node.data) := own_cell2 hown (rino_get hm2 3 (by omega))
      have x4 : wr.cell? ⟨gg, i * 5 + 4, none⟩ = some (.bool m.dirty) := own_cell2 hown (rino_get hm2 4 (by omega))
      have fr := own_frozen2 hown; have hbf := HB7.out.off ho (by simp); have hcf : wr.cell? ⟨w.heap.size, 3, none⟩ = some (.int .i64 f.torn) := hbf.cell 3
      have hlf := hbf.lt; have HTS := Lib.hid (tearL_succ (t := f.torn) hm); have HM2 := Lib.hid hm2; have hilt : (i : Int) < M := by omega
      have hnf : gg ≠ w.heap.size := by
        have := HB7.out.lt; omega
      have hnf2 : w.heap.size ≠ gg := Ne.symm hnf
      clear hq hown ho hm hm2 hbf
      cases hd : m.dirty
      · rw [hd] at x4
        have HT := Lib.hid (tear_clean7 (t := f.torn) hd); clear hd
        go_wp2_with fail
        refine ⟨⟨i + 1, by congr 1, by omega, ?_, HO.out⟩, by simp only [intOf]; omega⟩
        rw [HTS.out, HT.out, set_same HM2.out]; exact HOWN.out
      rw [hd] at x4; have HT := Lib.hid (tear_dirty (t := f.torn) hd); have hK0 : 0 ≤ min (max f.torn 0) (m.node.data.size : Int) := by omega
      have hK1 : min (max f.torn 0) (m.node.data.size : Int) ≤ m.node.data.size := by omega
      clear hd
      go_wp2_with fail
      go_region
      go_upto_region 13 with fail
      refine code_gen (fun W9 => W9.ownsRow W7.heap.size 125 5 (.slice (some ⟨gg, 0, none⟩) M cc) M ((rinoCells (tearL f.torn E.inos i)).set (i * 5 + 3) (.string (m.node.data.extract 0 (min (max f.torn 0) (m.node.data.size : Int)).toNat))) ∧ Off [] W7 W9) ⟨own_offk (k := []) (own_set2 HOWN.out _ _) ((Off.refl _ _).drew) (by simp), (HO.out.setCell (.inl hgg) _).drew⟩ ?_
      rintro W9 ⟨hw9, ho9⟩; have y4 : W9.cell? ⟨gg, i * 5 + 4, none⟩ = some (.bool m.dirty) := own_cell2 hw9 ((List.getElem?_set_ne (by omega)).trans (rino_get HM2.out 4 (by omega)))
      have fr9 := own_frozen2 hw9; have HW9 := Lib.hid hw9; have HO9 := Lib.hid ho9; clear hw9 ho9 x3 x4 fr hcf hlf
      go_wp2_with fail
      refine ⟨⟨i + 1, by congr 1, by omega, ?_, HO9.out.setCell (.inl hgg) _⟩, by simp only [intOf]; omega⟩
      rw [HTS.out, HT.out, ← rino_set2 _ _ HM2.out]; exact own_set2 HW9.out _ _
    obtain rfl : M = i := by omega
    have hM7 := (HS7.out.off ho).1; have hcz := hM7.blk.cell; have hfz := hM7.blk.frozen; unfold refCells at hcz; clear hown ho hM7
    go_wp2_with fail
    refine bodyPost_end (results_none rfl _ _ _) rfl ⟨rfl, ?_⟩
    exact crash_fin HS7.out HE1.out HM.out HOWN.out HO.out
end
end Go.Proofs.YtgcfkljooabjjaaGreatDoor
