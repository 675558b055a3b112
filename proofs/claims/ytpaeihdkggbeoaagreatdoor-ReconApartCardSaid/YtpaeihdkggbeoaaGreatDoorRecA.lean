/- recon with both replicas exchanged, items that lie apart, in plain words; hawserlaw12.ReconApart: the walk. (Merged by merge.py.) Conditions: what each lemma states; the tables of unicode/utf8 are laid. -/
import Derived.Test.YtpaeihdkggbeoaaGreatDoorAgreed
import Derived.Test.YtpaeihdkggbeoaaGreatDoorRecC
namespace Go.Proofs.YtpaeihdkggbeoaaGreatDoor
open Go.RowKit Go.Op
theorem sort_perm {l m : List ByteArray} (h : l.Perm m) : sortS l = sortS m := by
  unfold sortS
  congr 1
  have tr : ∀ a b c : Str, decide (a ≤ b) = true → decide (b ≤ c) = true → decide (a ≤ c) = true := fun a b c h1 h2 => by
    rw [decide_eq_true_eq] at *; exact List.le_trans h1 h2
  have tot : ∀ a b : Str, (decide (a ≤ b) || decide (b ≤ a)) = true := fun a b => by
    rw [Bool.or_eq_true, decide_eq_true_eq, decide_eq_true_eq]; exact List.le_total a b
  refine List.Perm.eq_of_pairwise (le := fun a b => decide (a ≤ b) = true) (fun a b _ _ h1 h2 => ?_) (List.pairwise_mergeSort tr tot _) (List.pairwise_mergeSort tr tot _) ?_
  · rw [decide_eq_true_eq] at h1 h2; exact List.le_antisymm h1 h2
  · exact ((List.mergeSort_perm _ _).trans (h.map str)).trans (List.mergeSort_perm _ _).symm
def Vw.swap (w : Vw) : Vw := ⟨w.path, w.o, w.b, w.a⟩
theorem names_swap (w : Vw) : namesV w.swap = namesV w := by
  unfold namesV
  congr 1
  exact sort_perm (List.Perm.append_left _ List.perm_append_comm)
theorem below_swap (w : Vw) : belowV w.swap = (belowV w).map Vw.swap := by
  unfold belowV
  rw [names_swap, List.map_map]
  rfl
def swapK (k : Int) : Int := if k = 2 then 3 else if k = 3 then 2 else k
def It.swap (i : It) : It := ⟨i.path, swapK i.what⟩
theorem items_swap : ∀ (f : Nat) (w : Vw), itemsV f w.swap = (itemsV f w).map It.swap
  | 0, _ => rfl
  | f + 1, w => by
    show (if w.b = w.a then (if w.o = w.b then [] else [It.mk w.path 1]) else if (dirV w.b && dirV w.a) = true then (belowV w.swap).flatMap (itemsV f) else if w.o = w.a then [It.mk w.path 2] else if w.o = w.b then [It.mk w.path 3] else [It.mk w.path 4]) = (if w.a = w.b then (if w.o = w.a then [] else [It.mk w.path 1]) else if (dirV w.a && dirV w.b) = true then (belowV w).flatMap (itemsV f) else if w.o = w.b then [It.mk w.path 2] else if w.o = w.a then [It.mk w.path 3] else [It.mk w.path 4]).map It.swap
    by_cases hab : w.a = w.b
    · rw [if_pos hab, if_pos hab.symm, hab]
      by_cases h : w.o = w.b
      · rw [if_pos h]; rfl
      · rw [if_neg h]; rfl
    · rw [if_neg hab, if_neg (fun e => hab e.symm)]
      cases ha : dirV w.a <;> cases hb : dirV w.b <;> simp only [Bool.and_self, Bool.and_false, Bool.and_true, if_true, Bool.false_eq_true, if_false]
      case true.true =>
        rw [below_swap, List.flatMap_map, List.map_flatMap]
        exact congrArg (fun g => (belowV w).flatMap g) (funext fun y => items_swap f y)
      all_goals
        by_cases h1 : w.o = w.b
        · have h2 : ¬ w.o = w.a := fun e => hab (by rw [← e, h1])
          rw [if_pos h1, if_neg h2, if_pos h1]; rfl
        · by_cases h2 : w.o = w.a
          · simp only [if_neg h1, if_pos h2]; rfl
          · simp only [if_neg h1, if_neg h2]; rfl
theorem agreed_swap : ∀ (f : Nat) (w : Vw), agreedV f w.swap = agreedV f w
  | 0, _ => rfl
  | f + 1, w => by
    show (if w.b = w.a then laidV w.path w.b else if (dirV w.b && dirV w.a) = true then ⟨w.path, 2, ⟨#[]⟩, 0⟩ :: (belowV w.swap).flatMap (agreedV f) else laidV w.path w.o) = (if w.a = w.b then laidV w.path w.a else if (dirV w.a && dirV w.b) = true then ⟨w.path, 2, ⟨#[]⟩, 0⟩ :: (belowV w).flatMap (agreedV f) else laidV w.path w.o)
    by_cases hab : w.a = w.b
    · rw [if_pos hab, if_pos hab.symm, hab]
    · rw [if_neg hab, if_neg (fun e => hab e.symm), Bool.and_comm, below_swap, List.flatMap_map]
      have : (belowV w).flatMap (fun y => agreedV f y.swap) = (belowV w).flatMap (agreedV f) := congrArg (fun g => (belowV w).flatMap g) (funext fun y => agreed_swap f y)
      rw [this]
theorem okName_parts {s : Str} (h : okName s = true) : parts s = [s] := by
  refine parts_clean s fun hm => ?_
  unfold okName at h
  simp only [Bool.and_eq_true] at h
  have h1 := h.2
  unfold noSep at h1
  rw [List.all_eq_true] at h1
  have := h1 47 hm
  simp at this
/-- a name has a part that is not empty -/
theorem part_ne {v : List Node} {x : ByteArray} (h : x ∈ inV v) : partV v x ≠ [] := by
  unfold inV at h
  split at h
  · rename_i hd
    have ht : okTree v.tail = true := by
      cases hk : okTree v.tail
      · unfold namesR at h; rw [hk] at h; cases h
      · rfl
    obtain ⟨m, hm, hp⟩ := names_found ht h
    rw [if_pos rfl] at hp
    have hk : okPath (str x) = true := by rw [← hp]; exact okTree_path ht hm
    unfold partV
    rw [if_pos hd, atR_path ht hk]
    have : m ∈ inAt v.tail (str x) := mem_inAt.2 ⟨hm, by rw [hp]; exact within_self hk⟩
    intro e
    rw [List.map_eq_nil_iff] at e
    rw [e] at this
    cases this
  · cases h
def inX (x : ByteArray) (n : Node) : Bool := okPath (str x) && within n.p (str x)
theorem atR_le {t : List Node} {x : ByteArray} (hx : str x ≠ []) : (atR t (str x)).length ≤ (t.filter (inX x)).length := by
  unfold atR
  rw [if_neg hx]
  split
  · split
    · rename_i hk
      rw [List.length_map]
      unfold inAt
      have : inX x = fun n : Node => within n.p (str x) := by funext n; unfold inX; rw [hk, Bool.true_and]
      rw [this]
      exact Nat.le_refl _
    · simp
  · simp
theorem one_name {N : List ByteArray} (hN : N.Nodup) (hok : ∀ x ∈ N, okName (str x) = true) (n : Node) : (N.filter fun x => inX x n).length ≤ 1 := by
  have hd : (N.filter fun x => inX x n).Nodup := hN.filter _
  have hall : ∀ a ∈ N.filter (fun x => inX x n), ∀ b ∈ N.filter (fun x => inX x n), a = b := fun a ha b hb => by
    obtain ⟨ha1, ha2⟩ := List.mem_filter.1 ha
    obtain ⟨hb1, hb2⟩ := List.mem_filter.1 hb
    unfold inX at ha2 hb2
    rw [Bool.and_eq_true] at ha2 hb2
    obtain ⟨_, r1, e1⟩ := within_pre ha2.1 ha2.2
    obtain ⟨_, r2, e2⟩ := within_pre hb2.1 hb2.2
    rw [okName_parts (hok a ha1)] at e1
    rw [okName_parts (hok b hb1)] at e2
    rw [← e2] at e1
    exact str_inj (List.cons.inj e1).1
  match hl : N.filter (fun x => inX x n), hd, hall with
  | [], _, _ => simp
  | [a], _, _ => simp
  | a :: b :: l, hd, hall =>
    exfalso
    have := hall a (by simp) b (by simp)
    subst this
    simp at hd
theorem sum_inX (N : List ByteArray) (t : List Node) : (N.map fun x => (t.filter (inX x)).length).sum = (t.map fun n => (N.filter fun x => inX x n).length).sum := by
  induction t with
  | nil =>
    induction N with
    | nil => rfl
    | cons x N ih => simpa using ih
  | cons n t ih =>
    rw [List.map_cons, List.sum_cons, ← ih]
    clear ih
    induction N with
    | nil => simp
    | cons x N ih2 =>
      simp only [List.map_cons, List.sum_cons, List.filter_cons] at ih2 ⊢
      by_cases h : inX x n = true
      · simp only [h, if_true, List.length_cons] at ih2 ⊢; omega
      · simp only [Bool.not_eq_true] at h
        simp only [h, Bool.false_eq_true, if_false] at ih2 ⊢; omega
/-- the parts of different names are apart -/
theorem parts_sum {N : List ByteArray} (hN : N.Nodup) (hok : ∀ x ∈ N, okName (str x) = true) (v : List Node) : (N.map fun x => (partV v x).length).sum ≤ v.length - 1 := by
  have h1 : ∀ M : List ByteArray, (∀ x ∈ M, okName (str x) = true) → (M.map fun x => (partV v x).length).sum ≤ (M.map fun x => (v.tail.filter (inX x)).length).sum := fun M => by
    induction M with
    | nil => intro _; simp
    | cons x M ih =>
      intro hM
      have h2 := ih (fun y hy => hM y (List.mem_cons_of_mem _ hy))
      have h3 : (partV v x).length ≤ (v.tail.filter (inX x)).length := by
        unfold partV
        split
        · exact atR_le (okName_ne (hM x (by simp)))
        · simp
      simp only [List.map_cons, List.sum_cons]
      omega
  refine Nat.le_trans (h1 N hok) ?_
  rw [sum_inX]
  have h4 : ∀ t : List Node, (t.map fun n => (N.filter fun x => inX x n).length).sum ≤ t.length := fun t => by
    induction t with
    | nil => simp
    | cons n t ih =>
      have := one_name hN hok n
      simp only [List.map_cons, List.sum_cons, List.length_cons]
      omega
  have := h4 v.tail
  rw [List.length_tail] at this
  exact this
def sizeV (w : Vw) : Nat := w.o.length + w.a.length + w.b.length
theorem below_sum {w : Vw} (hN : (namesV w).Nodup) : ((belowV w).map sizeV).sum ≤ (w.o.length - 1) + (w.a.length - 1) + (w.b.length - 1) := by
  have hok : ∀ x ∈ namesV w, okName (str x) = true := fun x hx => namesV_mem hx
  have h1 := parts_sum hN hok w.o
  have h2 := parts_sum hN hok w.a
  have h3 := parts_sum hN hok w.b
  have h4 : ∀ M : List ByteArray, ((M.map (subV w)).map sizeV).sum = (M.map fun x => (partV w.o x).length).sum + (M.map fun x => (partV w.a x).length).sum + (M.map fun x => (partV w.b x).length).sum := fun M => by
    induction M with
    | nil => rfl
    | cons x M ih =>
      simp only [List.map_cons, List.sum_cons]
      rw [ih]
      show (partV w.o x).length + (partV w.a x).length + (partV w.b x).length + _ = _
      omega
  have h5 := h4 (namesV w)
  unfold belowV
  omega
theorem below_one {w y : Vw} (hy : y ∈ belowV w) : 1 ≤ sizeV y := by
  unfold belowV at hy
  obtain ⟨x, hx, rfl⟩ := List.mem_map.1 hy
  have h1 := sortS_mem (compS_mem hx)
  show 1 ≤ (partV w.o x).length + (partV w.a x).length + (partV w.b x).length
  rcases List.mem_append.1 h1 with h2 | h2
  · have := List.length_pos_iff.2 (part_ne h2); omega
  · rcases List.mem_append.1 h2 with h3 | h3
    · have := List.length_pos_iff.2 (part_ne h3); omega
    · have := List.length_pos_iff.2 (part_ne h3); omega
theorem flat_sum {α : Type} (g : Vw → List α) (L : List Vw) (h : ∀ y ∈ L, (g y).length ≤ sizeV y) : (L.flatMap g).length ≤ (L.map sizeV).sum := by
  induction L with
  | nil => simp
  | cons y L ih =>
    have h1 := h y (by simp)
    have h2 := ih fun z hz => h z (List.mem_cons_of_mem _ hz)
    rw [List.flatMap_cons, List.length_append, List.map_cons, List.sum_cons]
    omega
theorem items_len (hnd : ∀ w, (namesV w).Nodup) : ∀ (f : Nat) (w : Vw), 1 ≤ sizeV w → (itemsV f w).length ≤ sizeV w
  | 0, _, _ => by unfold itemsV; simp
  | f + 1, w, hw => by
    have h1 : ∀ l : List It, l.length ≤ 1 → l.length ≤ sizeV w := fun l h => by omega
    unfold itemsV
    split
    · exact h1 _ (by split <;> simp)
    · split
      · refine Nat.le_trans (flat_sum _ _ fun y hy => items_len hnd f y (below_one hy)) (Nat.le_trans (below_sum (hnd w)) ?_)
        unfold sizeV; omega
      · exact h1 _ (by split; simp; split <;> simp)
theorem agreed_len (hnd : ∀ w, (namesV w).Nodup) : ∀ (f : Nat) (w : Vw), (agreedV f w).length ≤ sizeV w
  | 0, _ => by unfold agreedV; simp
  | f + 1, w => by
    have hl : ∀ (p : ByteArray) (v : List Node), (laidV p v).length = v.length := fun p v => by unfold laidV genAll; rw [List.length_mapIdx]
    unfold agreedV
    split
    · rw [hl]; unfold sizeV; omega
    · split
      · rename_i hd
        rw [Bool.and_eq_true] at hd
        have ha : 1 ≤ w.a.length := List.length_pos_iff.2 fun e => by rw [e] at hd; cases hd.1
        have h2 := flat_sum (agreedV f) (belowV w) fun y _ => agreed_len hnd f y
        have h3 := below_sum (hnd w)
        rw [List.length_cons]
        unfold sizeV
        omega
      · rw [hl]; unfold sizeV; omega
theorem compact_nodup {zs : List Str} (h : zs.Pairwise fun a b => a ≤ b) : (Lib.compact zs).Nodup := by
  unfold Lib.compact Lib.compactUpTo
  have hp : ((List.range zs.length).filter (Lib.keeps zs.toArray)).Pairwise (fun i j => i < j) := (List.pairwise_lt_range).filter _
  unfold List.Nodup
  rw [List.pairwise_map, List.pairwise_iff_getElem]
  intro i j hi hj hij e
  have hlt := List.pairwise_iff_getElem.1 hp i j hi hj hij
  have mj := List.mem_filter.1 (List.getElem_mem hj)
  generalize ((List.range zs.length).filter (Lib.keeps zs.toArray))[i] = a at *
  generalize ((List.range zs.length).filter (Lib.keeps zs.toArray))[j] = b at *
  have hb := List.mem_range.1 mj.1
  have g : ∀ k, k < zs.length → zs.toArray[k]! = zs[k]! := fun k hk => by
    rw [getElem!_pos zs.toArray k (by simpa using hk), getElem!_pos zs k hk]; simp
  rw [g a (by omega), g b hb] at e
  have hk := mj.2
  unfold Lib.keeps at hk
  rw [decide_eq_true_eq] at hk
  rcases hk with h0 | h0
  · omega
  · rw [g b hb, g (b - 1) (by omega)] at h0
    have hne : zs[b]! ≠ zs[b - 1]! := h0
    have hle : ∀ p q, p < q → q < zs.length → zs[p]! ≤ zs[q]! := fun p q h1 h2 => by
      rw [getElem!_pos zs p (by omega), getElem!_pos zs q h2]
      exact List.pairwise_iff_getElem.1 h p q (by omega) h2 h1
    have h1 : zs[b - 1]! ≤ zs[b]! := hle _ _ (by omega) hb
    have h2 : zs[b]! ≤ zs[b - 1]! := by
      rcases Nat.lt_or_ge a (b - 1) with h3 | h3
      · rw [← e]; exact hle _ _ h3 (by omega)
      · have : a = b - 1 := by omega
        rw [← e, this]; exact List.le_refl _
    exact hne (List.le_antisymm h2 h1)
theorem names_nodup (w : Vw) : (namesV w).Nodup := by
  unfold namesV compS sortS
  rw [List.map_map]
  have hm : ∀ l : List Str, l.map (str ∘ bs) = l := fun l => by
    rw [show (str ∘ bs : Str → Str) = id from by funext x; exact str_bs x, List.map_id]
  rw [hm]
  unfold List.Nodup
  rw [List.pairwise_map]
  refine (compact_nodup ?_).imp fun {a b} h e => h (by rw [← str_bs a, e, str_bs])
  refine (List.pairwise_mergeSort (fun a b c h1 h2 => ?_) (fun a b => ?_) _).imp fun {a b} h => by simpa using h
  · rw [decide_eq_true_eq] at *; exact List.le_trans h1 h2
  · rw [Bool.or_eq_true, decide_eq_true_eq, decide_eq_true_eq]; exact List.le_total a b
theorem itCells_get : ∀ {L : List It} {i : Nat} {x : It}, L[i]? = some x → (itCells L)[i * 2]? = some (.string x.path) ∧ (itCells L)[i * 2 + 1]? = some (.int .i64 x.what)
  | [], _, _, h => by simp at h
  | y :: L, 0, x, h => by
    simp only [List.getElem?_cons_zero, Option.some.injEq] at h
    subst h
    exact ⟨rfl, rfl⟩
  | y :: L, i + 1, x, h => by
    have h' : L[i]? = some x := by simpa using h
    have r := itCells_get h'
    have e : itCells (y :: L) = .string y.path :: .int .i64 y.what :: itCells L := rfl
    rw [e, show (i + 1) * 2 = i * 2 + 1 + 1 by omega]
    exact r
theorem own_it {W : World} {base n c : Nat} {p : Option Addr} {L : List It} (h : W.ownsRow base 42 2 (.slice p n c) n (itCells L)) {i : Nat} {x : It} (hi : L[i]? = some x) (hn : L.length = n) :
    ∃ a : Addr, p = some a ∧ a.block < W.heap.size ∧ W.cell? (a.add (i * 2)) = some (.string x.path) ∧ W.cell? ⟨(a.add (i * 2)).block, (a.add (i * 2)).off + 1, none⟩ = some (.int .i64 x.what) := by
  have hil : i < L.length := (List.getElem?_eq_some_iff.1 hi).1
  obtain ⟨k, rfl⟩ : ∃ k, n = k + 1 := ⟨n - 1, by omega⟩
  obtain ⟨g, cap, e⟩ := ownsRow_succ h
  injection e with e1 e2 e3
  subst e1; subst e3
  obtain ⟨c1, c2⟩ := itCells_get hi
  have d1 := h.cells (g := g) rfl _ _ c1
  have d2 := h.cells (g := g) rfl _ _ c2
  refine ⟨⟨g, 0, none⟩, rfl, (h.lt g rfl).2, d1, ?_⟩
  rw [addr_add] at d2 ⊢
  exact d2
theorem rsameT_v (T : List Node) (p q : Option Addr) (n c d : Nat) (w : World) (hn : T.length = n) (hl : n ≤ 1099511627776) (hp : Row w p T) (hq : Row w q T) :
    Calls Tryz.prog 12 #[.slice p n c, .slice q n d] w fun e w' => e = .returned (.bool true) ∧ Off [] w w' := by
  subst hn
  have := rsame_any T T p q c d w hl hl hp hq
  rw [decide_eq_true rfl] at this
  exact this
theorem swap_path (x : It) : x.swap.path = x.path := rfl
theorem swap3 {x : It} (h : x.what = 3) : x.swap = ⟨x.path, 2⟩ := by unfold It.swap swapK; rw [h]; rfl
theorem swap2 {x : It} (h : x.what = 2) : x.swap = ⟨x.path, 3⟩ := by unfold It.swap swapK; rw [h]; rfl
theorem swap0 {x : It} (h : ¬ x.what = 3) (h' : ¬ x.what = 2) : x.swap = ⟨x.path, x.what⟩ := by unfold It.swap swapK; rw [if_neg h', if_neg h]
theorem eqIt_same (x y : It) (h : x = y) (w : World) : (Op.equalIn 10000 42 (.agg #[.string x.path, .int .i64 x.what]) (.agg #[.string y.path, .int .i64 y.what])).run Tryz.prog w = .ok true w := by
  rw [eqItem x y w, decide_eq_true ⟨by rw [h], by rw [h]⟩]
theorem three_swap (o a b : List Node) : okThree o b a = okThree o a b := by
  unfold okThree
  rw [Bool.and_comm (okTree b)]
theorem items_bound {o a b : List Node} (h : okThree o a b = true) : (itemsV 2000 (rootV o a b)).length ≤ 1000000000 ∧ (agreedV 2000 (rootV o a b)).length ≤ 1000000000 := by
  unfold okThree at h
  simp only [Bool.and_eq_true] at h
  have l1 := okTree_len h.1
  have l2 := okTree_len h.2.1
  have l3 := okTree_len h.2.2
  have hs : sizeV (rootV o a b) = (o.length + 1) + (a.length + 1) + (b.length + 1) := rfl
  have h1 := items_len names_nodup 2000 (rootV o a b) (by omega)
  have h2 := agreed_len names_nodup 2000 (rootV o a b)
  omega
theorem compact_has {zs : List Str} {x : Str} (h : x ∈ zs) : x ∈ Lib.compact zs := by
  obtain ⟨j, hj, rfl⟩ := List.getElem_of_mem h
  have key : ∀ j (hj : j < zs.length), zs[j] ∈ Lib.compact zs := fun j => by
    induction j with
    | zero =>
      intro hj
      unfold Lib.compact Lib.compactUpTo
      refine List.mem_map.2 ⟨0, List.mem_filter.2 ⟨List.mem_range.2 hj, ?_⟩, ?_⟩
      · unfold Lib.keeps; simp
      · rw [getElem!_pos zs.toArray 0 (by simpa using hj)]; simp
    | succ j ih =>
      intro hj
      by_cases e : zs[j + 1] = zs[j]
      · rw [e]; exact ih (by omega)
      · unfold Lib.compact Lib.compactUpTo
        refine List.mem_map.2 ⟨j + 1, List.mem_filter.2 ⟨List.mem_range.2 hj, ?_⟩, ?_⟩
        · unfold Lib.keeps
          rw [decide_eq_true_eq]
          right
          rw [getElem!_pos zs.toArray (j + 1) (by simpa using hj), getElem!_pos zs.toArray (j + 1 - 1) (by simp; omega)]
          simpa using e
        · rw [getElem!_pos zs.toArray (j + 1) (by simpa using hj)]; simp
  exact key j hj
theorem names_all {w : Vw} {x : ByteArray} (h : x ∈ inV w.o ∨ x ∈ inV w.a ∨ x ∈ inV w.b) : x ∈ namesV w := by
  unfold namesV compS
  refine List.mem_map.2 ⟨str x, compact_has ?_, bs_str x⟩
  unfold sortS
  rw [List.map_map, show (str ∘ bs : Str → Str) = id from by funext y; exact str_bs y, List.map_id]
  refine List.mem_mergeSort.2 (List.mem_map.2 ⟨x, ?_, rfl⟩)
  rcases h with h | h | h
  · exact List.mem_append_left _ h
  · exact List.mem_append_right _ (List.mem_append_left _ h)
  · exact List.mem_append_right _ (List.mem_append_right _ h)

/-! ### a path, or the root -/
def okP (P : ByteArray) : Prop := str P = [] ∨ okPath (str P) = true
theorem belowP_root {P x : ByteArray} (h : str P = []) : belowP P x = x := by unfold belowP; rw [if_pos h]
theorem belowP_str {P x : ByteArray} (h : str P ≠ []) : str (belowP P x) = str P ++ 47 :: str x := by unfold belowP; rw [if_neg h]; exact str_slash _ _
theorem belowP_ne {P x : ByteArray} (hx : str x ≠ []) : str (belowP P x) ≠ [] := by
  by_cases h : str P = []
  · rw [belowP_root h]; exact hx
  · rw [belowP_str h]; simp
/-- what stands within a name's path in the value of a directory -/
theorem part_at {t : List Node} {P x : ByteArray} (ht : okTree t = true) (hP : okP P) (hb : okPath (str (belowP P x)) = true) : partV (atR t (str P)) x = atR t (str (belowP P x)) := by
  by_cases h0 : str P = []
  · rw [belowP_root h0] at hb ⊢
    have e : atR t (str P) = rootN :: t := by unfold atR; rw [if_pos ht, if_pos h0]
    rw [e]
    unfold partV
    rw [if_pos (show dirV (rootN :: t) = true from rfl)]; rfl
  have hp : okPath (str P) = true := hP.resolve_left h0
  rw [belowP_str h0] at hb ⊢
  have hx : okPath (str x) = true := okPath_tail hb
  rw [atR_path ht hp, atR_path ht hb]
  have hsub : ∀ n ∈ t, within n.p (str P ++ 47 :: str x) = true → within n.p (str P) = true ∧ n.p ≠ str P := fun n hn hw => by
    have hk := okTree_path ht hn
    rcases (within_iff hk hb).1 hw with h | ⟨s, h⟩
    · refine ⟨(within_iff hk hp).2 (.inr ⟨_, h⟩), fun e => ?_⟩
      have := congrArg List.length (e.symm.trans h)
      simp at this
    · refine ⟨(within_iff hk hp).2 (.inr ⟨str x ++ 47 :: s, by rw [h]; simp⟩), fun e => ?_⟩
      have := congrArg List.length (e.symm.trans h)
      simp at this
  have hin2 : inAt t (str P ++ 47 :: str x) = (inAt t (str P)).filter fun n => within n.p (str P ++ 47 :: str x) := by
    unfold inAt
    rw [List.filter_filter]
    refine List.filter_congr fun n hn => ?_
    cases hw : within n.p (str P ++ 47 :: str x)
    · simp
    · rw [(hsub n hn hw).1]; rfl
  rcases inAt_shape ht hp with h | ⟨f, G, h, hf, hk, hG⟩
  · rw [hin2, h]
    unfold partV
    rw [if_neg (by simp [dirV])]; rfl
  · have hft : f ∈ t := (mem_inAt.1 (by rw [h]; simp)).1
    have hff : within f.p (str P ++ 47 :: str x) = false := by
      cases hw : within f.p (str P ++ 47 :: str x)
      · rfl
      · exact absurd hf (hsub f hft hw).2
    rw [hin2, h, List.filter_cons, if_neg (by rw [hff]; simp), List.map_cons]
    by_cases hk2 : f.kind = 2
    · have hdir : dirV (trimN (str P) f :: G.map (trimN (str P))) = true := decide_eq_true hk2
      unfold partV
      rw [if_pos hdir, List.tail_cons]
      have hv := okVal_at ht hp
      rw [h, List.map_cons] at hv
      have hokr : okTree (G.map (trimN (str P))) = true := by
        rcases (okVal_cons hv).2.2.2 with h1 | h1
        · rw [h1]; rfl
        · exact h1.2
      rw [atR_path hokr hx]
      unfold inAt
      rw [List.filter_map, List.map_map]
      have hw : ∀ g ∈ G, ((fun n : Node => within n.p (str x)) ∘ trimN (str P)) g = within g.p (str P ++ 47 :: str x) := fun g hg => by
        obtain ⟨s, hs⟩ := hG g hg
        have hgt : g ∈ t := (mem_inAt.1 (by rw [h]; exact List.mem_cons_of_mem _ hg)).1
        have hgk := okTree_path ht hgt
        show within (trimN (str P) g).p (str x) = _
        rw [trim_p hs]
        rw [hs] at hgk ⊢
        have hsk := okPath_tail hgk
        rw [Bool.eq_iff_iff, within_iff hsk hx, within_iff hgk hb]
        constructor
        · rintro (e | ⟨r, e⟩)
          · exact .inl (by rw [e])
          · exact .inr ⟨r, by rw [e]; simp⟩
        · rintro (e | ⟨r, e⟩)
          · exact .inl (by simpa using e)
          · exact .inr ⟨r, by simpa using e⟩
      rw [List.filter_congr hw]
      refine List.map_congr_left fun g hg => ?_
      obtain ⟨s, hs⟩ := hG g (List.mem_filter.1 hg).1
      show trimN (str x) (trimN (str P) g) = trimN (str P ++ 47 :: str x) g
      unfold trimN
      have e1 : ({ g with path := bs (g.p.drop ((str P).length + 1)) } : Node).p = g.p.drop ((str P).length + 1) := str_bs _
      rw [e1, List.drop_drop]
      have e2 : (str P ++ 47 :: str x).length + 1 = (str P).length + 1 + ((str x).length + 1) := by simp; omega
      rw [e2]
    · have hG0 : G = [] := by
        by_cases e : G = []
        · exact e
        · exact absurd (hk e) hk2
      subst hG0
      unfold partV
      rw [if_neg (show ¬ dirV (trimN (str P) f :: List.map (trimN (str P)) []) = true from fun e => hk2 (of_decide_eq_true e))]; rfl
/-- the names in the value at a path are those that stand right in it -/
theorem in_at {t : List Node} {P : ByteArray} (ht : okTree t = true) (hP : okP P) : inV (atR t (str P)) = namesR t (str P) := by
  by_cases h0 : str P = []
  · have e : atR t (str P) = rootN :: t := by unfold atR; rw [if_pos ht, if_pos h0]
    rw [e, h0]
    unfold inV
    rw [if_pos (show dirV (rootN :: t) = true from rfl)]; rfl
  have hp : okPath (str P) = true := hP.resolve_left h0
  rw [namesR_eq ht, atR_path ht hp]
  have hsub : ∀ n ∈ t, parent n.p = str P → within n.p (str P) = true ∧ n.p ≠ str P := fun n hn hw => by
    have hk := okTree_path ht hn
    have h1 := path_whole hk
    rw [hw, if_neg h0] at h1
    refine ⟨(within_iff hk hp).2 (.inr ⟨_, h1⟩), fun e => ?_⟩
    have := congrArg List.length (e.symm.trans h1)
    simp at this
  have hin2 : namesOf t (str P) = ((inAt t (str P)).filter fun n => decide (parent n.p = str P)).map fun n => bs (base n.p) := by
    unfold namesOf inAt
    rw [List.filter_filter]
    congr 1
    refine List.filter_congr fun n hn => ?_
    by_cases hw : parent n.p = str P
    · rw [(hsub n hn hw).1]; simp
    · simp [hw]
  rw [hin2]
  rcases inAt_shape ht hp with h | ⟨f, G, h, hf, hk, hG⟩
  · rw [h]; rfl
  · have hft : f ∈ t := (mem_inAt.1 (by rw [h]; simp)).1
    have hff : ¬ parent f.p = str P := fun e => (hsub f hft e).2 hf
    rw [h, List.filter_cons, if_neg (by simpa using hff), List.map_cons]
    by_cases hk2 : f.kind = 2
    · have hdir : dirV (trimN (str P) f :: G.map (trimN (str P))) = true := decide_eq_true hk2
      unfold inV
      rw [if_pos hdir, List.tail_cons]
      have hv := okVal_at ht hp
      rw [h, List.map_cons] at hv
      have hokr : okTree (G.map (trimN (str P))) = true := by
        rcases (okVal_cons hv).2.2.2 with h1 | h1
        · rw [h1]; rfl
        · exact h1.2
      rw [namesR_eq hokr]
      unfold namesOf
      rw [List.filter_map, List.map_map]
      have hone : ∀ g ∈ G, ∃ s, g.p = str P ++ 47 :: s ∧ okPath s = true ∧ (trimN (str P) g).p = s ∧ okPath (str P ++ 47 :: s) = true := fun g hg => by
        obtain ⟨s, hs⟩ := hG g hg
        have hgk := okTree_path ht (mem_inAt.1 (show g ∈ inAt t (str P) by rw [h]; exact List.mem_cons_of_mem _ hg)).1
        rw [hs] at hgk
        exact ⟨s, hs, okPath_tail hgk, trim_p hs, hgk⟩
      have hw : ∀ g ∈ G, ((fun n : Node => decide (parent n.p = [])) ∘ trimN (str P)) g = decide (parent g.p = str P) := fun g hg => by
        obtain ⟨s, hs, h1, h2, h3⟩ := hone g hg
        show decide (parent (trimN (str P) g).p = []) = _
        rw [h2, hs, parent_sub hp h1 h3]
        by_cases e : parent s = []
        · simp [e]
        · rw [if_neg e]; simp [e]
      rw [List.filter_congr hw]
      refine List.map_congr_left fun g hg => ?_
      obtain ⟨s, hs, h1, h2, h3⟩ := hone g (List.mem_filter.1 hg).1
      show bs (base (trimN (str P) g).p) = bs (base g.p)
      rw [h2, hs]
      congr 1
      have e1 := parts_split h1
      have e2 := parts_split h3
      rw [parts_append, e1, ← List.append_assoc] at e2
      exact (List.append_inj' e2 rfl).2 |> List.cons.inj |>.1
    · have hG0 : G = [] := by
        by_cases e : G = []
        · exact e
        · exact absurd (hk e) hk2
      subst hG0
      unfold inV
      rw [if_neg (show ¬ dirV (trimN (str P) f :: List.map (trimN (str P)) []) = true from fun e => hk2 (of_decide_eq_true e))]; rfl
/-! ### views -/
def vwAt (o a b : List Node) (P : ByteArray) : Vw := ⟨P, atR o (str P), atR a (str P), atR b (str P)⟩
structure Trees (o a b : List Node) : Prop where
  o : okTree o = true
  a : okTree a = true
  b : okTree b = true
theorem vw_root {o a b : List Node} (h : Trees o a b) : rootV o a b = vwAt o a b ⟨#[]⟩ := by
  unfold rootV vwAt
  rw [rootN_at h.o, rootN_at h.a, rootN_at h.b]
theorem name_at {t : List Node} {P x : ByteArray} (ht : okTree t = true) (hP : okP P) (hx : x ∈ inV (atR t (str P))) : okPath (str (belowP P x)) = true := by
  rw [in_at ht hP] at hx
  obtain ⟨m, hm, e⟩ := names_found ht hx
  have hk := okTree_path ht hm
  by_cases h0 : str P = []
  · rw [belowP_root h0]
    rw [if_pos h0] at e
    rw [← e]; exact hk
  · rw [belowP_str h0]
    rw [if_neg h0] at e
    rw [← e]; exact hk
theorem vw_name {o a b : List Node} {P x : ByteArray} (h : Trees o a b) (hP : okP P) (hx : x ∈ namesV (vwAt o a b P)) : okPath (str (belowP P x)) = true := by
  have h1 := sortS_mem (compS_mem hx)
  rcases List.mem_append.1 h1 with h2 | h2
  · exact name_at h.o hP h2
  · rcases List.mem_append.1 h2 with h3 | h3
    · exact name_at h.a hP h3
    · exact name_at h.b hP h3
theorem vw_sub {o a b : List Node} {P x : ByteArray} (h : Trees o a b) (hP : okP P) (hx : x ∈ namesV (vwAt o a b P)) : subV (vwAt o a b P) x = vwAt o a b (belowP P x) := by
  have hk := vw_name h hP hx
  show Vw.mk (belowP P x) (partV (atR o (str P)) x) (partV (atR a (str P)) x) (partV (atR b (str P)) x) = _
  rw [part_at h.o hP hk, part_at h.a hP hk, part_at h.b hP hk]; rfl
theorem vw_below {o a b : List Node} {P : ByteArray} (h : Trees o a b) (hP : okP P) : belowV (vwAt o a b P) = (namesV (vwAt o a b P)).map fun x => vwAt o a b (belowP P x) := by
  unfold belowV
  exact List.map_congr_left fun x hx => vw_sub h hP hx
/-! ### items lie apart -/
/-- s lies within q, or q is the root -/
def inP (s q : Str) : Prop := q = [] ∨ within s q = true
structure ItOk (a b : List Node) (P : ByteArray) (i : It) : Prop where
  path : okP i.path
  own : inP (str i.path) (str P)
  same : i.what = 1 ↔ atR a (str i.path) = atR b (str i.path)
theorem inP_trans {s q r : Str} (h : inP s q) (k : inP q r) (hq : q = [] → r = []) : inP s r := by
  rcases k with k | k
  · exact .inl k
  rcases h with h | h
  · exact .inl (hq h)
  right
  unfold within at *
  simp only [Bool.and_eq_true, Bool.or_eq_true, decide_eq_true_eq] at *
  refine ⟨h.1, ?_⟩
  rcases k.2 with k2 | k2
  · exact .inl k2
  rcases h.2 with h2 | h2
  · have := okPath_ne k.1; contradiction
  · exact .inr ⟨k2.1, List.isPrefixOf_iff_prefix.2 ((List.isPrefixOf_iff_prefix.1 k2.2).trans (List.isPrefixOf_iff_prefix.1 h2.2))⟩
theorem below_in {P x : ByteArray} (hP : okP P) (hb : okPath (str (belowP P x)) = true) : inP (str (belowP P x)) (str P) := by
  by_cases h0 : str P = []
  · exact .inl h0
  · right
    have hp := hP.resolve_left h0
    rw [belowP_str h0] at hb ⊢
    exact within_sub hp hb
theorem items_ok {o a b : List Node} (h : Trees o a b) : ∀ (f : Nat) (P : ByteArray), okP P → ∀ i ∈ itemsV f (vwAt o a b P), ItOk a b P i
  | 0, _, _, i, hi => by cases hi
  | f + 1, P, hP, i, hi => by
    have hself : inP (str P) (str P) := by
      rcases hP with h | h
      · exact .inl h
      · exact .inr (within_self h)
    unfold itemsV at hi
    split at hi
    · rename_i hab
      split at hi
      · cases hi
      · rw [List.mem_singleton] at hi; subst hi
        exact ⟨hP, hself, ⟨fun _ => hab, fun _ => rfl⟩⟩
    · rename_i hab
      split at hi
      · rw [List.mem_flatMap] at hi
        obtain ⟨y, hy, hi⟩ := hi
        rw [vw_below h hP] at hy
        obtain ⟨x, hx, rfl⟩ := List.mem_map.1 hy
        have hk := vw_name h hP hx
        have r := items_ok h f (belowP P x) (.inr hk) i hi
        exact ⟨r.path, inP_trans r.own (below_in hP hk) (fun e => absurd e (okPath_ne hk)), r.same⟩
      · have key : ∀ k : Int, k ≠ 1 → i = ⟨P, k⟩ → ItOk a b P i := fun k hk e => by
          subst e
          exact ⟨hP, hself, ⟨fun e => absurd e hk, fun e => absurd e hab⟩⟩
        split at hi
        · exact key 2 (by decide) (List.mem_singleton.1 hi)
        · split at hi
          · exact key 3 (by decide) (List.mem_singleton.1 hi)
          · exact key 4 (by decide) (List.mem_singleton.1 hi)
def ApartI (i j : It) : Prop := str i.path ≠ [] ∧ str j.path ≠ [] ∧ within (str i.path) (str j.path) = false ∧ within (str j.path) (str i.path) = false
theorem parts_below {P x : ByteArray} (hx : okName (str x) = true) : parts (str (belowP P x)) = (if str P = [] then [] else parts (str P)) ++ [str x] := by
  by_cases h0 : str P = []
  · rw [belowP_root h0, if_pos h0, okName_parts hx]; rfl
  · rw [belowP_str h0, if_neg h0, parts_append, okName_parts hx]
theorem pre_one {l : List Str} {x y : Str} {r : List Str} (h1 : l ++ [x] <+: r) (h2 : l ++ [y] <+: r) : x = y := by
  obtain ⟨s1, e1⟩ := h1
  obtain ⟨s2, e2⟩ := h2
  rw [← e2, List.append_assoc, List.append_assoc] at e1
  exact (List.cons.inj (List.append_cancel_left e1)).1
theorem inP_pre {s q : Str} (hq : okPath q = true) (h : inP s q) : okPath s = true ∧ parts q <+: parts s := by
  rcases h with h | h
  · exact absurd h (okPath_ne hq)
  · exact within_pre hq h
theorem items_apart {o a b : List Node} (h : Trees o a b) : ∀ (f : Nat) (P : ByteArray), okP P → (itemsV f (vwAt o a b P)).Pairwise ApartI
  | 0, _, _ => List.Pairwise.nil
  | f + 1, P, hP => by
    unfold itemsV
    split
    · split <;> simp
    · split
      · rw [vw_below h hP, List.flatMap_map]
        rw [List.pairwise_flatMap]
        refine ⟨fun x hx => items_apart h f _ (.inr (vw_name h hP hx)), ?_⟩
        have hnd : (namesV (vwAt o a b P)).Pairwise (fun x y => x ≠ y) := names_nodup _
        refine hnd.imp_of_mem fun {x y} hx hy hxy i hi j hj => ?_
        have kx := vw_name h hP hx
        have ky := vw_name h hP hy
        have ri := items_ok h f _ (.inr kx) i hi
        have rj := items_ok h f _ (.inr ky) j hj
        obtain ⟨i1, i2⟩ := inP_pre kx ri.own
        obtain ⟨j1, j2⟩ := inP_pre ky rj.own
        rw [parts_below (namesV_mem hx)] at i2
        rw [parts_below (namesV_mem hy)] at j2
        refine ⟨okPath_ne i1, okPath_ne j1, ?_, ?_⟩
        · cases hw : within (str i.path) (str j.path)
          · rfl
          · exact absurd (str_inj (pre_one i2 (j2.trans (within_pre j1 hw).2))) hxy
        · cases hw : within (str j.path) (str i.path)
          · rfl
          · exact absurd (str_inj (pre_one (i2.trans (within_pre i1 hw).2) j2)) hxy
      · split
        · simp
        · split <;> simp
/-! ### outside of the items both have the same -/
theorem inP_own {n m : Node} (hn : okPath n.p = true) (hm : okPath m.p = true) (h : parent n.p = m.p) : inP n.p m.p := by
  right
  have h1 := path_whole hn
  rw [h, if_neg (okPath_ne hm)] at h1
  exact (within_iff hn hm).2 (.inr ⟨_, h1⟩)
theorem climb {t : List Node} {q : Str} (ht : okTree t = true) : ∀ (k : Nat) {n : Node}, n ∈ t → (parts n.p).length ≤ k → inP n.p q → n.p ≠ q → (q = [] ∨ okPath q = true) → ∃ m ∈ t, parent m.p = q ∧ inP n.p m.p
  | 0, n, _, hk, _, _, _ => absurd (List.length_eq_zero_iff.1 (Nat.le_zero.1 hk)) (parts_ne n.p)
  | k + 1, n, hn, hk, hw, hne, hq => by
    have hnk := okTree_path ht hn
    by_cases e : parent n.p = q
    · exact ⟨n, hn, e, .inr (within_self hnk)⟩
    · rcases isDir_iff.1 (parent_dir ht hn) with h | ⟨d, hd1, hd2, hd3⟩
      · have hq0 : q ≠ [] := fun e2 => e (by rw [h, e2])
        have hqk := hq.resolve_left hq0
        obtain ⟨_, r, hr⟩ := inP_pre hqk hw
        have h1 := path_whole hnk
        rw [if_pos h] at h1
        have hl := congrArg List.length (parts_split hnk)
        have hb : parts n.p = [base n.p] := by
          have := okName_parts (okPath_names hnk (base n.p) (by rw [parts_split hnk]; simp))
          rw [← this, ← h1]
        rw [hb] at hr
        exfalso
        cases hpq : parts q with
        | nil => exact parts_ne q hpq
        | cons z l =>
          rw [hpq] at hr
          have h2 := (List.cons.inj hr).1
          have h3 := (List.cons.inj hr).2
          have h4 : l = [] := (List.append_eq_nil_iff.1 h3).1
          rw [h4] at hpq
          exact hne (parts_inj (by rw [hb, hpq, h2]))
      · have hdk := okTree_path ht hd1
        have hpn : parent n.p ≠ [] := by rw [← hd2]; exact okPath_ne hdk
        have hpp := parent_parts hnk hpn
        have hdw : inP d.p q := by
          rcases hq with h0 | hqk
          · exact .inl h0
          · right
            obtain ⟨_, r, hr⟩ := inP_pre hqk hw
            have hr0 : r ≠ [] := fun e2 => by subst e2; rw [List.append_nil] at hr; exact hne (parts_inj hr).symm
            unfold within
            rw [hdk, hqk, hd2, hpp, ← hr, List.dropLast_append_of_ne_nil hr0, List.isPrefixOf_iff_prefix.2 (List.prefix_append _ _)]; simp
        obtain ⟨m, hm1, hm2, hm3⟩ := climb ht k hd1 (by rw [hd2, hpp, List.length_dropLast]; omega) hdw (by rw [hd2]; exact e) hq
        exact ⟨m, hm1, hm2, inP_trans (inP_own hnk hdk hd2.symm) hm3 (fun e2 => absurd e2 (okPath_ne hdk))⟩
theorem dir_node {t : List Node} {P : ByteArray} (ht : okTree t = true) (hp : okPath (str P) = true) (h : dirV (atR t (str P)) = true) : ∃ m ∈ t, m.p = str P ∧ m.kind = 2 := by
  rw [atR_path ht hp] at h
  rcases inAt_shape ht hp with e | ⟨f, G, e, hf, -, -⟩
  · rw [e] at h; cases h
  · rw [e, List.map_cons] at h
    exact ⟨f, (mem_inAt.1 (by rw [e]; simp)).1, hf, of_decide_eq_true h⟩
theorem dir_same {n m : Node} (hn : rightN n = true) (hm : rightN m = true) (kn : n.kind = 2) (km : m.kind = 2) (hp : n.p = m.p) : n = m := by
  unfold rightN at hn hm
  rw [kn] at hn
  rw [km] at hm
  have e1 : ¬ (2 : Int) = 1 := by decide
  rw [if_neg e1, if_pos rfl] at hn hm
  simp only [Bool.and_eq_true, decide_eq_true_eq] at hn hm
  have hd : n.data = m.data := str_inj (by
    have h1 := str_size n.data
    have h2 := str_size m.data
    rw [hn.1] at h1
    rw [hm.1] at h2
    rw [List.length_eq_zero_iff.1 h1, List.length_eq_zero_iff.1 h2])
  have hpp : n.path = m.path := str_inj hp
  obtain ⟨n1, n2, n3, n4⟩ := n
  obtain ⟨m1, m2, m3, m4⟩ := m
  simp only at kn km hd hpp hn hm
  subst kn; subst km; subst hd; subst hpp
  rw [hn.2, hm.2]
theorem found_in {o a b : List Node} (h : Trees o a b) {n : Node} (hn : n ∈ a) (hnb : n ∉ b) : ∀ (f : Nat) (P : ByteArray), okP P → inP n.p (str P) → (atR a (str P)).length < f → ∃ i ∈ itemsV f (vwAt o a b P), inP n.p (str i.path)
  | 0, _, _, _, hf => by omega
  | f + 1, P, hP, hin, hf => by
    have hnk := okTree_path h.a hn
    unfold itemsV
    split
    · rename_i hab
      exfalso
      have hab : atR a (str P) = atR b (str P) := hab
      rcases hP with h0 | hp
      · have ea : atR a (str P) = rootN :: a := by unfold atR; rw [if_pos h.a, if_pos h0]
        have eb : atR b (str P) = rootN :: b := by unfold atR; rw [if_pos h.b, if_pos h0]
        rw [ea, eb] at hab
        exact hnb ((List.cons.inj hab).2 ▸ hn)
      · have ea := moved_at h.a hp
        have eb := moved_at h.b hp
        rw [← atR_path h.a hp] at ea
        rw [← atR_path h.b hp] at eb
        have hw : within n.p (str P) = true := hin.resolve_left (okPath_ne hp)
        have : n ∈ inAt a (str P) := mem_inAt.2 ⟨hn, hw⟩
        rw [← ea, hab, eb] at this
        exact hnb (mem_inAt.1 this).1
    · split
      · rename_i hd
        rw [Bool.and_eq_true] at hd
        have hda : dirV (atR a (str P)) = true := hd.1
        have hdb : dirV (atR b (str P)) = true := hd.2
        by_cases e : n.p = str P
        · exfalso
          have hp : okPath (str P) = true := by rw [← e]; exact hnk
          obtain ⟨m, hm, hmp, hmk⟩ := dir_node h.b hp hdb
          obtain ⟨m', hm', hmp', hmk'⟩ := dir_node h.a hp hda
          have e1 : m' = n := (okTree_sorted h.a).unique hm' hn (by rw [hmp', e])
          subst e1
          have : m' = m := dir_same (okTree_right h.a hn) (okTree_right h.b hm) hmk' hmk (by rw [hmp, hmp'])
          exact hnb (this ▸ hm)
        · obtain ⟨m, hm, hmp, hmi⟩ := climb h.a _ hn (Nat.le_refl _) hin e hP
          have hmk := okTree_path h.a hm
          have hx : bs (base m.p) ∈ inV (atR a (str P)) := by
            rw [in_at h.a hP, namesR_eq h.a]
            unfold namesOf
            exact List.mem_map.2 ⟨m, List.mem_filter.2 ⟨hm, by rw [hmp]; simp⟩, rfl⟩
          have hxv : bs (base m.p) ∈ namesV (vwAt o a b P) := names_all (.inr (.inl hx))
          have hpath : str (belowP P (bs (base m.p))) = m.p := by
            have h1 := path_whole hmk
            rw [hmp] at h1
            by_cases h0 : str P = []
            · rw [belowP_root h0, str_bs]
              rw [if_pos h0] at h1; exact h1.symm
            · rw [belowP_str h0, str_bs]
              rw [if_neg h0] at h1; exact h1.symm
          have hl : (atR a (str (belowP P (bs (base m.p))))).length < f := by
            rw [← part_at h.a hP (by rw [hpath]; exact hmk)]
            have h1 := partV_short (v := atR a (str P)) (x := bs (base m.p)) (okName_ne (inV_mem hx))
            have h2 : 0 < (atR a (str P)).length := List.length_pos_iff.2 fun e => by rw [e] at hda; cases hda
            omega
          obtain ⟨i, hi, hi2⟩ := found_in h hn hnb f (belowP P (bs (base m.p))) (.inr (by rw [hpath]; exact hmk)) (by rw [hpath]; exact hmi) hl
          refine ⟨i, List.mem_flatMap.2 ⟨_, ?_, hi⟩, hi2⟩
          rw [vw_below h hP]
          exact List.mem_map.2 ⟨_, hxv, rfl⟩
      · split
        · exact ⟨_, List.mem_singleton.2 rfl, hin⟩
        · split
          · exact ⟨_, List.mem_singleton.2 rfl, hin⟩
          · exact ⟨_, List.mem_singleton.2 rfl, hin⟩
theorem atR_short' {t : List Node} : (atR t (str ⟨#[]⟩)).length ≤ t.length + 1 := by
  unfold atR
  split
  · rw [if_pos (show str ⟨#[]⟩ = [] from rfl)]; simp
  · simp
theorem differ_found {o a b : List Node} (h : Trees o a b) {f : Nat} (hfa : a.length + 1 < f) (hfb : b.length + 1 < f) {s : ByteArray} (hs : s ∈ differ a b) : ∃ i ∈ itemsV f (rootV o a b), inP (str s) (str i.path) := by
  rcases differ_mem _ a b (Nat.le_refl _) (okTree_sorted h.a) (okTree_sorted h.b) s hs with ⟨n, hn, rfl, hnb⟩ | ⟨n, hn, rfl, hna⟩
  · rw [vw_root h]
    exact found_in h hn hnb f _ (.inl rfl) (.inl rfl) (Nat.lt_of_le_of_lt atR_short' hfa)
  · have h' : Trees o b a := ⟨h.o, h.b, h.a⟩
    obtain ⟨i, hi, hi2⟩ := found_in h' hn hna f _ (.inl rfl) (.inl rfl) (Nat.lt_of_le_of_lt atR_short' hfb)
    rw [← vw_root h'] at hi
    have e : rootV o b a = (rootV o a b).swap := rfl
    rw [e, items_swap] at hi
    obtain ⟨j, hj, rfl⟩ := List.mem_map.1 hi
    exact ⟨j, hj, hi2⟩
/-- items in memory -/
def Its (W : World) (p : Option Addr) (L : List It) : Prop := ∀ (i : Nat) (x : It), L[i]? = some x →
  ∃ a : Addr, p = some a ∧ a.block < W.heap.size ∧ W.cell? (a.add (i * 2)) = some (.string x.path) ∧ W.cell? ⟨(a.add (i * 2)).block, (a.add (i * 2)).off + 1, none⟩ = some (.int .i64 x.what)
theorem Its.off {W W' : World} {p : Option Addr} {L : List It} (h : Its W p L) (ho : Off [] W W') : Its W' p L := fun i x hi => by
  obtain ⟨a, hp, hg, c1, c2⟩ := h i x hi
  have hb : (a.add (i * 2)).block < W.heap.size := by rw [add_block]; exact hg
  exact ⟨a, hp, Nat.lt_of_lt_of_le hg ho.size, (ho.cell hb (by simp)).trans c1, (ho.cell (p := ⟨_, _, none⟩) hb (by simp)).trans c2⟩
def hitI (s : Str) (i : It) : Bool := decide (str i.path = []) || within s (str i.path)
theorem any_take {L : List It} {s : Str} {k : Nat} {x : It} (h : L[k]? = some x) (h0 : (L.take k).any (hitI s) = false) (h1 : hitI s x = false) : (L.take (k + 1)).any (hitI s) = false := by
  rw [take_get h, List.any_append, h0]
  simp [h1]
set_option maxRecDepth 100000 in
set_option maxHeartbeats 8000000 in
theorem clo_any (L : List It) (l c g : Nat) (p : Option Addr) (s : ByteArray) (w : World) (hl : L.length = l) (hbig : l ≤ 1000000000) (hI : Its w p L) (hB : Blk w g 27 #[.slice p l c]) (hs : s.size ≤ 1048576) (hz : ∀ x ∈ L, x.path.size ≤ 1048576) :
    Calls Tryz.prog 13 #[.string s, .pointer (some ⟨g, 0, none⟩)] w fun e w' => e = .returned (.bool (L.any (hitI (str s)))) ∧ Off [] w w' := by
  have HL := Lib.hid hl
  have HI := Lib.hid hI
  have HZ := Lib.hid hz
  have hc := hB.cell
  have hlt := hB.lt
  clear hl hI hz
  go_enter Tryz.func13, Tryz.ntmps13
  go_wp2_with fail
  clear hc hlt
  go_loopw [8] (fun y wr => ∃ i : Nat, y = .int .i64 i ∧ i ≤ l ∧ Off [] w wr ∧ Hid ((L.take i).any (hitI (str s)) = false)) (fun y _ => l - (intOf y).toNat)
  case atStart => exact ⟨0, rfl, by omega, Off.refl _ _, Lib.hid rfl⟩
  case round =>
    obtain ⟨i, rfl, hi, ho, hno⟩ := hrel
    by_cases hlt : i < l
    · have hil : i < L.length := by rw [HL.out]; exact hlt
      have hx := List.getElem?_eq_getElem hil
      have hzx := HZ.out _ (List.getElem_mem hil)
      have hmem := List.getElem_mem hil
      generalize L[i] = x at *
      obtain ⟨g2, rfl, hg2, e1, e2⟩ := (HI.out.off ho) i x hx
      have HX := Lib.hid hx
      have HM := Lib.hid hmem
      clear hx hmem
      have hE : x.path.toList = [] ↔ str x.path = [] := by rw [toList_str]
      by_cases h0 : str x.path = []
      · have g1 := hE.2 h0
        have g1' : x.path.toList.isEmpty = true := by simp [g1]
        have HIT := Lib.hid (show L.any (hitI (str s)) = true from List.any_eq_true.2 ⟨x, HM.out, by unfold hitI; rw [decide_eq_true h0]; rfl⟩)
        clear hE h0
        go_wp2_with fail
        go_ret
        refine ⟨by rw [HIT.out]; rfl, ?_⟩
        exact (ho.alloc _)
      · have g1 : ¬ x.path.toList = [] := fun e => h0 (hE.1 e)
        have g1' : x.path.toList.isEmpty = false := by simpa using g1
        cases hw : within (str s) (str x.path)
        · have HW := Lib.hid hw
          have HNO := Lib.hid (show hitI (str s) x = false by unfold hitI; rw [decide_eq_false h0, hw]; rfl)
          clear hE h0 hw
          go_wp2_with fail
          refine (rwithin_any s x.path _ hs hzx).mono ?_
          rintro e w3 ⟨rfl, ho3⟩
          rw [HW.out]
          go_wp2_with fail
          exact ⟨⟨i + 1, by congr 1, by omega, ((ho.alloc _).trans_nil ho3), Lib.hid (any_take HX.out hno.out HNO.out)⟩, by simp only [intOf]; omega⟩
        · have HW := Lib.hid hw
          have HIT := Lib.hid (show L.any (hitI (str s)) = true from List.any_eq_true.2 ⟨x, HM.out, by unfold hitI; rw [decide_eq_false h0, hw]; rfl⟩)
          clear hE h0 hw
          go_wp2_with fail
          refine (rwithin_any s x.path _ hs hzx).mono ?_
          rintro e w3 ⟨rfl, ho3⟩
          rw [HW.out]
          go_wp2_with fail
          go_ret
          exact ⟨by rw [HIT.out]; rfl, ((ho.alloc _).trans_nil ho3)⟩
    · obtain rfl : i = l := by omega
      have HNO := Lib.hid (show L.any (hitI (str s)) = false by have := hno.out; rwa [List.take_of_length_le (by rw [HL.out]; exact Nat.le_refl _)] at this)
      go_wp2_with fail
      go_ret
      exact ⟨by rw [HNO.out]; rfl, ho⟩
theorem at_arg {w W : World} {p : Option Addr} {n c : Nat} {t : List Node} (h : Arg w p n c t) (hT : Tabs w) (s : ByteArray) (ho : Off [] w W) : Calls Tryz.prog 16 #[.slice p n c, .string s] W (OwnT (atR t (str s)) W) :=
  at_any p t n c s W (h.row.off ho) h.len h.le h.mx h.nn h.fits (hT.off ho)
/-- what ReconApart asks of the items -/
structure Far (o a b : List Node) (L : List It) : Prop where
  len : L.length ≤ 1000000
  size : ∀ x ∈ L, x.path.size ≤ 1048576
  far : ∀ (i j : Nat) (x y : It), L[i]? = some x → L[j]? = some y → i ≠ j → str x.path ≠ [] ∧ within (str y.path) (str x.path) = false
  same : ∀ x ∈ L, x.what = 1 ↔ atR a (str x.path) = atR b (str x.path)
  hit : ∀ s ∈ differR a b, L.any (hitI (str s)) = true
  small : ∀ s ∈ differR a b, s.size ≤ 1048576
  dlen : (differR a b).length ≤ 1000000
theorem far_ok {o a b : List Node} (hk : okThree o a b = true) : Far o a b (itemsV 2000 (rootV o a b)) := by
  have ht := hk
  unfold okThree at ht
  simp only [Bool.and_eq_true] at ht
  have T : Trees o a b := ⟨ht.1, ht.2.1, ht.2.2⟩
  have l1 := okTree_len ht.1
  have l2 := okTree_len ht.2.1
  have l3 := okTree_len ht.2.2
  have hsz : sizeV (rootV o a b) = (o.length + 1) + (a.length + 1) + (b.length + 1) := rfl
  have hit := fun i hi => items_ok T 2000 ⟨#[]⟩ (.inl rfl) i (by rw [← vw_root T]; exact hi)
  have hap := items_apart T 2000 ⟨#[]⟩ (.inl rfl)
  rw [← vw_root T] at hap
  have hdif : ∀ s ∈ differR a b, s ∈ differ a b := fun s hs => by
    unfold differR at hs
    split at hs
    · exact hs
    · cases hs
  have hsm : ∀ P : ByteArray, okP P → P.size ≤ 400 := fun P h => by
    rcases h with h | h
    · rw [← str_size, h]; simp
    · rw [← str_size]; exact okPath_size h
  refine ⟨?_, fun x hx => ?_, fun i j x y hi hj hij => ?_, fun x hx => (hit x hx).same, fun s hs => ?_, fun s hs => ?_, ?_⟩
  · have := items_len names_nodup 2000 (rootV o a b) (by omega)
    omega
  · have := hsm _ (hit x hx).path
    omega
  · obtain ⟨hil, rfl⟩ := List.getElem?_eq_some_iff.1 hi
    obtain ⟨hjl, rfl⟩ := List.getElem?_eq_some_iff.1 hj
    rcases Nat.lt_or_gt_of_ne hij with h | h
    · have := List.pairwise_iff_getElem.1 hap i j hil hjl h
      exact ⟨this.1, this.2.2.2⟩
    · have := List.pairwise_iff_getElem.1 hap j i hjl hil h
      exact ⟨this.2.1, this.2.2.1⟩
  · obtain ⟨i, hi, h⟩ := differ_found T (f := 2000) (by omega) (by omega) (hdif s hs)
    refine List.any_eq_true.2 ⟨i, hi, ?_⟩
    unfold hitI
    rcases h with h | h
    · rw [decide_eq_true h]; rfl
    · rw [h]; simp
  · rcases differ_mem _ a b (Nat.le_refl _) (okTree_sorted T.a) (okTree_sorted T.b) s (hdif s hs) with ⟨n, hn, rfl, -⟩ | ⟨n, hn, rfl, -⟩
    · have := okTree_small T.a hn; omega
    · have := okTree_small T.b hn; omega
  · unfold differR
    split
    · have := differ_len _ a b (Nat.le_refl _); omega
    · simp
set_option maxRecDepth 100000 in
set_option maxHeartbeats 8000000 in
theorem rapart_bad (po pa pb : Option Addr) (no na nb co ca cb : Nat) (o a b : List Node) (w : World) (hO : Arg w po no co o) (hA : Arg w pa na ca a) (hB : Arg w pb nb cb b) (hT : Tabs w) (hk : okThree o a b = false) :
    Calls Tryz.prog 4 #[.agg #[.slice po no co, .slice pa na ca, .slice pb nb cb]] w fun e w' => e = .returned (.bool true) ∧ Off [] w w' := by
  have H1 := Lib.hid (fun (W : World) (ho : Off [] w W) => recItems_bad po pa pb no na nb co ca cb o a b W (hO.off ho) (hA.off ho) (hB.off ho) (hT.off ho) hk)
  clear hk hO hA hB
  go_enter Tryz.func4, Tryz.ntmps4
  go_wp2_with fail
  have hof := (Off.refl [] w).alloc (.cells #[.slice po no co, .slice pa na ca, .slice pb nb cb] 24)
  refine (awake12_any _ (hT.off hof)).mono ?_
  rintro e w1 ⟨rfl, ho1⟩
  have hB1 := (Blk.new w 24 #[.slice po no co, .slice pa na ca, .slice pb nb cb]).off ho1 (by simp)
  have hof := hof.trans_nil ho1
  have hc := hB1.cell
  have hlt := hB1.lt
  clear ho1
  go_wp2_with fail
  refine (H1.out _ hof).mono ?_
  rintro e w2 ⟨v, rfl, hown, ho⟩
  obtain ⟨p2, c2, rfl⟩ := own_slice hown
  have hof := hof.trans_nil ho
  clear hc hlt hB1 ho hown
  go_wp2_with fail
  go_ret
  exact ⟨rfl, hof.alloc _⟩
set_option maxRecDepth 100000 in
set_option maxHeartbeats 16000000 in
theorem rapart_ok (po pa pb : Option Addr) (no na nb co ca cb : Nat) (o a b : List Node) (L : List It) (w : World) (hA : Arg w pa na ca a) (hB : Arg w pb nb cb b) (hT : Tabs w) (hF : Far o a b L)
    (h1 : ∀ W : World, Off [] w W → Calls Tryz.prog 7 #[.slice po no co, .slice pa na ca, .slice pb nb cb] W (ItemsE L 0 W)) :
    Calls Tryz.prog 4 #[.agg #[.slice po no co, .slice pa na ca, .slice pb nb cb]] w fun e w' => e = .returned (.bool true) ∧ Off [] w w' := by
  have H1 := Lib.hid h1
  have HF := Lib.hid hF
  have HA := Lib.hid hA
  have HB := Lib.hid hB
  obtain ⟨l, hl⟩ : ∃ l, L.length = l := ⟨_, rfl⟩
  have hbig : l ≤ 1000000 := by rw [← hl]; exact hF.len
  have HL := Lib.hid hl
  clear hA hB hF h1 hl
  go_enter Tryz.func4, Tryz.ntmps4
  go_wp2_with fail
  have hof := (Off.refl [] w).alloc (.cells #[.slice po no co, .slice pa na ca, .slice pb nb cb] 24)
  refine (awake12_any _ (hT.off hof)).mono ?_
  rintro e w1 ⟨rfl, ho1⟩
  have hB1 := (Blk.new w 24 #[.slice po no co, .slice pa na ca, .slice pb nb cb]).off ho1 (by simp)
  have hof := hof.trans_nil ho1
  have hc := hB1.cell
  have hlt := hB1.lt
  clear ho1
  go_wp2_with fail
  refine (H1.out _ hof).mono ?_
  rintro e w2 ⟨v, rfl, hown, ho⟩
  obtain ⟨p2, c2, rfl⟩ := own_slice hown
  rw [HL.out] at hown ⊢
  have hI : Its w2 p2 L := fun i x hi => own_it hown hi HL.out
  have HI := Lib.hid hI
  have HB2 := Lib.hid (hB1.off ho (by simp))
  have HOF := Lib.hid (hof.trans_nil ho)
  clear hc hlt hB1 ho hown hI hof
  go_wp2_with fail
  have HOL := Lib.hid (HOF.out.alloc (.cells #[.slice p2 l c2] 27))
  have HBL := Lib.hid (Blk.new w2 27 #[.slice p2 l c2])
  have HB3 := Lib.hid (HB2.out.alloc (.cells #[.slice p2 l c2] 27))
  have HI3 := Lib.hid (HI.out.off ((Off.refl [] w2).alloc (.cells #[.slice p2 l c2] 27)))
  clear HB2 HI HOF
  generalize w2.alloc (.cells #[.slice p2 l c2] 27) = w3 at *
  go_loopw [32] (fun y wr => ∃ k : Nat, y = .int .i64 k ∧ k ≤ l ∧ Off [] w3 wr) (fun y _ => l - (intOf y).toNat)
  case atStart => exact ⟨0, rfl, by omega, Off.refl _ _⟩
  case round =>
    obtain ⟨k, rfl, hk, ho⟩ := hrel
    by_cases hkl : k < l
    · have hkl' : k < L.length := by rw [HL.out]; exact hkl
      obtain ⟨x, hx⟩ : ∃ x, L[k]? = some x := ⟨_, List.getElem?_eq_getElem hkl'⟩
      have HX := Lib.hid hx
      have HXM := Lib.hid (List.mem_of_getElem? hx)
      obtain ⟨ax, rfl, hax, c0, c1⟩ := (HI3.out.off ho) k x hx
      have hbl := HBL.out.off ho (by simp)
      have hcl := hbl.cell
      have hll := hbl.lt
      clear hx hbl
      go_wp2_with fail
      have HO3W := Lib.hid ho
      have HO4 := Lib.hid ((Off.refl [] wr).alloc (.cells #[.string x.path, .int .i64 x.what] 42))
      have HB4 := Lib.hid (Blk.new wr 42 #[.string x.path, .int .i64 x.what])
      have HS4 := Lib.hid ho.size
      clear c0 c1 hcl hll ho
      generalize wr.alloc (.cells #[.string x.path, .int .i64 x.what] 42) = w4 at *
      generalize wr.heap.size = g7 at *
      have HFAR := Lib.hid (fun (m : Nat) (y : It) (hy : L[m]? = some y) (hne : k ≠ m) => HF.out.far k m x y HX.out hy hne)
      have hzx := HF.out.size x HXM.out
      have hE : x.path.toList = [] ↔ str x.path = [] := by rw [toList_str]
      go_loopw [39] (fun y wi => ∃ m : Nat, y = .int .i64 m ∧ m ≤ l ∧ Off [] w4 wi) (fun y _ => l - (intOf y).toNat)
      case atStart => exact ⟨0, rfl, by omega, Off.refl _ _⟩
      case round =>
        obtain ⟨m, rfl, hm, ho⟩ := hrel
        by_cases hml : m < l
        · have hml' : m < L.length := by rw [HL.out]; exact hml
          obtain ⟨y, hy⟩ : ∃ y, L[m]? = some y := ⟨_, List.getElem?_eq_getElem hml'⟩
          have hzy := HF.out.size y (List.mem_of_getElem? hy)
          obtain ⟨ay, e0, hay, d0, d1⟩ := (HI3.out.off (HO3W.out.trans_nil (HO4.out.trans_nil ho))) m y hy
          cases e0
          by_cases hkm : k = m
          · subst hkm
            clear hE hy
            go_wp2_with fail
            exact ⟨⟨k + 1, by congr 1, by omega, ho.alloc _⟩, by simp only [intOf]; omega⟩
          · have hfar := HFAR.out m y hy hkm
            have hkb : ((k : Int) == (m : Int)) = false := beq_eq_false_iff_ne.2 (by omega)
            have g1 : ¬ x.path.toList = [] := fun e => hfar.1 (hE.1 e)
            have g1' : x.path.toList.isEmpty = false := by simpa using g1
            have HW := Lib.hid hfar.2
            have hB4 := HB4.out.off ho (by simp)
            have hc4 := hB4.cell
            have hl4 := hB4.lt
            clear hE hy hfar hB4
            go_wp2_with fail
            refine (rwithin_any y.path x.path _ hzy hzx).mono ?_
            rintro e w5 ⟨rfl, ho5⟩
            rw [HW.out]
            go_wp2_with fail
            exact ⟨⟨m + 1, by congr 1, by omega, (ho.alloc _).trans_nil ho5⟩, by simp only [intOf]; omega⟩
        · obtain rfl : m = l := by omega
          have HOM := Lib.hid ho
          have HSM := Lib.hid (HF.out.same x HXM.out)
          clear hE ho
          by_cases hq : x.what = 1
          · have HSAME := Lib.hid (decide_eq_true (HSM.out.1 hq))
            rw [hq] at HB4
            clear hq
            go_wp2_with fail
            have hoff := (HOL.out.trans_nil (HO3W.out.trans_nil (HO4.out.trans_nil HOM.out))).drew
            have hB := (HB3.out.off (HO3W.out.trans_nil (HO4.out.trans_nil HOM.out)) (by simp)).drew
            have hG := (HB4.out.off HOM.out (by simp)).drew
            have hch := Off.refl [] wr.drew
            go_region_held3 (fun w' => (w.heap.size < w'.heap.size ∧ ∀ i, w'.cell? ⟨w.heap.size, i, none⟩ = (#[.slice po no co, .slice pa na ca, .slice pb nb cb] : Array Value)[i]?) ∧ (g7 < w'.heap.size ∧ ∀ i, w'.cell? ⟨g7, i, none⟩ = (#[.string x.path, .int .i64 1] : Array Value)[i]?)) (first | assumption | exact ⟨⟨hB.lt, hB.cell⟩, hG.lt, hG.cell⟩) (first
              | (go_at_call 16; refine (at_arg (by exact HA.out) hT x.path (hoff.trans_nil hch)).mono ?_; rintro e wA ⟨xo, rfl, hxo, hoA⟩; obtain ⟨q1, c1, rfl, hs1, -, -, -⟩ := own_all hxo; have HX1 := Lib.hid hs1; clear hxo hs1; have hch := hch.trans_nil hoA; have hB := hB.off hoA (by simp); have hG := hG.off hoA (by simp))
              | (go_at_call 16; refine (at_arg (by exact HB.out) hT x.path (hoff.trans_nil hch)).mono ?_; rintro e wB ⟨xo, rfl, hxo, hoB⟩; obtain ⟨q2, c2, rfl, hs2, -, -, -⟩ := own_all hxo; have HX2 := Lib.hid hs2; clear hxo hs2; have hch := hch.trans_nil hoB; have hB := hB.off hoB (by simp); have hG := hG.off hoB (by simp))
              | (go_at_call 15; refine (same_v (atR a (str x.path)) (atR b (str x.path)) q1 q2 _ _ c1 c2 wB rfl rfl (by have := @atR_len a (str x.path); omega) (by have := @atR_len b (str x.path); omega) (HX1.out.off hoB) HX2.out true HSAME.out).mono ?_; rintro e wD ⟨rfl, hoD⟩; have hch := hch.trans_nil hoD; have hB := hB.off hoD (by simp); have hG := hG.off hoD (by simp)))
            have HCH := Lib.hid hch
            clear hch hB hG hoff HX1 HX2 hoA hoB hoD
            go_wp2_with fail
            exact ⟨⟨k + 1, by congr 1, by omega, HO3W.out.trans_nil ((HO4.out.trans_nil HOM.out).drew.trans_nil HCH.out)⟩, by simp only [intOf]; omega⟩
          · have HSAME := Lib.hid (decide_eq_false (fun e => hq (HSM.out.2 e)))
            have hqb : (x.what == 1) = false := beq_eq_false_iff_ne.2 hq
            clear hq
            go_wp2_with fail
            have hoff := (HOL.out.trans_nil (HO3W.out.trans_nil (HO4.out.trans_nil HOM.out))).drew
            have hB := (HB3.out.off (HO3W.out.trans_nil (HO4.out.trans_nil HOM.out)) (by simp)).drew
            have hG := (HB4.out.off HOM.out (by simp)).drew
            have hch := Off.refl [] wr.drew
            go_region_held3 (fun w' => (w.heap.size < w'.heap.size ∧ ∀ i, w'.cell? ⟨w.heap.size, i, none⟩ = (#[.slice po no co, .slice pa na ca, .slice pb nb cb] : Array Value)[i]?) ∧ (g7 < w'.heap.size ∧ ∀ i, w'.cell? ⟨g7, i, none⟩ = (#[.string x.path, .int .i64 x.what] : Array Value)[i]?)) (first | assumption | exact ⟨⟨hB.lt, hB.cell⟩, hG.lt, hG.cell⟩) (first
              | (go_at_call 16; refine (at_arg (by exact HA.out) hT x.path (hoff.trans_nil hch)).mono ?_; rintro e wA ⟨xo, rfl, hxo, hoA⟩; obtain ⟨q1, c1, rfl, hs1, -, -, -⟩ := own_all hxo; have HX1 := Lib.hid hs1; clear hxo hs1; have hch := hch.trans_nil hoA; have hB := hB.off hoA (by simp); have hG := hG.off hoA (by simp))
              | (go_at_call 16; refine (at_arg (by exact HB.out) hT x.path (hoff.trans_nil hch)).mono ?_; rintro e wB ⟨xo, rfl, hxo, hoB⟩; obtain ⟨q2, c2, rfl, hs2, -, -, -⟩ := own_all hxo; have HX2 := Lib.hid hs2; clear hxo hs2; have hch := hch.trans_nil hoB; have hB := hB.off hoB (by simp); have hG := hG.off hoB (by simp))
              | (go_at_call 15; refine (same_v (atR a (str x.path)) (atR b (str x.path)) q1 q2 _ _ c1 c2 wB rfl rfl (by have := @atR_len a (str x.path); omega) (by have := @atR_len b (str x.path); omega) (HX1.out.off hoB) HX2.out false HSAME.out).mono ?_; rintro e wD ⟨rfl, hoD⟩; have hch := hch.trans_nil hoD; have hB := hB.off hoD (by simp); have hG := hG.off hoD (by simp)))
            have HCH := Lib.hid hch
            clear hch hB hG hoff HX1 HX2 hoA hoB hoD
            go_wp2_with fail
            exact ⟨⟨k + 1, by congr 1, by omega, HO3W.out.trans_nil ((HO4.out.trans_nil HOM.out).drew.trans_nil HCH.out)⟩, by simp only [intOf]; omega⟩
    · obtain rfl : k = l := by omega
      have HOM := Lib.hid ho
      have hB := HB3.out.off ho (by simp)
      have hc := hB.cell
      have hlt := hB.lt
      have hof := HOL.out.trans_nil ho
      have hA' := HA.out.off hof
      have hB' := HB.out.off hof
      have HDF := Lib.hid (differ_any pa pb a b na nb ca cb wr hA'.row hB'.row hA'.len hB'.len hA'.le hB'.le hA'.mx hB'.mx hA'.nn hB'.nn hA'.fits hB'.fits (hT.off hof))
      have HOFF := Lib.hid hof
      clear ho hB hA' hB' hof
      go_wp2_with fail
      refine HDF.out.mono ?_
      rintro e w6 ⟨dv, rfl, hownD, ho6⟩
      obtain ⟨pd, cd, rfl, hpd⟩ := own_strs hownD
      have HPD : Hid (Strs w6 pd (differR a b)) := Lib.hid hpd
      have HO6 := Lib.hid (HOFF.out.trans_nil ho6)
      have HI6 := Lib.hid (HI3.out.off (HOM.out.trans_nil ho6))
      have HB6 := Lib.hid (HBL.out.off (HOM.out.trans_nil ho6) (by simp))
      have hDl : (differR a b).length ≤ 1000000000 := by have := HF.out.dlen; omega
      obtain ⟨K, hK⟩ : ∃ K, (differR a b).length = K := ⟨_, rfl⟩
      rw [hK] at hDl ⊢
      have HK := Lib.hid hK
      clear hK hownD hpd ho6 hc hlt
      go_wp2_with fail
      go_loopw [82] (fun y wr => ∃ j : Nat, y = .int .i64 j ∧ j ≤ K ∧ Off [] w6 wr) (fun y _ => K - (intOf y).toNat)
      case atStart => exact ⟨0, rfl, by omega, Off.refl _ _⟩
      case round =>
        obtain ⟨j, rfl, hj, hof⟩ := hrel
        by_cases hjK : j < K
        · have hjl : j < (differR a b).length := by rw [HK.out]; exact hjK
          have hsj := List.getElem?_eq_getElem hjl
          have HHIT := Lib.hid (HF.out.hit _ (List.getElem_mem hjl))
          have hsz := HF.out.small _ (List.getElem_mem hjl)
          generalize (differR a b)[j] = s at *
          obtain ⟨g, rfl, hg, hcell⟩ := (HPD.out.off hof) j s hsj
          clear hsj
          go_wp2_with fail
          refine (clo_any L k c2 w2.heap.size p2 s _ HL.out (by omega) (HI6.out.off hof) (HB6.out.off hof (by simp)) hsz HF.out.size).mono ?_
          rintro e w7 ⟨rfl, ho7⟩
          rw [HHIT.out]
          go_wp2_with fail
          exact ⟨⟨j + 1, by congr 1, by omega, hof.trans_nil ho7⟩, by simp only [intOf]; omega⟩
        · obtain rfl : j = K := by omega
          go_wp2_with fail
          go_ret
          exact ⟨rfl, HO6.out.trans_nil hof⟩
theorem rapart_any (po pa pb : Option Addr) (no na nb co ca cb : Nat) (o a b : List Node) (w : World) (hO : Arg w po no co o) (hA : Arg w pa na ca a) (hB : Arg w pb nb cb b) (hT : Tabs w) :
    Calls Tryz.prog 4 #[.agg #[.slice po no co, .slice pa na ca, .slice pb nb cb]] w fun e w' => e = .returned (.bool true) ∧ Off [] w w' := by
  cases hk : okThree o a b
  · exact rapart_bad po pa pb no na nb co ca cb o a b w hO hA hB hT hk
  · have hb := items_bound hk
    have ht := hk
    unfold okThree at ht
    simp only [Bool.and_eq_true] at ht
    have l2 := okTree_len ht.2.1
    exact rapart_ok po pa pb no na nb co ca cb o a b (itemsV 2000 (rootV o a b)) w hA hB hT (far_ok hk)
      (fun W ho => recItems_ok po pa pb no na nb co ca cb o a b W (hO.off ho) (hA.off ho) (hB.off ho) (hT.off ho) hk 2000 (by omega) hb.1)
end Go.Proofs.YtpaeihdkggbeoaaGreatDoor
