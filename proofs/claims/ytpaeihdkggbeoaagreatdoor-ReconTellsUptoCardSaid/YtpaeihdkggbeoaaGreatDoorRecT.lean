/- recon with both replicas exchanged, items that lie apart, hawserref12's functions, hawserlaw12.ReconTells: the walk. (Merged by merge.py.) Conditions: what each lemma states; no path or data is longer than 1048576 bytes; the tables of unicode/utf8 are laid. -/
import Derived.Test.YtpaeihdkggbeoaaGreatDoorAgreed
import Derived.Test.YtpaeihdkggbeoaaGreatDoorRecC
import Derived.Deep.DeepCutAuto
namespace Go.Proofs.YtpaeihdkggbeoaaGreatDoor
open Go.RowKit Go.Op
theorem sort_perm {l m : List ByteArray} (h : l.Perm m) : sortS l = sortS m := by
  unfold sortS
  congr 1
  have tr : ∀ a b c : Str, decide (a ≤ b) = true → decide (b ≤ c) = true → decide (a ≤ c) = true := fun a b c h1 h2 => by
    rw [decide_eq_true_eq] at *; exact List.le_trans h1 h2
  have tot : ∀ a b : Str, (decide (a ≤ b) || decide (b ≤ a)) = true := fun a b => by
    rw [Bool.or_eq_true, decide_eq_true_eq, decide_eq_true_eq]; exact List.le_total a b
  refine List.Perm.eq_of_pairwise (le := fun a b => decide (a ≤ b) = true) (fun a b _ _ h1 h2 => ?_) (List.pairwise_mergeSort tr tot _) (List.pairwise_mergeSort tr tot _) ?_
  · rw [decide_eq_true_eq] at h1 h2; exact List.le_antisymm h1 h2
  · exact ((List.mergeSort_perm _ _).trans (h.map str)).trans (List.mergeSort_perm _ _).symm
def Vw.swap (w : Vw) : Vw := ⟨w.path, w.o, w.b, w.a⟩
theorem names_swap (w : Vw) : namesV w.swap = namesV w := by
  unfold namesV
  congr 1
  exact sort_perm (List.Perm.append_left _ List.perm_append_comm)
theorem below_swap (w : Vw) : belowV w.swap = (belowV w).map Vw.swap := by
  unfold belowV
  rw [names_swap, List.map_map]
  rfl
def swapK (k : Int) : Int := if k = 2 then 3 else if k = 3 then 2 else k
def It.swap (i : It) : It := ⟨i.path, swapK i.what⟩
theorem items_swap : ∀ (f : Nat) (w : Vw), itemsV f w.swap = (itemsV f w).map It.swap
  | 0, _ => rfl
  | f + 1, w => by
    show (if w.b = w.a then (if w.o = w.b then [] else [It.mk w.path 1]) else if (dirV w.b && dirV w.a) = true then (belowV w.swap).flatMap (itemsV f) else if w.o = w.a then [It.mk w.path 2] else if w.o = w.b then [It.mk w.path 3] else [It.mk w.path 4]) = (if w.a = w.b then (if w.o = w.a then [] else [It.mk w.path 1]) else if (dirV w.a && dirV w.b) = true then (belowV w).flatMap (itemsV f) else if w.o = w.b then [It.mk w.path 2] else if w.o = w.a then [It.mk w.path 3] else [It.mk w.path 4]).map It.swap
    by_cases hab : w.a = w.b
    · rw [if_pos hab, if_pos hab.symm, hab]
      by_cases h : w.o = w.b
      · rw [if_pos h]; rfl
      · rw [if_neg h]; rfl
    · rw [if_neg hab, if_neg (fun e => hab e.symm)]
      cases ha : dirV w.a <;> cases hb : dirV w.b <;> simp only [Bool.and_self, Bool.and_false, Bool.and_true, if_true, Bool.false_eq_true, if_false]
      case true.true =>
        rw [below_swap, List.flatMap_map, List.map_flatMap]
        exact congrArg (fun g => (belowV w).flatMap g) (funext fun y => items_swap f y)
      all_goals
        by_cases h1 : w.o = w.b
        · have h2 : ¬ w.o = w.a := fun e => hab (by rw [← e, h1])
          rw [if_pos h1, if_neg h2, if_pos h1]; rfl
        · by_cases h2 : w.o = w.a
          · simp only [if_neg h1, if_pos h2]; rfl
          · simp only [if_neg h1, if_neg h2]; rfl
theorem agreed_swap : ∀ (f : Nat) (w : Vw), agreedV f w.swap = agreedV f w
  | 0, _ => rfl
  | f + 1, w => by
    show (if w.b = w.a then laidV w.path w.b else if (dirV w.b && dirV w.a) = true then ⟨w.path, 2, ⟨#[]⟩, 0⟩ :: (belowV w.swap).flatMap (agreedV f) else laidV w.path w.o) = (if w.a = w.b then laidV w.path w.a else if (dirV w.a && dirV w.b) = true then ⟨w.path, 2, ⟨#[]⟩, 0⟩ :: (belowV w).flatMap (agreedV f) else laidV w.path w.o)
    by_cases hab : w.a = w.b
    · rw [if_pos hab, if_pos hab.symm, hab]
    · rw [if_neg hab, if_neg (fun e => hab e.symm), Bool.and_comm, below_swap, List.flatMap_map]
      have : (belowV w).flatMap (fun y => agreedV f y.swap) = (belowV w).flatMap (agreedV f) := congrArg (fun g => (belowV w).flatMap g) (funext fun y => agreed_swap f y)
      rw [this]
theorem okName_parts {s : Str} (h : okName s = true) : parts s = [s] := by
  refine parts_clean s fun hm => ?_
  unfold okName at h
  simp only [Bool.and_eq_true] at h
  have h1 := h.2
  unfold noSep at h1
  rw [List.all_eq_true] at h1
  have := h1 47 hm
  simp at this
/-- a name has a part that is not empty -/
theorem part_ne {v : List Node} {x : ByteArray} (h : x ∈ inV v) : partV v x ≠ [] := by
  unfold inV at h
  split at h
  · rename_i hd
    have ht : okTree v.tail = true := by
      cases hk : okTree v.tail
      · unfold namesR at h; rw [hk] at h; cases h
      · rfl
    obtain ⟨m, hm, hp⟩ := names_found ht h
    rw [if_pos rfl] at hp
    have hk : okPath (str x) = true := by rw [← hp]; exact okTree_path ht hm
    unfold partV
    rw [if_pos hd, atR_path ht hk]
    have : m ∈ inAt v.tail (str x) := mem_inAt.2 ⟨hm, by rw [hp]; exact within_self hk⟩
    intro e
    rw [List.map_eq_nil_iff] at e
    rw [e] at this
    cases this
  · cases h
def inX (x : ByteArray) (n : Node) : Bool := okPath (str x) && within n.p (str x)
theorem atR_le {t : List Node} {x : ByteArray} (hx : str x ≠ []) : (atR t (str x)).length ≤ (t.filter (inX x)).length := by
  unfold atR
  rw [if_neg hx]
  split
  · split
    · rename_i hk
      rw [List.length_map]
      unfold inAt
      have : inX x = fun n : Node => within n.p (str x) := by funext n; unfold inX; rw [hk, Bool.true_and]
      rw [this]
      exact Nat.le_refl _
    · simp
  · simp
theorem one_name {N : List ByteArray} (hN : N.Nodup) (hok : ∀ x ∈ N, okName (str x) = true) (n : Node) : (N.filter fun x => inX x n).length ≤ 1 := by
  have hd : (N.filter fun x => inX x n).Nodup := hN.filter _
  have hall : ∀ a ∈ N.filter (fun x => inX x n), ∀ b ∈ N.filter (fun x => inX x n), a = b := fun a ha b hb => by
    obtain ⟨ha1, ha2⟩ := List.mem_filter.1 ha
    obtain ⟨hb1, hb2⟩ := List.mem_filter.1 hb
    unfold inX at ha2 hb2
    rw [Bool.and_eq_true] at ha2 hb2
    obtain ⟨_, r1, e1⟩ := within_pre ha2.1 ha2.2
    obtain ⟨_, r2, e2⟩ := within_pre hb2.1 hb2.2
    rw [okName_parts (hok a ha1)] at e1
    rw [okName_parts (hok b hb1)] at e2
    rw [← e2] at e1
    exact str_inj (List.cons.inj e1).1
  match hl : N.filter (fun x => inX x n), hd, hall with
  | [], _, _ => simp
  | [a], _, _ => simp
  | a :: b :: l, hd, hall =>
    exfalso
    have := hall a (by simp) b (by simp)
    subst this
    simp at hd
theorem sum_inX (N : List ByteArray) (t : List Node) : (N.map fun x => (t.filter (inX x)).length).sum = (t.map fun n => (N.filter fun x => inX x n).length).sum := by
  induction t with
  | nil =>
    induction N with
    | nil => rfl
    | cons x N ih => simpa using ih
  | cons n t ih =>
    rw [List.map_cons, List.sum_cons, ← ih]
    clear ih
    induction N with
    | nil => simp
    | cons x N ih2 =>
      simp only [List.map_cons, List.sum_cons, List.filter_cons] at ih2 ⊢
      by_cases h : inX x n = true
      · simp only [h, if_true, List.length_cons] at ih2 ⊢; omega
      · simp only [Bool.not_eq_true] at h
        simp only [h, Bool.false_eq_true, if_false] at ih2 ⊢; omega
/-- the parts of different names are apart -/
theorem parts_sum {N : List ByteArray} (hN : N.Nodup) (hok : ∀ x ∈ N, okName (str x) = true) (v : List Node) : (N.map fun x => (partV v x).length).sum ≤ v.length - 1 := by
  have h1 : ∀ M : List ByteArray, (∀ x ∈ M, okName (str x) = true) → (M.map fun x => (partV v x).length).sum ≤ (M.map fun x => (v.tail.filter (inX x)).length).sum := fun M => by
    induction M with
    | nil => intro _; simp
    | cons x M ih =>
      intro hM
      have h2 := ih (fun y hy => hM y (List.mem_cons_of_mem _ hy))
      have h3 : (partV v x).length ≤ (v.tail.filter (inX x)).length := by
        unfold partV
        split
        · exact atR_le (okName_ne (hM x (by simp)))
        · simp
      simp only [List.map_cons, List.sum_cons]
      omega
  refine Nat.le_trans (h1 N hok) ?_
  rw [sum_inX]
  have h4 : ∀ t : List Node, (t.map fun n => (N.filter fun x => inX x n).length).sum ≤ t.length := fun t => by
    induction t with
    | nil => simp
    | cons n t ih =>
      have := one_name hN hok n
      simp only [List.map_cons, List.sum_cons, List.length_cons]
      omega
  have := h4 v.tail
  rw [List.length_tail] at this
  exact this
def sizeV (w : Vw) : Nat := w.o.length + w.a.length + w.b.length
theorem below_sum {w : Vw} (hN : (namesV w).Nodup) : ((belowV w).map sizeV).sum ≤ (w.o.length - 1) + (w.a.length - 1) + (w.b.length - 1) := by
  have hok : ∀ x ∈ namesV w, okName (str x) = true := fun x hx => namesV_mem hx
  have h1 := parts_sum hN hok w.o
  have h2 := parts_sum hN hok w.a
  have h3 := parts_sum hN hok w.b
  have h4 : ∀ M : List ByteArray, ((M.map (subV w)).map sizeV).sum = (M.map fun x => (partV w.o x).length).sum + (M.map fun x => (partV w.a x).length).sum + (M.map fun x => (partV w.b x).length).sum := fun M => by
    induction M with
    | nil => rfl
    | cons x M ih =>
      simp only [List.map_cons, List.sum_cons]
      rw [ih]
      show (partV w.o x).length + (partV w.a x).length + (partV w.b x).length + _ = _
      omega
  have h5 := h4 (namesV w)
  unfold belowV
  omega
theorem below_one {w y : Vw} (hy : y ∈ belowV w) : 1 ≤ sizeV y := by
  unfold belowV at hy
  obtain ⟨x, hx, rfl⟩ := List.mem_map.1 hy
  have h1 := sortS_mem (compS_mem hx)
  show 1 ≤ (partV w.o x).length + (partV w.a x).length + (partV w.b x).length
  rcases List.mem_append.1 h1 with h2 | h2
  · have := List.length_pos_iff.2 (part_ne h2); omega
  · rcases List.mem_append.1 h2 with h3 | h3
    · have := List.length_pos_iff.2 (part_ne h3); omega
    · have := List.length_pos_iff.2 (part_ne h3); omega
theorem flat_sum {α : Type} (g : Vw → List α) (L : List Vw) (h : ∀ y ∈ L, (g y).length ≤ sizeV y) : (L.flatMap g).length ≤ (L.map sizeV).sum := by
  induction L with
  | nil => simp
  | cons y L ih =>
    have h1 := h y (by simp)
    have h2 := ih fun z hz => h z (List.mem_cons_of_mem _ hz)
    rw [List.flatMap_cons, List.length_append, List.map_cons, List.sum_cons]
    omega
theorem items_len (hnd : ∀ w, (namesV w).Nodup) : ∀ (f : Nat) (w : Vw), 1 ≤ sizeV w → (itemsV f w).length ≤ sizeV w
  | 0, _, _ => by unfold itemsV; simp
  | f + 1, w, hw => by
    have h1 : ∀ l : List It, l.length ≤ 1 → l.length ≤ sizeV w := fun l h => by omega
    unfold itemsV
    split
    · exact h1 _ (by split <;> simp)
    · split
      · refine Nat.le_trans (flat_sum _ _ fun y hy => items_len hnd f y (below_one hy)) (Nat.le_trans (below_sum (hnd w)) ?_)
        unfold sizeV; omega
      · exact h1 _ (by split; simp; split <;> simp)
theorem agreed_len (hnd : ∀ w, (namesV w).Nodup) : ∀ (f : Nat) (w : Vw), (agreedV f w).length ≤ sizeV w
  | 0, _ => by unfold agreedV; simp
  | f + 1, w => by
    have hl : ∀ (p : ByteArray) (v : List Node), (laidV p v).length = v.length := fun p v => by unfold laidV genAll; rw [List.length_mapIdx]
    unfold agreedV
    split
    · rw [hl]; unfold sizeV; omega
    · split
      · rename_i hd
        rw [Bool.and_eq_true] at hd
        have ha : 1 ≤ w.a.length := List.length_pos_iff.2 fun e => by rw [e] at hd; cases hd.1
        have h2 := flat_sum (agreedV f) (belowV w) fun y _ => agreed_len hnd f y
        have h3 := below_sum (hnd w)
        rw [List.length_cons]
        unfold sizeV
        omega
      · rw [hl]; unfold sizeV; omega
theorem compact_nodup {zs : List Str} (h : zs.Pairwise fun a b => a ≤ b) : (Lib.compact zs).Nodup := by
  unfold Lib.compact Lib.compactUpTo
  have hp : ((List.range zs.length).filter (Lib.keeps zs.toArray)).Pairwise (fun i j => i < j) := (List.pairwise_lt_range).filter _
  unfold List.Nodup
  rw [List.pairwise_map, List.pairwise_iff_getElem]
  intro i j hi hj hij e
  have hlt := List.pairwise_iff_getElem.1 hp i j hi hj hij
  have mj := List.mem_filter.1 (List.getElem_mem hj)
  generalize ((List.range zs.length).filter (Lib.keeps zs.toArray))[i] = a at *
  generalize ((List.range zs.length).filter (Lib.keeps zs.toArray))[j] = b at *
  have hb := List.mem_range.1 mj.1
  have g : ∀ k, k < zs.length → zs.toArray[k]! = zs[k]! := fun k hk => by
    rw [getElem!_pos zs.toArray k (by simpa using hk), getElem!_pos zs k hk]; simp
  rw [g a (by omega), g b hb] at e
  have hk := mj.2
  unfold Lib.keeps at hk
  rw [decide_eq_true_eq] at hk
  rcases hk with h0 | h0
  · omega
  · rw [g b hb, g (b - 1) (by omega)] at h0
    have hne : zs[b]! ≠ zs[b - 1]! := h0
    have hle : ∀ p q, p < q → q < zs.length → zs[p]! ≤ zs[q]! := fun p q h1 h2 => by
      rw [getElem!_pos zs p (by omega), getElem!_pos zs q h2]
      exact List.pairwise_iff_getElem.1 h p q (by omega) h2 h1
    have h1 : zs[b - 1]! ≤ zs[b]! := hle _ _ (by omega) hb
    have h2 : zs[b]! ≤ zs[b - 1]! := by
      rcases Nat.lt_or_ge a (b - 1) with h3 | h3
      · rw [← e]; exact hle _ _ h3 (by omega)
      · have : a = b - 1 := by omega
        rw [← e, this]; exact List.le_refl _
    exact hne (List.le_antisymm h2 h1)
theorem names_nodup (w : Vw) : (namesV w).Nodup := by
  unfold namesV compS sortS
  rw [List.map_map]
  have hm : ∀ l : List Str, l.map (str ∘ bs) = l := fun l => by
    rw [show (str ∘ bs : Str → Str) = id from by funext x; exact str_bs x, List.map_id]
  rw [hm]
  unfold List.Nodup
  rw [List.pairwise_map]
  refine (compact_nodup ?_).imp fun {a b} h e => h (by rw [← str_bs a, e, str_bs])
  refine (List.pairwise_mergeSort (fun a b c h1 h2 => ?_) (fun a b => ?_) _).imp fun {a b} h => by simpa using h
  · rw [decide_eq_true_eq] at *; exact List.le_trans h1 h2
  · rw [Bool.or_eq_true, decide_eq_true_eq, decide_eq_true_eq]; exact List.le_total a b
theorem itCells_get : ∀ {L : List It} {i : Nat} {x : It}, L[i]? = some x → (itCells L)[i * 2]? = some (.string x.path) ∧ (itCells L)[i * 2 + 1]? = some (.int .i64 x.what)
  | [], _, _, h => by simp at h
  | y :: L, 0, x, h => by
    simp only [List.getElem?_cons_zero, Option.some.injEq] at h
    subst h
    exact ⟨rfl, rfl⟩
  | y :: L, i + 1, x, h => by
    have h' : L[i]? = some x := by simpa using h
    have r := itCells_get h'
    have e : itCells (y :: L) = .string y.path :: .int .i64 y.what :: itCells L := rfl
    rw [e, show (i + 1) * 2 = i * 2 + 1 + 1 by omega]
    exact r
theorem own_it {W : World} {base n c : Nat} {p : Option Addr} {L : List It} (h : W.ownsRow base 42 2 (.slice p n c) n (itCells L)) {i : Nat} {x : It} (hi : L[i]? = some x) (hn : L.length = n) :
    ∃ a : Addr, p = some a ∧ a.block < W.heap.size ∧ W.cell? (a.add (i * 2)) = some (.string x.path) ∧ W.cell? ⟨(a.add (i * 2)).block, (a.add (i * 2)).off + 1, none⟩ = some (.int .i64 x.what) := by
  have hil : i < L.length := (List.getElem?_eq_some_iff.1 hi).1
  obtain ⟨k, rfl⟩ : ∃ k, n = k + 1 := ⟨n - 1, by omega⟩
  obtain ⟨g, cap, e⟩ := ownsRow_succ h
  injection e with e1 e2 e3
  subst e1; subst e3
  obtain ⟨c1, c2⟩ := itCells_get hi
  have d1 := h.cells (g := g) rfl _ _ c1
  have d2 := h.cells (g := g) rfl _ _ c2
  refine ⟨⟨g, 0, none⟩, rfl, (h.lt g rfl).2, d1, ?_⟩
  rw [addr_add] at d2 ⊢
  exact d2
theorem rsameT_v (T : List Node) (p q : Option Addr) (n c d : Nat) (w : World) (hn : T.length = n) (hl : n ≤ 1099511627776) (hp : Row w p T) (hq : Row w q T) :
    Calls Tryz.prog 12 #[.slice p n c, .slice q n d] w fun e w' => e = .returned (.bool true) ∧ Off [] w w' := by
  subst hn
  have := rsame_any T T p q c d w hl hl hp hq
  rw [decide_eq_true rfl] at this
  exact this
theorem swap_path (x : It) : x.swap.path = x.path := rfl
theorem swap3 {x : It} (h : x.what = 3) : x.swap = ⟨x.path, 2⟩ := by unfold It.swap swapK; rw [h]; rfl
theorem swap2 {x : It} (h : x.what = 2) : x.swap = ⟨x.path, 3⟩ := by unfold It.swap swapK; rw [h]; rfl
theorem swap0 {x : It} (h : ¬ x.what = 3) (h' : ¬ x.what = 2) : x.swap = ⟨x.path, x.what⟩ := by unfold It.swap swapK; rw [if_neg h', if_neg h]
theorem eqIt_same (x y : It) (h : x = y) (w : World) : (Op.equalIn 10000 42 (.agg #[.string x.path, .int .i64 x.what]) (.agg #[.string y.path, .int .i64 y.what])).run Tryz.prog w = .ok true w := by
  rw [eqItem x y w, decide_eq_true ⟨by rw [h], by rw [h]⟩]
theorem three_swap (o a b : List Node) : okThree o b a = okThree o a b := by
  unfold okThree
  rw [Bool.and_comm (okTree b)]
theorem items_bound {o a b : List Node} (h : okThree o a b = true) : (itemsV 2000 (rootV o a b)).length ≤ 1000000000 ∧ (agreedV 2000 (rootV o a b)).length ≤ 1000000000 := by
  unfold okThree at h
  simp only [Bool.and_eq_true] at h
  have l1 := okTree_len h.1
  have l2 := okTree_len h.2.1
  have l3 := okTree_len h.2.2
  have hs : sizeV (rootV o a b) = (o.length + 1) + (a.length + 1) + (b.length + 1) := rfl
  have h1 := items_len names_nodup 2000 (rootV o a b) (by omega)
  have h2 := agreed_len names_nodup 2000 (rootV o a b)
  omega
theorem compact_has {zs : List Str} {x : Str} (h : x ∈ zs) : x ∈ Lib.compact zs := by
  obtain ⟨j, hj, rfl⟩ := List.getElem_of_mem h
  have key : ∀ j (hj : j < zs.length), zs[j] ∈ Lib.compact zs := fun j => by
    induction j with
    | zero =>
      intro hj
      unfold Lib.compact Lib.compactUpTo
      refine List.mem_map.2 ⟨0, List.mem_filter.2 ⟨List.mem_range.2 hj, ?_⟩, ?_⟩
      · unfold Lib.keeps; simp
      · rw [getElem!_pos zs.toArray 0 (by simpa using hj)]; simp
    | succ j ih =>
      intro hj
      by_cases e : zs[j + 1] = zs[j]
      · rw [e]; exact ih (by omega)
      · unfold Lib.compact Lib.compactUpTo
        refine List.mem_map.2 ⟨j + 1, List.mem_filter.2 ⟨List.mem_range.2 hj, ?_⟩, ?_⟩
        · unfold Lib.keeps
          rw [decide_eq_true_eq]
          right
          rw [getElem!_pos zs.toArray (j + 1) (by simpa using hj), getElem!_pos zs.toArray (j + 1 - 1) (by simp; omega)]
          simpa using e
        · rw [getElem!_pos zs.toArray (j + 1) (by simpa using hj)]; simp
  exact key j hj
theorem names_all {w : Vw} {x : ByteArray} (h : x ∈ inV w.o ∨ x ∈ inV w.a ∨ x ∈ inV w.b) : x ∈ namesV w := by
  unfold namesV compS
  refine List.mem_map.2 ⟨str x, compact_has ?_, bs_str x⟩
  unfold sortS
  rw [List.map_map, show (str ∘ bs : Str → Str) = id from by funext y; exact str_bs y, List.map_id]
  refine List.mem_mergeSort.2 (List.mem_map.2 ⟨x, ?_, rfl⟩)
  rcases h with h | h | h
  · exact List.mem_append_left _ h
  · exact List.mem_append_right _ (List.mem_append_left _ h)
  · exact List.mem_append_right _ (List.mem_append_right _ h)

/-! ### a path, or the root -/
def okP (P : ByteArray) : Prop := str P = [] ∨ okPath (str P) = true
theorem belowP_root {P x : ByteArray} (h : str P = []) : belowP P x = x := by unfold belowP; rw [if_pos h]
theorem belowP_str {P x : ByteArray} (h : str P ≠ []) : str (belowP P x) = str P ++ 47 :: str x := by unfold belowP; rw [if_neg h]; exact str_slash _ _
theorem belowP_ne {P x : ByteArray} (hx : str x ≠ []) : str (belowP P x) ≠ [] := by
  by_cases h : str P = []
  · rw [belowP_root h]; exact hx
  · rw [belowP_str h]; simp
/-- what stands within a name's path in the value of a directory -/
theorem part_at {t : List Node} {P x : ByteArray} (ht : okTree t = true) (hP : okP P) (hb : okPath (str (belowP P x)) = true) : partV (atR t (str P)) x = atR t (str (belowP P x)) := by
  by_cases h0 : str P = []
  · rw [belowP_root h0] at hb ⊢
    have e : atR t (str P) = rootN :: t := by unfold atR; rw [if_pos ht, if_pos h0]
    rw [e]
    unfold partV
    rw [if_pos (show dirV (rootN :: t) = true from rfl)]; rfl
  have hp : okPath (str P) = true := hP.resolve_left h0
  rw [belowP_str h0] at hb ⊢
  have hx : okPath (str x) = true := okPath_tail hb
  rw [atR_path ht hp, atR_path ht hb]
  have hsub : ∀ n ∈ t, within n.p (str P ++ 47 :: str x) = true → within n.p (str P) = true ∧ n.p ≠ str P := fun n hn hw => by
    have hk := okTree_path ht hn
    rcases (within_iff hk hb).1 hw with h | ⟨s, h⟩
    · refine ⟨(within_iff hk hp).2 (.inr ⟨_, h⟩), fun e => ?_⟩
      have := congrArg List.length (e.symm.trans h)
      simp at this
    · refine ⟨(within_iff hk hp).2 (.inr ⟨str x ++ 47 :: s, by rw [h]; simp⟩), fun e => ?_⟩
      have := congrArg List.length (e.symm.trans h)
      simp at this
  have hin2 : inAt t (str P ++ 47 :: str x) = (inAt t (str P)).filter fun n => within n.p (str P ++ 47 :: str x) := by
    unfold inAt
    rw [List.filter_filter]
    refine List.filter_congr fun n hn => ?_
    cases hw : within n.p (str P ++ 47 :: str x)
    · simp
    · rw [(hsub n hn hw).1]; rfl
  rcases inAt_shape ht hp with h | ⟨f, G, h, hf, hk, hG⟩
  · rw [hin2, h]
    unfold partV
    rw [if_neg (by simp [dirV])]; rfl
  · have hft : f ∈ t := (mem_inAt.1 (by rw [h]; simp)).1
    have hff : within f.p (str P ++ 47 :: str x) = false := by
      cases hw : within f.p (str P ++ 47 :: str x)
      · rfl
      · exact absurd hf (hsub f hft hw).2
    rw [hin2, h, List.filter_cons, if_neg (by rw [hff]; simp), List.map_cons]
    by_cases hk2 : f.kind = 2
    · have hdir : dirV (trimN (str P) f :: G.map (trimN (str P))) = true := decide_eq_true hk2
      unfold partV
      rw [if_pos hdir, List.tail_cons]
      have hv := okVal_at ht hp
      rw [h, List.map_cons] at hv
      have hokr : okTree (G.map (trimN (str P))) = true := by
        rcases (okVal_cons hv).2.2.2 with h1 | h1
        · rw [h1]; rfl
        · exact h1.2
      rw [atR_path hokr hx]
      unfold inAt
      rw [List.filter_map, List.map_map]
      have hw : ∀ g ∈ G, ((fun n : Node => within n.p (str x)) ∘ trimN (str P)) g = within g.p (str P ++ 47 :: str x) := fun g hg => by
        obtain ⟨s, hs⟩ := hG g hg
        have hgt : g ∈ t := (mem_inAt.1 (by rw [h]; exact List.mem_cons_of_mem _ hg)).1
        have hgk := okTree_path ht hgt
        show within (trimN (str P) g).p (str x) = _
        rw [trim_p hs]
        rw [hs] at hgk ⊢
        have hsk := okPath_tail hgk
        rw [Bool.eq_iff_iff, within_iff hsk hx, within_iff hgk hb]
        constructor
        · rintro (e | ⟨r, e⟩)
          · exact .inl (by rw [e])
          · exact .inr ⟨r, by rw [e]; simp⟩
        · rintro (e | ⟨r, e⟩)
          · exact .inl (by simpa using e)
          · exact .inr ⟨r, by simpa using e⟩
      rw [List.filter_congr hw]
      refine List.map_congr_left fun g hg => ?_
      obtain ⟨s, hs⟩ := hG g (List.mem_filter.1 hg).1
      show trimN (str x) (trimN (str P) g) = trimN (str P ++ 47 :: str x) g
      unfold trimN
      have e1 : ({ g with path := bs (g.p.drop ((str P).length + 1)) } : Node).p = g.p.drop ((str P).length + 1) := str_bs _
      rw [e1, List.drop_drop]
      have e2 : (str P ++ 47 :: str x).length + 1 = (str P).length + 1 + ((str x).length + 1) := by simp; omega
      rw [e2]
    · have hG0 : G = [] := by
        by_cases e : G = []
        · exact e
        · exact absurd (hk e) hk2
      subst hG0
      unfold partV
      rw [if_neg (show ¬ dirV (trimN (str P) f :: List.map (trimN (str P)) []) = true from fun e => hk2 (of_decide_eq_true e))]; rfl
/-- the names in the value at a path are those that stand right in it -/
theorem in_at {t : List Node} {P : ByteArray} (ht : okTree t = true) (hP : okP P) : inV (atR t (str P)) = namesR t (str P) := by
  by_cases h0 : str P = []
  · have e : atR t (str P) = rootN :: t := by unfold atR; rw [if_pos ht, if_pos h0]
    rw [e, h0]
    unfold inV
    rw [if_pos (show dirV (rootN :: t) = true from rfl)]; rfl
  have hp : okPath (str P) = true := hP.resolve_left h0
  rw [namesR_eq ht, atR_path ht hp]
  have hsub : ∀ n ∈ t, parent n.p = str P → within n.p (str P) = true ∧ n.p ≠ str P := fun n hn hw => by
    have hk := okTree_path ht hn
    have h1 := path_whole hk
    rw [hw, if_neg h0] at h1
    refine ⟨(within_iff hk hp).2 (.inr ⟨_, h1⟩), fun e => ?_⟩
    have := congrArg List.length (e.symm.trans h1)
    simp at this
  have hin2 : namesOf t (str P) = ((inAt t (str P)).filter fun n => decide (parent n.p = str P)).map fun n => bs (base n.p) := by
    unfold namesOf inAt
    rw [List.filter_filter]
    congr 1
    refine List.filter_congr fun n hn => ?_
    by_cases hw : parent n.p = str P
    · rw [(hsub n hn hw).1]; simp
    · simp [hw]
  rw [hin2]
  rcases inAt_shape ht hp with h | ⟨f, G, h, hf, hk, hG⟩
  · rw [h]; rfl
  · have hft : f ∈ t := (mem_inAt.1 (by rw [h]; simp)).1
    have hff : ¬ parent f.p = str P := fun e => (hsub f hft e).2 hf
    rw [h, List.filter_cons, if_neg (by simpa using hff), List.map_cons]
    by_cases hk2 : f.kind = 2
    · have hdir : dirV (trimN (str P) f :: G.map (trimN (str P))) = true := decide_eq_true hk2
      unfold inV
      rw [if_pos hdir, List.tail_cons]
      have hv := okVal_at ht hp
      rw [h, List.map_cons] at hv
      have hokr : okTree (G.map (trimN (str P))) = true := by
        rcases (okVal_cons hv).2.2.2 with h1 | h1
        · rw [h1]; rfl
        · exact h1.2
      rw [namesR_eq hokr]
      unfold namesOf
      rw [List.filter_map, List.map_map]
      have hone : ∀ g ∈ G, ∃ s, g.p = str P ++ 47 :: s ∧ okPath s = true ∧ (trimN (str P) g).p = s ∧ okPath (str P ++ 47 :: s) = true := fun g hg => by
        obtain ⟨s, hs⟩ := hG g hg
        have hgk := okTree_path ht (mem_inAt.1 (show g ∈ inAt t (str P) by rw [h]; exact List.mem_cons_of_mem _ hg)).1
        rw [hs] at hgk
        exact ⟨s, hs, okPath_tail hgk, trim_p hs, hgk⟩
      have hw : ∀ g ∈ G, ((fun n : Node => decide (parent n.p = [])) ∘ trimN (str P)) g = decide (parent g.p = str P) := fun g hg => by
        obtain ⟨s, hs, h1, h2, h3⟩ := hone g hg
        show decide (parent (trimN (str P) g).p = []) = _
        rw [h2, hs, parent_sub hp h1 h3]
        by_cases e : parent s = []
        · simp [e]
        · rw [if_neg e]; simp [e]
      rw [List.filter_congr hw]
      refine List.map_congr_left fun g hg => ?_
      obtain ⟨s, hs, h1, h2, h3⟩ := hone g (List.mem_filter.1 hg).1
      show bs (base (trimN (str P) g).p) = bs (base g.p)
      rw [h2, hs]
      congr 1
      have e1 := parts_split h1
      have e2 := parts_split h3
      rw [parts_append, e1, ← List.append_assoc] at e2
      exact (List.append_inj' e2 rfl).2 |> List.cons.inj |>.1
    · have hG0 : G = [] := by
        by_cases e : G = []
        · exact e
        · exact absurd (hk e) hk2
      subst hG0
      unfold inV
      rw [if_neg (show ¬ dirV (trimN (str P) f :: List.map (trimN (str P)) []) = true from fun e => hk2 (of_decide_eq_true e))]; rfl
/-! ### views -/
def vwAt (o a b : List Node) (P : ByteArray) : Vw := ⟨P, atR o (str P), atR a (str P), atR b (str P)⟩
structure Trees (o a b : List Node) : Prop where
  o : okTree o = true
  a : okTree a = true
  b : okTree b = true
theorem vw_root {o a b : List Node} (h : Trees o a b) : rootV o a b = vwAt o a b ⟨#[]⟩ := by
  unfold rootV vwAt
  rw [rootN_at h.o, rootN_at h.a, rootN_at h.b]
theorem name_at {t : List Node} {P x : ByteArray} (ht : okTree t = true) (hP : okP P) (hx : x ∈ inV (atR t (str P))) : okPath (str (belowP P x)) = true := by
  rw [in_at ht hP] at hx
  obtain ⟨m, hm, e⟩ := names_found ht hx
  have hk := okTree_path ht hm
  by_cases h0 : str P = []
  · rw [belowP_root h0]
    rw [if_pos h0] at e
    rw [← e]; exact hk
  · rw [belowP_str h0]
    rw [if_neg h0] at e
    rw [← e]; exact hk
theorem vw_name {o a b : List Node} {P x : ByteArray} (h : Trees o a b) (hP : okP P) (hx : x ∈ namesV (vwAt o a b P)) : okPath (str (belowP P x)) = true := by
  have h1 := sortS_mem (compS_mem hx)
  rcases List.mem_append.1 h1 with h2 | h2
  · exact name_at h.o hP h2
  · rcases List.mem_append.1 h2 with h3 | h3
    · exact name_at h.a hP h3
    · exact name_at h.b hP h3
theorem vw_sub {o a b : List Node} {P x : ByteArray} (h : Trees o a b) (hP : okP P) (hx : x ∈ namesV (vwAt o a b P)) : subV (vwAt o a b P) x = vwAt o a b (belowP P x) := by
  have hk := vw_name h hP hx
  show Vw.mk (belowP P x) (partV (atR o (str P)) x) (partV (atR a (str P)) x) (partV (atR b (str P)) x) = _
  rw [part_at h.o hP hk, part_at h.a hP hk, part_at h.b hP hk]; rfl
theorem vw_below {o a b : List Node} {P : ByteArray} (h : Trees o a b) (hP : okP P) : belowV (vwAt o a b P) = (namesV (vwAt o a b P)).map fun x => vwAt o a b (belowP P x) := by
  unfold belowV
  exact List.map_congr_left fun x hx => vw_sub h hP hx
/-! ### items lie apart -/
/-- s lies within q, or q is the root -/
def inP (s q : Str) : Prop := q = [] ∨ within s q = true
structure ItOk (a b : List Node) (P : ByteArray) (i : It) : Prop where
  path : okP i.path
  own : inP (str i.path) (str P)
  same : i.what = 1 ↔ atR a (str i.path) = atR b (str i.path)
theorem inP_trans {s q r : Str} (h : inP s q) (k : inP q r) (hq : q = [] → r = []) : inP s r := by
  rcases k with k | k
  · exact .inl k
  rcases h with h | h
  · exact .inl (hq h)
  right
  unfold within at *
  simp only [Bool.and_eq_true, Bool.or_eq_true, decide_eq_true_eq] at *
  refine ⟨h.1, ?_⟩
  rcases k.2 with k2 | k2
  · exact .inl k2
  rcases h.2 with h2 | h2
  · have := okPath_ne k.1; contradiction
  · exact .inr ⟨k2.1, List.isPrefixOf_iff_prefix.2 ((List.isPrefixOf_iff_prefix.1 k2.2).trans (List.isPrefixOf_iff_prefix.1 h2.2))⟩
theorem below_in {P x : ByteArray} (hP : okP P) (hb : okPath (str (belowP P x)) = true) : inP (str (belowP P x)) (str P) := by
  by_cases h0 : str P = []
  · exact .inl h0
  · right
    have hp := hP.resolve_left h0
    rw [belowP_str h0] at hb ⊢
    exact within_sub hp hb
theorem items_ok {o a b : List Node} (h : Trees o a b) : ∀ (f : Nat) (P : ByteArray), okP P → ∀ i ∈ itemsV f (vwAt o a b P), ItOk a b P i
  | 0, _, _, i, hi => by cases hi
  | f + 1, P, hP, i, hi => by
    have hself : inP (str P) (str P) := by
      rcases hP with h | h
      · exact .inl h
      · exact .inr (within_self h)
    unfold itemsV at hi
    split at hi
    · rename_i hab
      split at hi
      · cases hi
      · rw [List.mem_singleton] at hi; subst hi
        exact ⟨hP, hself, ⟨fun _ => hab, fun _ => rfl⟩⟩
    · rename_i hab
      split at hi
      · rw [List.mem_flatMap] at hi
        obtain ⟨y, hy, hi⟩ := hi
        rw [vw_below h hP] at hy
        obtain ⟨x, hx, rfl⟩ := List.mem_map.1 hy
        have hk := vw_name h hP hx
        have r := items_ok h f (belowP P x) (.inr hk) i hi
        exact ⟨r.path, inP_trans r.own (below_in hP hk) (fun e => absurd e (okPath_ne hk)), r.same⟩
      · have key : ∀ k : Int, k ≠ 1 → i = ⟨P, k⟩ → ItOk a b P i := fun k hk e => by
          subst e
          exact ⟨hP, hself, ⟨fun e => absurd e hk, fun e => absurd e hab⟩⟩
        split at hi
        · exact key 2 (by decide) (List.mem_singleton.1 hi)
        · split at hi
          · exact key 3 (by decide) (List.mem_singleton.1 hi)
          · exact key 4 (by decide) (List.mem_singleton.1 hi)
def ApartI (i j : It) : Prop := str i.path ≠ [] ∧ str j.path ≠ [] ∧ within (str i.path) (str j.path) = false ∧ within (str j.path) (str i.path) = false
theorem parts_below {P x : ByteArray} (hx : okName (str x) = true) : parts (str (belowP P x)) = (if str P = [] then [] else parts (str P)) ++ [str x] := by
  by_cases h0 : str P = []
  · rw [belowP_root h0, if_pos h0, okName_parts hx]; rfl
  · rw [belowP_str h0, if_neg h0, parts_append, okName_parts hx]
theorem pre_one {l : List Str} {x y : Str} {r : List Str} (h1 : l ++ [x] <+: r) (h2 : l ++ [y] <+: r) : x = y := by
  obtain ⟨s1, e1⟩ := h1
  obtain ⟨s2, e2⟩ := h2
  rw [← e2, List.append_assoc, List.append_assoc] at e1
  exact (List.cons.inj (List.append_cancel_left e1)).1
theorem inP_pre {s q : Str} (hq : okPath q = true) (h : inP s q) : okPath s = true ∧ parts q <+: parts s := by
  rcases h with h | h
  · exact absurd h (okPath_ne hq)
  · exact within_pre hq h
theorem items_apart {o a b : List Node} (h : Trees o a b) : ∀ (f : Nat) (P : ByteArray), okP P → (itemsV f (vwAt o a b P)).Pairwise ApartI
  | 0, _, _ => List.Pairwise.nil
  | f + 1, P, hP => by
    unfold itemsV
    split
    · split <;> simp
    · split
      · rw [vw_below h hP, List.flatMap_map]
        rw [List.pairwise_flatMap]
        refine ⟨fun x hx => items_apart h f _ (.inr (vw_name h hP hx)), ?_⟩
        have hnd : (namesV (vwAt o a b P)).Pairwise (fun x y => x ≠ y) := names_nodup _
        refine hnd.imp_of_mem fun {x y} hx hy hxy i hi j hj => ?_
        have kx := vw_name h hP hx
        have ky := vw_name h hP hy
        have ri := items_ok h f _ (.inr kx) i hi
        have rj := items_ok h f _ (.inr ky) j hj
        obtain ⟨i1, i2⟩ := inP_pre kx ri.own
        obtain ⟨j1, j2⟩ := inP_pre ky rj.own
        rw [parts_below (namesV_mem hx)] at i2
        rw [parts_below (namesV_mem hy)] at j2
        refine ⟨okPath_ne i1, okPath_ne j1, ?_, ?_⟩
        · cases hw : within (str i.path) (str j.path)
          · rfl
          · exact absurd (str_inj (pre_one i2 (j2.trans (within_pre j1 hw).2))) hxy
        · cases hw : within (str j.path) (str i.path)
          · rfl
          · exact absurd (str_inj (pre_one (i2.trans (within_pre i1 hw).2) j2)) hxy
      · split
        · simp
        · split <;> simp
/-! ### outside of the items both have the same -/
theorem inP_own {n m : Node} (hn : okPath n.p = true) (hm : okPath m.p = true) (h : parent n.p = m.p) : inP n.p m.p := by
  right
  have h1 := path_whole hn
  rw [h, if_neg (okPath_ne hm)] at h1
  exact (within_iff hn hm).2 (.inr ⟨_, h1⟩)
theorem climb {t : List Node} {q : Str} (ht : okTree t = true) : ∀ (k : Nat) {n : Node}, n ∈ t → (parts n.p).length ≤ k → inP n.p q → n.p ≠ q → (q = [] ∨ okPath q = true) → ∃ m ∈ t, parent m.p = q ∧ inP n.p m.p
  | 0, n, _, hk, _, _, _ => absurd (List.length_eq_zero_iff.1 (Nat.le_zero.1 hk)) (parts_ne n.p)
  | k + 1, n, hn, hk, hw, hne, hq => by
    have hnk := okTree_path ht hn
    by_cases e : parent n.p = q
    · exact ⟨n, hn, e, .inr (within_self hnk)⟩
    · rcases isDir_iff.1 (parent_dir ht hn) with h | ⟨d, hd1, hd2, hd3⟩
      · have hq0 : q ≠ [] := fun e2 => e (by rw [h, e2])
        have hqk := hq.resolve_left hq0
        obtain ⟨_, r, hr⟩ := inP_pre hqk hw
        have h1 := path_whole hnk
        rw [if_pos h] at h1
        have hl := congrArg List.length (parts_split hnk)
        have hb : parts n.p = [base n.p] := by
          have := okName_parts (okPath_names hnk (base n.p) (by rw [parts_split hnk]; simp))
          rw [← this, ← h1]
        rw [hb] at hr
        exfalso
        cases hpq : parts q with
        | nil => exact parts_ne q hpq
        | cons z l =>
          rw [hpq] at hr
          have h2 := (List.cons.inj hr).1
          have h3 := (List.cons.inj hr).2
          have h4 : l = [] := (List.append_eq_nil_iff.1 h3).1
          rw [h4] at hpq
          exact hne (parts_inj (by rw [hb, hpq, h2]))
      · have hdk := okTree_path ht hd1
        have hpn : parent n.p ≠ [] := by rw [← hd2]; exact okPath_ne hdk
        have hpp := parent_parts hnk hpn
        have hdw : inP d.p q := by
          rcases hq with h0 | hqk
          · exact .inl h0
          · right
            obtain ⟨_, r, hr⟩ := inP_pre hqk hw
            have hr0 : r ≠ [] := fun e2 => by subst e2; rw [List.append_nil] at hr; exact hne (parts_inj hr).symm
            unfold within
            rw [hdk, hqk, hd2, hpp, ← hr, List.dropLast_append_of_ne_nil hr0, List.isPrefixOf_iff_prefix.2 (List.prefix_append _ _)]; simp
        obtain ⟨m, hm1, hm2, hm3⟩ := climb ht k hd1 (by rw [hd2, hpp, List.length_dropLast]; omega) hdw (by rw [hd2]; exact e) hq
        exact ⟨m, hm1, hm2, inP_trans (inP_own hnk hdk hd2.symm) hm3 (fun e2 => absurd e2 (okPath_ne hdk))⟩
theorem dir_node {t : List Node} {P : ByteArray} (ht : okTree t = true) (hp : okPath (str P) = true) (h : dirV (atR t (str P)) = true) : ∃ m ∈ t, m.p = str P ∧ m.kind = 2 := by
  rw [atR_path ht hp] at h
  rcases inAt_shape ht hp with e | ⟨f, G, e, hf, -, -⟩
  · rw [e] at h; cases h
  · rw [e, List.map_cons] at h
    exact ⟨f, (mem_inAt.1 (by rw [e]; simp)).1, hf, of_decide_eq_true h⟩
theorem dir_same {n m : Node} (hn : rightN n = true) (hm : rightN m = true) (kn : n.kind = 2) (km : m.kind = 2) (hp : n.p = m.p) : n = m := by
  unfold rightN at hn hm
  rw [kn] at hn
  rw [km] at hm
  have e1 : ¬ (2 : Int) = 1 := by decide
  rw [if_neg e1, if_pos rfl] at hn hm
  simp only [Bool.and_eq_true, decide_eq_true_eq] at hn hm
  have hd : n.data = m.data := str_inj (by
    have h1 := str_size n.data
    have h2 := str_size m.data
    rw [hn.1] at h1
    rw [hm.1] at h2
    rw [List.length_eq_zero_iff.1 h1, List.length_eq_zero_iff.1 h2])
  have hpp : n.path = m.path := str_inj hp
  obtain ⟨n1, n2, n3, n4⟩ := n
  obtain ⟨m1, m2, m3, m4⟩ := m
  simp only at kn km hd hpp hn hm
  subst kn; subst km; subst hd; subst hpp
  rw [hn.2, hm.2]
theorem found_in {o a b : List Node} (h : Trees o a b) {n : Node} (hn : n ∈ a) (hnb : n ∉ b) : ∀ (f : Nat) (P : ByteArray), okP P → inP n.p (str P) → (atR a (str P)).length < f → ∃ i ∈ itemsV f (vwAt o a b P), inP n.p (str i.path)
  | 0, _, _, _, hf => by omega
  | f + 1, P, hP, hin, hf => by
    have hnk := okTree_path h.a hn
    unfold itemsV
    split
    · rename_i hab
      exfalso
      have hab : atR a (str P) = atR b (str P) := hab
      rcases hP with h0 | hp
      · have ea : atR a (str P) = rootN :: a := by unfold atR; rw [if_pos h.a, if_pos h0]
        have eb : atR b (str P) = rootN :: b := by unfold atR; rw [if_pos h.b, if_pos h0]
        rw [ea, eb] at hab
        exact hnb ((List.cons.inj hab).2 ▸ hn)
      · have ea := moved_at h.a hp
        have eb := moved_at h.b hp
        rw [← atR_path h.a hp] at ea
        rw [← atR_path h.b hp] at eb
        have hw : within n.p (str P) = true := hin.resolve_left (okPath_ne hp)
        have : n ∈ inAt a (str P) := mem_inAt.2 ⟨hn, hw⟩
        rw [← ea, hab, eb] at this
        exact hnb (mem_inAt.1 this).1
    · split
      · rename_i hd
        rw [Bool.and_eq_true] at hd
        have hda : dirV (atR a (str P)) = true := hd.1
        have hdb : dirV (atR b (str P)) = true := hd.2
        by_cases e : n.p = str P
        · exfalso
          have hp : okPath (str P) = true := by rw [← e]; exact hnk
          obtain ⟨m, hm, hmp, hmk⟩ := dir_node h.b hp hdb
          obtain ⟨m', hm', hmp', hmk'⟩ := dir_node h.a hp hda
          have e1 : m' = n := (okTree_sorted h.a).unique hm' hn (by rw [hmp', e])
          subst e1
          have : m' = m := dir_same (okTree_right h.a hn) (okTree_right h.b hm) hmk' hmk (by rw [hmp, hmp'])
          exact hnb (this ▸ hm)
        · obtain ⟨m, hm, hmp, hmi⟩ := climb h.a _ hn (Nat.le_refl _) hin e hP
          have hmk := okTree_path h.a hm
          have hx : bs (base m.p) ∈ inV (atR a (str P)) := by
            rw [in_at h.a hP, namesR_eq h.a]
            unfold namesOf
            exact List.mem_map.2 ⟨m, List.mem_filter.2 ⟨hm, by rw [hmp]; simp⟩, rfl⟩
          have hxv : bs (base m.p) ∈ namesV (vwAt o a b P) := names_all (.inr (.inl hx))
          have hpath : str (belowP P (bs (base m.p))) = m.p := by
            have h1 := path_whole hmk
            rw [hmp] at h1
            by_cases h0 : str P = []
            · rw [belowP_root h0, str_bs]
              rw [if_pos h0] at h1; exact h1.symm
            · rw [belowP_str h0, str_bs]
              rw [if_neg h0] at h1; exact h1.symm
          have hl : (atR a (str (belowP P (bs (base m.p))))).length < f := by
            rw [← part_at h.a hP (by rw [hpath]; exact hmk)]
            have h1 := partV_short (v := atR a (str P)) (x := bs (base m.p)) (okName_ne (inV_mem hx))
            have h2 : 0 < (atR a (str P)).length := List.length_pos_iff.2 fun e => by rw [e] at hda; cases hda
            omega
          obtain ⟨i, hi, hi2⟩ := found_in h hn hnb f (belowP P (bs (base m.p))) (.inr (by rw [hpath]; exact hmk)) (by rw [hpath]; exact hmi) hl
          refine ⟨i, List.mem_flatMap.2 ⟨_, ?_, hi⟩, hi2⟩
          rw [vw_below h hP]
          exact List.mem_map.2 ⟨_, hxv, rfl⟩
      · split
        · exact ⟨_, List.mem_singleton.2 rfl, hin⟩
        · split
          · exact ⟨_, List.mem_singleton.2 rfl, hin⟩
          · exact ⟨_, List.mem_singleton.2 rfl, hin⟩
theorem atR_short' {t : List Node} : (atR t (str ⟨#[]⟩)).length ≤ t.length + 1 := by
  unfold atR
  split
  · rw [if_pos (show str ⟨#[]⟩ = [] from rfl)]; simp
  · simp
theorem differ_found {o a b : List Node} (h : Trees o a b) {f : Nat} (hfa : a.length + 1 < f) (hfb : b.length + 1 < f) {s : ByteArray} (hs : s ∈ differ a b) : ∃ i ∈ itemsV f (rootV o a b), inP (str s) (str i.path) := by
  rcases differ_mem _ a b (Nat.le_refl _) (okTree_sorted h.a) (okTree_sorted h.b) s hs with ⟨n, hn, rfl, hnb⟩ | ⟨n, hn, rfl, hna⟩
  · rw [vw_root h]
    exact found_in h hn hnb f _ (.inl rfl) (.inl rfl) (Nat.lt_of_le_of_lt atR_short' hfa)
  · have h' : Trees o b a := ⟨h.o, h.b, h.a⟩
    obtain ⟨i, hi, hi2⟩ := found_in h' hn hna f _ (.inl rfl) (.inl rfl) (Nat.lt_of_le_of_lt atR_short' hfb)
    rw [← vw_root h'] at hi
    have e : rootV o b a = (rootV o a b).swap := rfl
    rw [e, items_swap] at hi
    obtain ⟨j, hj, rfl⟩ := List.mem_map.1 hi
    exact ⟨j, hj, hi2⟩
section
variable {P : Program}
/-- an append of a row that lies somewhere, or of no row -/
theorem wpList_append_src (w : World) {ops : Array Oper} {rest : List Oper} {o : Oper} {a : Act} {Q : Exit → Act → World → Prop} (hgd : o.guard = none) (s x : Operand) (t : TypeId)
    (ho : o.op = .call { callee := .builtin .append, args := #[s, x], argTypes := #[t, t] })
    (base : Nat) (e : TypeId) (i : TypeInfo) (z : Value) (size bytes : Nat) (ht : P.underlying t = some (.slice e)) (hi : P.info? e = some i) (hz : i.zero = some z)
    (hsize : i.size = size) (hby : i.bytes = bytes) (hzs : z.cells.size = size) (hsz : 0 < size)
    (v : Value) (n : Nat) (xs : List Value) (hs : a.eval s = v) (hown : w.ownsRow base e size v n xs)
    (p : Option Addr) (m c : Nat) (news : List Value) (hx : a.eval x = .slice p m c) (hl : news.length = m * size) (hnews : ∀ ad, p = some ad → ∀ j u, news[j]? = some u → w.cell? (ad.add j) = some u) (hnone : p = none → m = 0 ∧ c = 0) (h1 : ∀ u ∈ news, u.oneCell' = true)
    (h63 : n + m ≤ maxLen) (hbytes : (n + m) * bytes ≤ 140737488355328) (hbase : base ≤ w.heap.size)
    (h : ∀ v' w', w'.ownsRow base e size v' (n + m) (xs ++ news) → w.grownBy w' v.ownBlock → wpList P ops Q rest (a.put o.dst v') w') : wpList P ops Q (o :: rest) a w := by
  cases p with
  | none =>
    obtain ⟨rfl, rfl⟩ := hnone rfl
    have hnil : news = [] := List.length_eq_zero_iff.1 (by rw [hl]; simp)
    subst hnil
    refine Lib.wpList_append_run w hgd s x t t ho v (.slice none 0 0) hs hx v w (run_append_owned_none w base t o.type e i size ht hi v n xs hown) (h v w ?_ ⟨rfl, rfl, rfl, Nat.le_refl _, fun _ _ _ => rfl⟩)
    rw [Nat.add_zero, List.append_nil]; exact hown
  | some ad =>
    exact wpList_append_own w hgd s x t ho base e i z size bytes ht hi hz hsize hby hzs hsz v n xs hs hown ad m c news hx hl (hnews ad rfl) h1 h63 hbytes hbase (fun v' w' a1 a2 _ => h v' w' a1 a2)
end
theorem fits1_tree {t : List Node} (h : okTree t = true) : Fits1 t := fun n hn => by
  have h1 := okTree_small h hn
  have h2 := okTree_right h hn
  refine ⟨by omega, ?_⟩
  unfold rightN at h2
  split at h2
  · simp only [Bool.and_eq_true, decide_eq_true_eq] at h2; omega
  · split at h2
    · simp only [Bool.and_eq_true, decide_eq_true_eq] at h2; omega
    · split at h2
      · simp only [Bool.and_eq_true, decide_eq_true_eq] at h2; omega
      · cases h2
set_option maxRecDepth 100000 in
set_option maxHeartbeats 4000000 in
theorem rbase_any (s : ByteArray) (w : World) (hs : s.size ≤ 1048576) (hk : okPath (str s) = true) :
    Calls Tryz.prog 67 #[.string s] w fun e w' => e = .returned (.string (bs (base (str s)))) ∧ Off [] w w' := by
  have e0 : splitB s = partsB s := by unfold splitB; rw [hk]; rfl
  have hlen := partsB_len s
  have hjl : (str s).count 47 ≤ 1048576 := by have := @List.count_le_length _ _ 47 (str s); rw [str_size] at this; omega
  obtain ⟨m, hm⟩ : ∃ m, (str s).count 47 = m := ⟨_, rfl⟩
  rw [hm] at hlen hjl
  have hlast : (partsB s)[m]? = some (bs (base (str s))) := by
    have h3 := parts_split hk
    have h4 : (parts (str s)).dropLast.length = m := by
      rw [List.length_dropLast]
      unfold partsB at hlen
      rw [List.length_map] at hlen
      omega
    unfold partsB
    rw [List.getElem?_map]
    have h5 : (parts (str s))[m]? = some (base (str s)) := by
      rw [h3, List.getElem?_append_right (by omega), h4]; simp
    rw [h5]; rfl
  have E0 := Lib.hid e0
  have HLAST := Lib.hid hlast
  have HLEN := Lib.hid hlen
  have hjw : wrap64 ((m : Int) + 1 - 1) = (m : Int) := by unfold wrap64; omega
  clear e0 hlen hm hk hlast
  go_enter Tryz.func67, Tryz.ntmps67
  go_wp2_with fail
  refine (rsplit_any s _ hs).mono ?_
  rintro e w1 ⟨v, rfl, hown, ho⟩
  obtain ⟨pl, cap, rfl, hstr⟩ := own_strs hown
  rw [E0.out] at hstr ⊢
  obtain ⟨g, rfl, hg, hc⟩ := hstr m _ HLAST.out
  rw [HLEN.out]
  clear hown hstr
  go_wp2_with fail
  go_ret
  exact ⟨rfl, ho⟩
set_option maxRecDepth 100000 in
set_option maxHeartbeats 8000000 in
theorem rnames_any (p : Option Addr) (t : List Node) (n cap : Nat) (s : ByteArray) (w : World) (hR : Row w p t) (hn : t.length = n) (hok : okTree t = true) :
    Calls Tryz.prog 41 #[.slice p n cap, .string s] w (MadeS (namesR t (str s)) w) := by
  have hlen : n ≤ 1000 := by rw [← hn]; exact okTree_len hok
  have HN := Lib.hid hn
  have HR := Lib.hid hR
  have HF := Lib.hid (fits1_tree hok)
  have HSO := Lib.hid (okTree_sorted hok)
  have HOK := Lib.hid hok
  clear hn hR hok
  cases hd : isDir t (str s)
  · have HD := Lib.hid (show rdir t (str s) = false by rw [rdir_eq HSO.out, hd])
    have e0 : namesR t (str s) = [] := by unfold namesR; rw [HOK.out, hd]; rfl
    have E0 := Lib.hid e0
    clear hd e0
    go_enter Tryz.func41, Tryz.ntmps41
    go_wp2_with fail
    refine (rcheck_v p t n cap _ HR.out HN.out (by omega) HF.out 0 (chkV_ok HOK.out)).mono ?_
    rintro e w1 ⟨rfl, ho⟩
    go_wp2_with fail
    refine (rdir_v p t n cap s _ (HR.out.off ho) HN.out (by omega) false HD.out).mono ?_
    rintro e w2 ⟨rfl, ho2⟩
    go_wp2_with fail
    go_ret
    exact ⟨_, rfl, by rw [E0.out]; exact ⟨rfl, .inl ⟨rfl, rfl⟩⟩, ho.trans_nil ho2⟩
  · have HD := Lib.hid (show rdir t (str s) = true by rw [rdir_eq HSO.out, hd])
    have HDI := Lib.hid hd
    clear hd
    obtain ⟨i0, hi, hz0, hz1, hz2⟩ := info_parts infoStr
    go_enter Tryz.func41, Tryz.ntmps41
    go_wp2_with fail
    refine (rcheck_v p t n cap _ HR.out HN.out (by omega) HF.out 0 (chkV_ok HOK.out)).mono ?_
    rintro e w1 ⟨rfl, ho⟩
    go_wp2_with fail
    refine (rdir_v p t n cap s _ (HR.out.off ho) HN.out (by omega) true HD.out).mono ?_
    rintro e w2 ⟨rfl, ho2⟩
    have ho3 := ho.trans_nil ho2
    clear ho ho2
    go_wp2_with fail
    go_loopw [6, 5] (fun x l wr => ∃ k : Nat, x = .int .i64 k ∧ k ≤ n ∧ NmRel w t (str s) k l wr) (fun x _ _ => n - (intOf x).toNat)
    case atStart => exact ⟨0, rfl, by omega, ⟨rfl, .inl ⟨rfl, rfl⟩⟩, ho3⟩
    case round =>
      obtain ⟨k, rfl, hk, hrel⟩ := hrel
      have HREL := Lib.hid hrel
      have hoff := hrel.2
      clear hrel ho3
      by_cases hkn : k < n
      · have hkl : k < t.length := by rw [HN.out]; omega
        obtain ⟨a, rfl, hna, hab⟩ := (HR.out.off hoff).get k hkl
        have hfit : t[k].path.size ≤ 400 := okTree_small HOK.out (List.getElem_mem hkl)
        have HPK := Lib.hid (show okPath (str t[k].path) = true from okTree_path HOK.out (List.getElem_mem hkl))
        have HST := Lib.hid (namesOf_step hkl (str s))
        generalize t[k] = nd at *
        have c0 := hna.path
        have HNA := Lib.hid (fun (W : World) (ho : Off [] wr W) => hna.off ho (by rw [add_block]; exact hab))
        clear hna
        have hnl : (namesOf (t.take k) (str s)).length ≤ 1000 := by have := namesOf_len (t.take k) (str s); rw [List.length_take] at this; omega
        by_cases hp : parent (str nd.path) = str s
        · have hpe : ((bs (parent (str nd.path))).toList == s.toList) = true := by rw [toList_str, toList_str, str_bs]; exact beq_iff_eq.2 hp
          have HP := Lib.hid hp
          clear hp
          go_wp2_with fail
          refine (rparent_any nd.path _ (by omega)).mono ?_
          rintro e w4 ⟨rfl, ho4⟩
          clear c0
          have c0 := (HNA.out _ ho4).path
          go_wp2_with fail
          refine (rbase_any nd.path _ (by omega) HPK.out).mono ?_
          rintro e w5 ⟨rfl, ho5⟩
          have hoff5 := (hoff.trans_nil ho4).trans_nil ho5
          have hown5 := ownsRow_off (ownsRow_off HREL.out.1 ho4) ho5
          clear c0
          go_wp2_with (at_builtin; refine wpList_append_own _ rfl _ _ 46 rfl w.heap.size 9 i0 (.string ⟨#[]⟩) 1 16 Tryz.underlying46 hi hz0 hz1 hz2 rfl (by decide) _ _ _ rfl (hown5.alloc _) ⟨w5.heap.size, 0, none⟩ 1 1 [_] rfl rfl (cell_one_at (Blk.new w5 _ _)) (by simp [Value.oneCell']) (by unfold maxLen; omega) (by omega) (by have := hoff5.size; simp; omega) ?_; intro v' w6 hown' hgrow _)
          refine ⟨⟨k + 1, by congr 1, by omega, ?_, own_off hoff5 hown5 hgrow⟩, ?_⟩
          · rw [HST.out]
            rw [if_pos (show parent nd.p = str s from HP.out)]
            simpa [Node.p] using hown'
          · simp only [intOf]; omega
        · have hpe : ((bs (parent (str nd.path))).toList == s.toList) = false := by rw [toList_str, toList_str, str_bs]; exact beq_eq_false_iff_ne.2 hp
          have HP := Lib.hid hp
          clear hp
          go_wp2_with fail
          refine (rparent_any nd.path _ (by omega)).mono ?_
          rintro e w4 ⟨rfl, ho4⟩
          clear c0
          go_wp2_with fail
          refine ⟨⟨k + 1, by congr 1, by omega, ?_, hoff.trans_nil ho4⟩, ?_⟩
          · rw [HST.out, if_neg (show ¬ parent nd.p = str s from HP.out)]
            exact ownsRow_off HREL.out.1 ho4
          · simp only [intOf]; omega
      · obtain rfl : k = n := by omega
        go_wp2_with fail
        go_ret
        have e0 : namesR t (str s) = namesOf (t.take k) (str s) := by
          unfold namesR
          rw [HOK.out, HDI.out, List.take_of_length_le (by rw [HN.out]; exact Nat.le_refl _)]
          rfl
        exact ⟨_, rfl, by rw [e0]; exact HREL.out.1, HREL.out.2⟩
theorem four_at {w : World} {g : Nat} {t : TypeId} {a b c d : Value} (h : Blk w g t #[a, b, c, d]) : ∀ j u, [a, b, c, d][j]? = some u → w.cell? ((⟨g, 0, none⟩ : Addr).add j) = some u := by
  intro j u hj
  match j, hj with
  | 0, hj => rw [addr_add, h.cell]; simpa using hj
  | 1, hj => rw [addr_add, h.cell]; simpa using hj
  | 2, hj => rw [addr_add, h.cell]; simpa using hj
  | 3, hj => rw [addr_add, h.cell]; simpa using hj
  | j + 4, hj => simp at hj
theorem rwithin_w (a b : ByteArray) (w : World) (ha : a.size ≤ 1048576) (hb : b.size ≤ 1048576) (v : Bool) (hv : within (str a) (str b) = v) :
    Calls Tryz.prog 14 #[.string a, .string b] w fun e w' => e = .returned (.bool v) ∧ Off [] w w' := hv ▸ rwithin_any a b w ha hb
theorem inAt_take {t : List Node} {q : Str} {i : Nat} {x : Node} (h : t[i]? = some x) : inAt (t.take (i + 1)) q = inAt (t.take i) q ++ if within x.p q = true then [x] else [] := by
  unfold inAt
  rw [take_get h, List.filter_append, List.filter_cons]
  split <;> simp
theorem own_one {W : World} {base : Nat} (n : Node) (hb : base ≤ W.heap.size) : (W.alloc (.cells #[.string n.path, .int .i64 n.kind, .string n.data, .int .i64 n.mode] 40)).ownsRow base 40 4 (.slice (some ⟨W.heap.size, 0, none⟩) 1 1) 1 (cellsOf [n]) :=
  ⟨rfl, .inr ⟨_, 1, _, rfl, hb, heap_alloc_new W _, by omega, by decide, rfl, rfl⟩⟩
set_option maxRecDepth 100000 in
set_option maxHeartbeats 8000000 in
theorem rat_any (p : Option Addr) (t : List Node) (n c : Nat) (path : ByteArray) (w : World) (hR : Row w p t) (hn : t.length = n) (hpn : p = none → t = [] ∧ c = 0) (hok : okTree t = true) (hP : okP path) :
    Calls Tryz.prog 66 #[.slice p n c, .string path] w (OwnT (atR t (str path)) w) := by
  obtain ⟨i0, hi0, hz0, hz1, hz2⟩ := info_parts infoNode
  have hlen : n ≤ 1000 := by rw [← hn]; exact okTree_len hok
  have HN := Lib.hid hn
  have HR := Lib.hid hR
  have HF := Lib.hid (fits1_tree hok)
  have HOK := Lib.hid hok
  have HPN := Lib.hid hpn
  have hE : path.toList = [] ↔ str path = [] := by rw [toList_str]
  clear hn hR hok hpn
  by_cases h0 : str path = []
  · have g1 := hE.2 h0
    have g1' : path.toList.isEmpty = true := by simp [g1]
    have E := Lib.hid (show atR t (str path) = [rootN] ++ t by unfold atR; rw [if_pos HOK.out, if_pos h0]; rfl)
    clear hE h0 hP
    go_enter Tryz.func66, Tryz.ntmps66
    go_wp2_with fail
    refine (rcheck_v p t n c _ HR.out HN.out (by omega) HF.out 0 (chkV_ok HOK.out)).mono ?_
    rintro e w1 ⟨rfl, ho⟩
    have hown1 := own_one (W := w1) rootN ho.size
    have hRa := HR.out.off (ho.alloc (.cells #[.string rootN.path, .int .i64 rootN.kind, .string rootN.data, .int .i64 rootN.mode] 40))
    have HRC := Lib.hid (fun (ad : Addr) (hp : p = some ad) (j : Nat) (u : Value) (hj : (cellsOf t)[j]? = some u) => (hp ▸ hRa : Row _ (some ad) t).cells hj)
    have HCL := Lib.hid (show (cellsOf t).length = n * 4 by rw [cellsOf_len, HN.out])
    have HC1 := Lib.hid (cellsOf_one (t := t))
    clear hRa
    go_wp2_with (at_builtin; refine wpList_append_src _ rfl _ _ 22 rfl w.heap.size 40 i0 node0.val 4 48 Tryz.underlying22 hi0 hz0 hz1 hz2 rfl (by decide) _ _ _ rfl hown1 p n c (cellsOf t) rfl HCL.out HRC.out (fun h => by have := HPN.out h; have := HN.out; simp_all) HC1.out (by unfold maxLen; omega) (by omega) (by have := ho.size; simp; omega) ?_; intro v' W6 hown' hgrow)
    go_ret
    refine ⟨v', rfl, ?_, own_grown (ho.alloc _) hown1 hgrow⟩
    rw [E.out, List.length_append, cellsOf_append, HN.out]
    exact hown'
  · have hp : okPath (str path) = true := hP.resolve_left h0
    have g1 : ¬ path.toList = [] := fun e => h0 (hE.1 e)
    have g1' : path.toList.isEmpty = false := by simpa using g1
    have hps : path.size ≤ 400 := by rw [← str_size]; exact okPath_size hp
    have E := Lib.hid (atR_path HOK.out hp)
    have HP := Lib.hid hp
    clear hE h0 hP hp
    go_enter Tryz.func66, Tryz.ntmps66
    go_wp2_with fail
    refine (rcheck_v p t n c _ HR.out HN.out (by omega) HF.out 0 (chkV_ok HOK.out)).mono ?_
    rintro e w1 ⟨rfl, ho1⟩
    go_wp2_with fail
    go_loopw [6, 5] (fun x z wr => ∃ i : Nat, x = .int .i64 i ∧ i ≤ n ∧ wr.ownsRow w.heap.size 40 4 z ((inAt (t.take i) (str path)).map (trimN (str path))).length (cellsOf ((inAt (t.take i) (str path)).map (trimN (str path)))) ∧ Off [] w wr) (fun x _ _ => n - (intOf x).toNat)
    case atStart => exact ⟨0, rfl, by omega, ⟨rfl, .inl ⟨rfl, rfl⟩⟩, ho1⟩
    case round =>
      clear ho1
      obtain ⟨i, rfl, hi, hown, hof⟩ := hrel
      by_cases hlt : i < n
      · have hil : i < t.length := by rw [HN.out]; exact hlt
        obtain ⟨a, rfl, hna, hab⟩ := HR.out.get i hil
        have hx := List.getElem?_eq_getElem hil
        have hxs := (HF.out _ (List.getElem_mem hil)).1
        have hxk : okPath t[i].p = true := okTree_path HOK.out (List.getElem_mem hil)
        have hml : ((inAt (t.take i) (str path)).map (trimN (str path))).length ≤ 1000 := by
          rw [List.length_map]
          have := filter_len (t.take i) (fun n => within n.p (str path))
          rw [List.length_take] at this
          unfold inAt
          omega
        have HTK := Lib.hid (inAt_take (q := str path) hx)
        generalize t[i] = x at *
        have HRX := Lib.hid (fun (W : World) (ho : Off [] w W) => hna.off ho (by rw [add_block]; exact hab))
        have HX := Lib.hid hx
        have HOWN := Lib.hid hown
        clear hna hx hown
        generalize hX : (inAt (t.take i) (str path)).map (trimN (str path)) = X at *
        have HXE := Lib.hid hX
        clear hX
        by_cases he : x.path = path
        · have hpe : (x.path.toList == path.toList) = true := by rw [he]; simp
          have HNW := Lib.hid (show (inAt (t.take (i + 1)) (str path)).map (trimN (str path)) = X ++ [⟨⟨#[]⟩, x.kind, x.data, x.mode⟩] by
            rw [HTK.out, if_pos (show within x.p (str path) = true by unfold Node.p; rw [he]; exact within_self HP.out), List.map_append, HXE.out]
            congr 1
            show [trimN (str path) x] = _
            unfold trimN Node.p
            rw [he, List.drop_eq_nil_of_le (by omega)]; rfl)
          clear he hxk HTK
          have c0 := (HRX.out _ hof).path
          have c1 := (HRX.out _ hof).kind
          have c2 := (HRX.out _ hof).data
          have c3 := (HRX.out _ hof).mode
          have hownA := (HOWN.out.alloc (.cells #[.string ⟨#[]⟩, .int .i64 x.kind, .string x.data, .int .i64 x.mode] 40)).alloc (.cells #[.string ⟨#[]⟩, .int .i64 x.kind, .string x.data, .int .i64 x.mode] 40)
          go_wp2_with (at_builtin; refine wpList_append_own _ rfl _ _ 22 rfl w.heap.size 40 i0 node0.val 4 48 Tryz.underlying22 hi0 hz0 hz1 hz2 rfl (by decide) _ _ _ rfl hownA ⟨wr.heap.size + 1, 0, none⟩ 1 1 [_, _, _, _] rfl rfl (four_at (Blk.new1 wr _ _ _)) (by simp [Value.oneCell']) (by unfold maxLen; omega) (by omega) (by have := hof.size; simp; omega) ?_; intro v' W6 hown' hgrow _)
          refine ⟨⟨i + 1, by congr 1, by omega, ?_, own_grown ((hof.alloc _).alloc _) hownA hgrow⟩, by simp only [intOf]; omega⟩
          rw [HNW.out, List.length_append, cellsOf_append]
          exact hown'
        · have hpe : (x.path.toList == path.toList) = false := by rw [beq_bs]; simp [he]
          have hne : ¬ x.p = str path := fun e => he (str_inj e)
          cases hw : within x.p (str path)
          · have HNW := Lib.hid (show (inAt (t.take (i + 1)) (str path)).map (trimN (str path)) = X by
              rw [HTK.out, hw, if_neg (by simp), List.append_nil, HXE.out])
            have HWI := Lib.hid (show within (str x.path) (str path) = false from hw)
            clear he hne hxk HTK hw
            have c0 := (HRX.out _ hof).path
            go_wp2_with fail
            refine (rwithin_w x.path path _ (by omega) (by omega) false HWI.out).mono ?_
            rintro e w7 ⟨rfl, ho7⟩
            clear c0
            go_wp2_with fail
            refine ⟨⟨i + 1, by congr 1, by omega, ?_, hof.trans_nil ho7⟩, by simp only [intOf]; omega⟩
            rw [HNW.out]
            exact ownsRow_off HOWN.out ho7
          · have HNW := Lib.hid (show (inAt (t.take (i + 1)) (str path)).map (trimN (str path)) = X ++ [trimN (str path) x] by
              rw [HTK.out, hw, if_pos rfl, List.map_append, HXE.out]; rfl)
            have HWI := Lib.hid (show within (str x.path) (str path) = true from hw)
            obtain ⟨s, hs⟩ := ((within_iff hxk HP.out).1 hw).resolve_left hne
            have hsz : path.size + 1 ≤ x.path.size := by
              have := congrArg List.length hs
              unfold Node.p at this
              rw [str_size, List.length_append, List.length_cons, str_size] at this
              omega
            have hex : x.path.extract (path.size + 1) x.path.size = (trimN (str path) x).path := by
              unfold trimN Node.p
              rw [extract_bs, str_size, List.take_of_length_le (by rw [List.length_drop, str_size]; omega)]
            have HEX := Lib.hid hex
            clear he hne hxk HTK hw hs hex
            have c0 := (HRX.out _ hof).path
            go_wp2_with fail
            refine (rwithin_w x.path path _ (by omega) (by omega) true HWI.out).mono ?_
            rintro e w7 ⟨rfl, ho7⟩
            have hof7 := hof.trans_nil ho7
            have HOW7 := Lib.hid (ownsRow_off HOWN.out ho7)
            clear c0 hof ho7
            have c0 := (HRX.out _ hof7).path
            have c1 := (HRX.out _ hof7).kind
            have c2 := (HRX.out _ hof7).data
            have c3 := (HRX.out _ hof7).mode
            have cA : (w7.alloc (.cells #[.string x.path, .int .i64 x.kind, .string x.data, .int .i64 x.mode] 40)).cell? (a.add (i * 4)) = some (.string x.path) := Lib.cell?_alloc_some _ c0
            obtain ⟨tp, htp⟩ : ∃ tp, (trimN (str path) x).path = tp := ⟨_, rfl⟩
            rw [htp] at HEX
            have HTP := Lib.hid htp
            have hex := HEX.out
            have d3 : (0 : Int) ≤ ↑path.size + 1 := by omega
            have d4 : (↑path.size + 1 : Int) ≤ ↑x.path.size := by omega
            have hownA := (HOW7.out.alloc (.cells #[.string tp, .int .i64 x.kind, .string x.data, .int .i64 x.mode] 40)).alloc (.cells #[.string tp, .int .i64 x.kind, .string x.data, .int .i64 x.mode] 40)
            clear htp
            go_wp2_with (at_builtin; refine wpList_append_own _ rfl _ _ 22 rfl w.heap.size 40 i0 node0.val 4 48 Tryz.underlying22 hi0 hz0 hz1 hz2 rfl (by decide) _ _ _ rfl hownA ⟨w7.heap.size + 1, 0, none⟩ 1 1 [_, _, _, _] rfl rfl (four_at (Blk.new1 w7 _ _ _)) (by simp [Value.oneCell']) (by unfold maxLen; omega) (by omega) (by have := hof7.size; simp; omega) ?_; intro v' W6 hown' hgrow _)
            refine ⟨⟨i + 1, by congr 1, by omega, ?_, own_grown ((hof7.alloc _).alloc _) hownA hgrow⟩, by simp only [intOf]; omega⟩
            rw [HNW.out, List.length_append, cellsOf_append]
            have e9 : cellsOf [trimN (str path) x] = [.string tp, .int .i64 x.kind, .string x.data, .int .i64 x.mode] := by rw [← HTP.out]; rfl
            rw [e9]
            exact hown'
      · obtain rfl : i = n := by omega
        have e0 : t.take i = t := List.take_of_length_le (by rw [HN.out]; exact Nat.le_refl _)
        rw [e0, ← E.out] at hown
        go_wp2_with fail
        go_ret
        exact ⟨_, rfl, hown, hof⟩
/-- each is less than those behind it -/
def Rise (l : List ByteArray) : Prop := l.Pairwise fun a b => Lib.compareBytes (str a) (str b) < 0
theorem rise_ext : ∀ {l m : List ByteArray}, Rise l → Rise m → (∀ x, x ∈ l ↔ x ∈ m) → l = m
  | [], [], _, _, _ => rfl
  | [], y :: m, _, _, h => absurd ((h y).2 (by simp)) (by simp)
  | x :: l, [], _, _, h => absurd ((h x).1 (by simp)) (by simp)
  | x :: l, y :: m, hl, hm, h => by
    have hl' := List.pairwise_cons.1 hl
    have hm' := List.pairwise_cons.1 hm
    have irr : ∀ a : ByteArray, ¬ Lib.compareBytes (str a) (str a) < 0 := fun a => by rw [cmpB_self]; omega
    have e : x = y := by
      rcases List.mem_cons.1 ((h x).1 (by simp)) with e | h1
      · exact e
      · rcases List.mem_cons.1 ((h y).2 (by simp)) with e | h2
        · exact e.symm
        · exact absurd (cmpB_trans (hl'.1 y h2) (hm'.1 x h1)) (irr x)
    subst e
    congr 1
    refine rise_ext hl'.2 hm'.2 fun z => ?_
    constructor
    · intro hz
      rcases List.mem_cons.1 ((h z).1 (List.mem_cons_of_mem _ hz)) with e | h1
      · subst e; exact absurd (hl'.1 z hz) (irr z)
      · exact h1
    · intro hz
      rcases List.mem_cons.1 ((h z).2 (List.mem_cons_of_mem _ hz)) with e | h1
      · subst e; exact absurd (hm'.1 z hz) (irr z)
      · exact h1
theorem bytesLess_eq' : ∀ (x y : Str), bytesLess x y = decide (x < y)
  | [], [] => by simp [bytesLess]
  | _ :: _, [] => by simp [bytesLess]
  | [], _ :: _ => by simp [bytesLess]
  | a :: x, b :: y => by
    rw [bytesLess, bytesLess_eq' x y]
    simp only [List.cons_lt_cons_iff]
    by_cases h1 : a < b <;> by_cases h2 : a = b <;> by_cases h3 : x < y <;> simp [h1, h2, h3]
theorem compact_sub (zs : List Str) : (Lib.compact zs).Sublist zs := by
  unfold Lib.compact Lib.compactUpTo
  have h : ((List.range zs.length).filter (Lib.keeps zs.toArray)).map (fun i => zs.toArray[i]!) |>.Sublist ((List.range zs.length).map fun i => zs.toArray[i]!) := (List.filter_sublist).map _
  refine h.trans ?_
  have e : (List.range zs.length).map (fun i => zs.toArray[i]!) = zs := by
    apply List.ext_getElem
    · simp
    · intro i h1 h2
      rw [List.getElem_map, List.getElem_range, getElem!_pos zs.toArray i (by simpa using h2)]
      simp
  rw [e]
  exact List.Sublist.refl _
theorem str_lt {a b : Str} : a < b ↔ Lib.compareBytes a b < 0 := by
  have h := less_cmp a b
  rw [bytesLess_eq'] at h
  constructor
  · intro hlt
    rw [decide_eq_true hlt] at h
    exact of_decide_eq_true h.symm
  · intro hc
    rw [decide_eq_true hc] at h
    exact of_decide_eq_true h
theorem names_rises (w : Vw) : Rise (namesV w) := by
  have hs : (namesV w).Pairwise fun a b => str a ≤ str b := by
    unfold namesV compS sortS
    rw [List.map_map]
    have hm : ∀ l : List Str, l.map (str ∘ bs) = l := fun l => by
      rw [show (str ∘ bs : Str → Str) = id from by funext x; exact str_bs x, List.map_id]
    rw [hm, List.pairwise_map]
    have : (Lib.compact ((((inV w.o ++ (inV w.a ++ inV w.b)).map str).mergeSort fun x y => decide (x ≤ y)))).Pairwise fun a b => a ≤ b := by
      refine List.Pairwise.sublist (compact_sub _) ?_
      refine (List.pairwise_mergeSort (fun a b c h1 h2 => ?_) (fun a b => ?_) _).imp fun {a b} h => by simpa using h
      · rw [decide_eq_true_eq] at *; exact List.le_trans h1 h2
      · rw [Bool.or_eq_true, decide_eq_true_eq, decide_eq_true_eq]; exact List.le_total a b
    exact this.imp fun {a b} h => by rw [str_bs, str_bs]; exact h
  have hn : (namesV w).Pairwise fun a b => a ≠ b := names_nodup w
  unfold Rise
  refine List.Pairwise.imp₂ (fun a b h1 h2 => ?_) hs hn
  rw [← str_lt]
  rcases List.le_iff_lt_or_eq.1 h1 with h | h
  · exact h
  · exact absurd (str_inj h) h2
theorem names_same {w : Vw} {L : List ByteArray} (h : Rise L) (hm : ∀ x, x ∈ L ↔ x ∈ inV w.o ∨ x ∈ inV w.a ∨ x ∈ inV w.b) : L = namesV w := by
  refine rise_ext h (names_rises w) fun x => ?_
  rw [hm]
  refine ⟨names_all, fun hx => ?_⟩
  have h1 := sortS_mem (compS_mem hx)
  rcases List.mem_append.1 h1 with h2 | h2
  · exact .inl h2
  · exact .inr (List.mem_append.1 h2)
/-- a new one at its place -/
theorem rise_put {l : List ByteArray} {x : ByteArray} {k : Nat} (h : Rise l) (hk : k ≤ l.length) (h1 : ∀ (j : Nat) (y : ByteArray), j < k → l[j]? = some y → Lib.compareBytes (str y) (str x) < 0) (h2 : ∀ y, l[k]? = some y → Lib.compareBytes (str x) (str y) < 0) : Rise (l.take k ++ x :: l.drop k) := by
  unfold Rise at *
  rw [List.pairwise_append, List.pairwise_cons]
  have hlo : ∀ a ∈ l.take k, Lib.compareBytes (str a) (str x) < 0 := fun a ha => by
    obtain ⟨j, hj, rfl⟩ := List.getElem_of_mem ha
    rw [List.getElem_take]
    rw [List.length_take] at hj
    exact h1 j _ (by omega) (List.getElem?_eq_getElem (by omega))
  have hhi : ∀ b ∈ l.drop k, Lib.compareBytes (str x) (str b) < 0 := fun b hb => by
    obtain ⟨j, hj, rfl⟩ := List.getElem_of_mem hb
    rw [List.length_drop] at hj
    rw [List.getElem_drop]
    have hk' : k < l.length := by omega
    have h3 := h2 _ (List.getElem?_eq_getElem hk')
    rcases Nat.eq_zero_or_pos j with h0 | h0
    · subst h0; simpa using h3
    · exact cmpB_trans h3 (List.pairwise_iff_getElem.1 h k (k + j) hk' (by omega) (by omega))
  refine ⟨h.sublist (List.take_sublist _ _), ⟨hhi, h.sublist (List.drop_sublist _ _)⟩, fun a ha b hb => ?_⟩
  rcases List.mem_cons.1 hb with e | hb
  · subst e; exact hlo a ha
  · exact cmpB_trans (hlo a ha) (hhi b hb)
def laidN (P : ByteArray) (n : Node) : Node := { n with path := if str n.path = [] then P else belowP P n.path }
def keepPN (n : Node) : Bool := decide (¬ str n.path = [])
def laidR (P : ByteArray) (v : List Node) : List Node := (v.map (laidN P)).filter keepPN
theorem laidR_take {P : ByteArray} {v : List Node} {i : Nat} {x : Node} (h : v[i]? = some x) : laidR P (v.take (i + 1)) = laidR P (v.take i) ++ if str (laidN P x).path = [] then [] else [laidN P x] := by
  unfold laidR
  rw [take_get h, List.map_append, List.filter_append, List.map_cons, List.map_nil, List.filter_cons]
  congr 1
  by_cases h0 : str (laidN P x).path = []
  · rw [if_pos h0, if_neg (by unfold keepPN; rw [decide_eq_true_eq]; exact not_not_intro h0)]; rfl
  · rw [if_neg h0, if_pos (by unfold keepPN; rw [decide_eq_true_eq]; exact h0)]; rfl
theorem laidR_len (P : ByteArray) (v : List Node) : (laidR P v).length ≤ v.length := by
  unfold laidR
  exact Nat.le_trans (List.length_filter_le _ _) (by rw [List.length_map]; exact Nat.le_refl _)
theorem laidV_cons (P : ByteArray) (x : Node) (r : List Node) : laidV P (x :: r) = { x with path := P } :: r.map fun n => { n with path := belowP P n.path } := by
  unfold laidV genAll
  rw [List.mapIdx_cons]
  congr 1
  apply List.ext_getElem?
  intro i
  rw [List.getElem?_mapIdx, List.getElem?_map]
  cases r[i]? <;> rfl
theorem laid_more {P : ByteArray} {r : List Node} (h : ∀ n ∈ r, str n.path ≠ []) : laidR P r = r.map fun n => { n with path := belowP P n.path } := by
  unfold laidR
  rw [List.filter_eq_self.2]
  · refine List.map_congr_left fun n hn => ?_
    unfold laidN
    rw [if_neg (h n hn)]
  · intro m hm
    obtain ⟨n, hn, rfl⟩ := List.mem_map.1 hm
    unfold keepPN laidN
    rw [decide_eq_true_eq]
    show ¬ str (if str n.path = [] then P else belowP P n.path) = []
    rw [if_neg (h n hn)]
    exact belowP_ne (h n hn)
theorem laidR_at {t : List Node} {P : ByteArray} (ht : okTree t = true) (hp : okPath (str P) = true) : laidR P (atR t (str P)) = laidV P (atR t (str P)) := by
  rw [atR_path ht hp]
  rcases inAt_shape ht hp with h | ⟨f, G, h, hf, -, hG⟩
  · rw [h]; rfl
  · have hmore : ∀ n ∈ G.map (trimN (str P)), str n.path ≠ [] := fun n hn => by
      obtain ⟨g, hg, rfl⟩ := List.mem_map.1 hn
      obtain ⟨s, hs⟩ := hG g hg
      have hgt : g ∈ t := (mem_inAt.1 (by rw [h]; exact List.mem_cons_of_mem _ hg)).1
      have hgk := okTree_path ht hgt
      rw [hs] at hgk
      have h9 := okPath_ne (okPath_tail hgk)
      have h8 := trim_p hs
      unfold Node.p at h8
      rw [h8]; exact h9
    rw [h, List.map_cons, laidV_cons, ← laid_more hmore]
    unfold laidR
    rw [List.map_cons, List.filter_cons, if_pos]
    · congr 1
      unfold laidN
      have h8 := trim_p0 hf
      unfold Node.p at h8
      rw [if_pos h8]
    · unfold keepPN laidN
      rw [decide_eq_true_eq]
      have h8 := trim_p0 hf
      unfold Node.p at h8
      rw [if_pos h8]
      exact okPath_ne hp
theorem laidR_root {t : List Node} {P : ByteArray} (ht : okTree t = true) (hp : str P = []) : laidR P (rootN :: t) = (laidV P (rootN :: t)).tail := by
  rw [laidV_cons, List.tail_cons, ← laid_more (fun n hn => okPath_ne (okTree_path ht hn))]
  unfold laidR
  rw [List.map_cons, List.filter_cons, if_neg]
  unfold keepPN laidN
  rw [decide_eq_true_eq, if_pos (show str rootN.path = [] from rfl)]
  exact not_not_intro hp
theorem laid_any {t : List Node} {P : ByteArray} (ht : okTree t = true) (hP : okP P) : laidR P (atR t (str P)) = if str P = [] then (laidV P (atR t (str P))).tail else laidV P (atR t (str P)) := by
  by_cases h0 : str P = []
  · rw [if_pos h0]
    have e : atR t (str P) = rootN :: t := by unfold atR; rw [if_pos ht, if_pos h0]
    rw [e]; exact laidR_root ht h0
  · rw [if_neg h0]; exact laidR_at ht (hP.resolve_left h0)

/-! ### what is agreed on from a path on -/
def agreeW (f : Nat) (o a b : List Node) (P : ByteArray) : List Node := if str P = [] then (agreedV f (vwAt o a b P)).tail else agreedV f (vwAt o a b P)
section
variable {o a b : List Node} {P : ByteArray} {f : Nat}
theorem agree_same (h : Trees o a b) (hP : okP P) (e : atR a (str P) = atR b (str P)) : agreeW (f + 1) o a b P = laidR P (atR a (str P)) := by
  have hv : agreedV (f + 1) (vwAt o a b P) = laidV P (atR a (str P)) := by
    show (if atR a (str P) = atR b (str P) then _ else _) = _
    rw [if_pos e]; rfl
  rw [laid_any h.a hP]
  unfold agreeW
  rw [hv]
theorem agree_else (h : Trees o a b) (hP : okP P) (e : ¬ atR a (str P) = atR b (str P)) (hd : (dirV (atR a (str P)) && dirV (atR b (str P))) = false) : agreeW (f + 1) o a b P = laidR P (atR o (str P)) := by
  have hv : agreedV (f + 1) (vwAt o a b P) = laidV P (atR o (str P)) := by
    show (if atR a (str P) = atR b (str P) then _ else if (dirV (atR a (str P)) && dirV (atR b (str P))) = true then _ else _) = _
    rw [if_neg e, hd, if_neg (by simp)]; rfl
  rw [laid_any h.o hP]
  unfold agreeW
  rw [hv]
theorem agree_dirs (h : Trees o a b) (hP : okP P) (e : ¬ atR a (str P) = atR b (str P)) (hd : (dirV (atR a (str P)) && dirV (atR b (str P))) = true) :
    agreeW (f + 1) o a b P = (if str P = [] then [] else [⟨P, 2, ⟨#[]⟩, 0⟩]) ++ (namesV (vwAt o a b P)).flatMap fun x => agreeW f o a b (belowP P x) := by
  have hv : agreedV (f + 1) (vwAt o a b P) = ⟨P, 2, ⟨#[]⟩, 0⟩ :: (belowV (vwAt o a b P)).flatMap (agreedV f) := by
    show (if atR a (str P) = atR b (str P) then _ else if (dirV (atR a (str P)) && dirV (atR b (str P))) = true then _ else _) = _
    rw [if_neg e, hd, if_pos rfl]; rfl
  have hn : ((namesV (vwAt o a b P)).flatMap fun x => agreeW f o a b (belowP P x)) = (belowV (vwAt o a b P)).flatMap (agreedV f) := by
    rw [vw_below h hP, List.flatMap_map, List.flatMap_def, List.flatMap_def]
    congr 1
    refine List.map_congr_left fun x hx => ?_
    unfold agreeW
    rw [if_neg (belowP_ne (okName_ne (namesV_mem hx)))]
  rw [hn]
  unfold agreeW
  rw [hv]
  split <;> rfl
theorem look_dirs (h : Trees o a b) (hP : okP P) (e : ¬ atR a (str P) = atR b (str P)) (hd : (dirV (atR a (str P)) && dirV (atR b (str P))) = true) :
    itemsV (f + 1) (vwAt o a b P) = (namesV (vwAt o a b P)).flatMap fun x => itemsV f (vwAt o a b (belowP P x)) := by
  have hv : itemsV (f + 1) (vwAt o a b P) = (belowV (vwAt o a b P)).flatMap (itemsV f) := by
    show (if atR a (str P) = atR b (str P) then _ else if (dirV (atR a (str P)) && dirV (atR b (str P))) = true then _ else _) = _
    rw [if_neg e, hd, if_pos rfl]
  rw [hv, vw_below h hP, List.flatMap_map]
theorem look_same (e : atR a (str P) = atR b (str P)) : itemsV (f + 1) (vwAt o a b P) = if atR o (str P) = atR a (str P) then [] else [⟨P, 1⟩] := by
  show (if atR a (str P) = atR b (str P) then _ else _) = _
  rw [if_pos e]; rfl
theorem look_else (e : ¬ atR a (str P) = atR b (str P)) (hd : (dirV (atR a (str P)) && dirV (atR b (str P))) = false) : itemsV (f + 1) (vwAt o a b P) = if atR o (str P) = atR b (str P) then [⟨P, 2⟩] else if atR o (str P) = atR a (str P) then [⟨P, 3⟩] else [⟨P, 4⟩] := by
  show (if atR a (str P) = atR b (str P) then _ else if (dirV (atR a (str P)) && dirV (atR b (str P))) = true then _ else _) = _
  rw [if_neg e, hd, if_neg (by simp)]; rfl
/-- a name's value is smaller -/
theorem below_less (h : Trees o a b) (hP : okP P) (ha : dirV (atR a (str P)) = true) {x : ByteArray} (hx : x ∈ namesV (vwAt o a b P)) : (atR a (str (belowP P x))).length < (atR a (str P)).length := by
  have h1 := part_at h.a hP (vw_name h hP hx)
  have h2 := partV_short (v := atR a (str P)) (x := x) (okName_ne (namesV_mem hx))
  rw [h1] at h2
  have h3 : 0 < (atR a (str P)).length := by
    cases hv : atR a (str P) with
    | nil => rw [hv] at ha; cases ha
    | cons y r => simp
  omega
theorem below_okP (h : Trees o a b) (hP : okP P) {x : ByteArray} (hx : x ∈ namesV (vwAt o a b P)) : okP (belowP P x) := .inr (vw_name h hP hx)
end
set_option maxRecDepth 100000 in
theorem value12_any (p : Option Addr) (t : List Node) (n c : Nat) (path : ByteArray) (w : World) (hR : Row w p t) (hn : t.length = n) (hpn : p = none → t = [] ∧ c = 0) (hok : okTree t = true) (hP : okP path) :
    Calls Tryz.prog 38 #[.slice p n c, .string path] w (OwnT (atR t (str path)) w) := by
  have H := Lib.hid (rat_any p t n c path w hR hn hpn hok hP)
  clear hR hn hpn hok hP
  go_enter Tryz.func38, Tryz.ntmps38
  go_wp2_with fail
  refine H.out.mono ?_
  rintro e w1 ⟨x, rfl, hown, ho⟩
  go_wp2_with fail
  go_ret
  exact ⟨_, rfl, hown, ho⟩
set_option maxRecDepth 100000 in
theorem dir12_any (p : Option Addr) (v : List Node) (n c : Nat) (w : World) (hR : Row w p v) (hn : v.length = n) (b : Bool) (hb : dirV v = b) :
    Calls Tryz.prog 39 #[.slice p n c] w fun e w' => e = .returned (.bool b) ∧ Off [] w w' := by
  subst hb
  cases v with
  | nil =>
    obtain rfl : 0 = n := hn
    clear hR
    go_enter Tryz.func39, Tryz.ntmps39
    go_wp2_with fail
    go_ret
    exact ⟨rfl, Off.refl _ _⟩
  | cons x r =>
    have hpos : 0 < n := by rw [← hn]; simp
    obtain ⟨a, rfl, hna, hab⟩ := hR.head
    have c1 := hna.kind
    clear hna hR hn
    by_cases hk : x.kind = 2
    · have HK := Lib.hid (show dirV (x :: r) = true from decide_eq_true hk)
      rw [hk] at c1
      clear hk
      go_enter Tryz.func39, Tryz.ntmps39
      go_wp2_with fail
      go_ret
      exact ⟨by rw [HK.out]; rfl, Off.refl _ _⟩
    · have HK := Lib.hid (show dirV (x :: r) = false from decide_eq_false hk)
      have hkb : (x.kind == 2) = false := beq_eq_false_iff_ne.2 hk
      go_enter Tryz.func39, Tryz.ntmps39
      go_wp2_with fail
      go_ret
      exact ⟨by rw [HK.out]; rfl, Off.refl _ _⟩
set_option maxRecDepth 100000 in
theorem below12_any (P x : ByteArray) (w : World) (hs : P.size + 1 + x.size ≤ 1048576) :
    Calls Tryz.prog 42 #[.string P, .string x] w fun e w' => e = .returned (.string (belowP P x)) ∧ Off [] w w' := by
  have hE : P.toList = [] ↔ str P = [] := by rw [toList_str]
  by_cases h0 : str P = []
  · have g1 := hE.2 h0
    have g1' : P.toList.isEmpty = true := by simp [g1]
    have E := Lib.hid (belowP_root (x := x) h0)
    clear hE h0
    go_enter Tryz.func42, Tryz.ntmps42
    go_wp2_with fail
    go_ret
    exact ⟨by rw [E.out]; rfl, Off.refl _ _⟩
  · have g1 : ¬ P.toList = [] := fun e => h0 (hE.1 e)
    have g1' : P.toList.isEmpty = false := by simpa using g1
    have E := Lib.hid (show belowP P x = P ++ (⟨#[47]⟩ : ByteArray) ++ x by unfold belowP; rw [if_neg h0])
    have a1 : ∀ wx : World, (Op.stringOp .add P ⟨#[47]⟩).run Tryz.prog wx = .ok (.string (P ++ (⟨#[47]⟩ : ByteArray))) wx := fun wx => run_string_add_sum wx _ _ (by show P.size + 1 ≤ _; omega)
    have a2 : ∀ wx : World, (Op.stringOp .add (P ++ (⟨#[47]⟩ : ByteArray)) x).run Tryz.prog wx = .ok (.string (P ++ (⟨#[47]⟩ : ByteArray) ++ x)) wx := fun wx => run_string_add_sum wx _ _ (by rw [ByteArray.size_append]; show P.size + 1 + x.size ≤ _; omega)
    clear hE h0
    go_enter Tryz.func42, Tryz.ntmps42
    go_wp2_with fail
    go_ret
    exact ⟨by rw [E.out]; rfl, Off.refl _ _⟩

/-! ### names -/
/-- a list of strings as an argument -/
structure StrA (w : World) (p : Option Addr) (n c : Nat) (L : List ByteArray) : Prop where
  strs : Strs w p L
  len : L.length = n
  nn : p = none → n = 0 ∧ c = 0
theorem StrA.off {w w' : World} {p : Option Addr} {n c : Nat} {L : List ByteArray} (h : StrA w p n c L) (ho : Off [] w w') : StrA w' p n c L := ⟨h.strs.off ho, h.len, h.nn⟩
theorem StrA.own {W : World} {base : Nat} {v : Value} {L : List ByteArray} (h : W.ownsRow base 9 1 v L.length (L.map Value.string)) : ∃ p c, v = .slice p L.length c ∧ StrA W p L.length c L := by
  obtain ⟨p, c, rfl, hs⟩ := own_strs h
  refine ⟨p, c, rfl, hs, rfl, fun hp => ?_⟩
  subst hp
  rcases h.2 with ⟨h0, h1⟩ | ⟨g, cap, cur, h0, _⟩
  · injection h0 with _ _ h3
    exact ⟨h1, h3⟩
  · cases h0
theorem StrA.cell {w : World} {p : Option Addr} {n c : Nat} {L : List ByteArray} (h : StrA w p n c L) (ad : Addr) (hp : p = some ad) (j : Nat) (u : Value) (hj : (L.map Value.string)[j]? = some u) : w.cell? (ad.add j) = some u := strs_cell (hp ▸ h.strs) hj
theorem own_zeroS (W : World) {base : Nat} (hb : base ≤ W.heap.size) : (W.alloc (.cells #[] 9)).ownsRow base 9 1 (.slice (some ⟨W.heap.size, 0, none⟩) 0 0) 0 [] :=
  ⟨rfl, .inr ⟨_, 0, _, rfl, hb, heap_alloc_new W _, Nat.le_refl _, by decide, rfl, rfl⟩⟩
theorem own_set1 {W : World} {base e g m cap : Nat} {xs : List Value} (h : W.ownsRow base e 1 (.slice (some ⟨g, 0, none⟩) m cap) m xs) (j : Nat) (u : Value) : (W.setCell ⟨g, j, none⟩ u).ownsRow base e 1 (.slice (some ⟨g, 0, none⟩) m cap) m (xs.set j u) := by
  refine ⟨by rw [List.length_set]; exact h.1, ?_⟩
  rcases h.2 with ⟨h0, _⟩ | ⟨g', cap', cur, hv, hb, hh, hc, hmx, hs, ht⟩
  · cases h0
  · injection hv with h1 h2 h3
    injection h1 with h1
    injection h1 with h1 _
    subst h1; subst h3
    refine .inr ⟨g, cap, cur.setIfInBounds j u, rfl, hb, ?_, hc, hmx, by rw [Array.size_setIfInBounds]; exact hs, ?_⟩
    · exact Blk.set_ (w := W) (g := g) (t := e) (cs := cur) hh j u
    · rw [Array.toList_setIfInBounds, List.take_set, ht]
theorem own_frozen1 {W : World} {base e g m cap : Nat} {xs : List Value} (h : W.ownsRow base e 1 (.slice (some ⟨g, 0, none⟩) m cap) m xs) (j : Nat) : W.frozen? ⟨g, j, none⟩ = false := by
  rcases h.2 with ⟨h0, _⟩ | ⟨g', cap', cur, hv, hb, hh, _⟩
  · cases h0
  · injection hv with h1 h2 h3
    injection h1 with h1
    injection h1 with h1 _
    subst h1
    exact Blk.frozen (w := W) (t := e) (cs := cur) hh j
theorem set_here {α : Type} {L : List α} {k : Nat} {u v : α} (hk : k ≤ L.length) : (L.take k ++ u :: L.drop k).set k v = L.take k ++ v :: L.drop k := by
  rw [List.set_append_right _ _ (by rw [List.length_take]; omega), List.length_take, Nat.min_eq_left hk, Nat.sub_self]; rfl
theorem slide {α : Type} {L : List α} {k : Nat} {x : α} (hx : L[k]? = some x) : L.take (k + 1) ++ x :: L.drop (k + 1) = L.take k ++ x :: L.drop k := by
  have hk := (List.getElem?_eq_some_iff.1 hx)
  obtain ⟨h1, h2⟩ := hk
  rw [List.take_succ_eq_append_getElem h1, h2, List.append_assoc, List.drop_eq_getElem_cons h1, h2]; rfl
theorem mem_put {α : Type} {L : List α} {k : Nat} {x y : α} : y ∈ L.take k ++ x :: L.drop k ↔ y = x ∨ y ∈ L := by
  conv => rhs; rw [← List.take_append_drop k L]
  simp only [List.mem_append, List.mem_cons]
  constructor
  · rintro (h | h | h)
    · exact .inr (.inl h)
    · exact .inl h
    · exact .inr (.inr h)
  · rintro (h | h | h)
    · exact .inr (.inl h)
    · exact .inl h
    · exact .inr (.inr h)
theorem put_len {α : Type} {L : List α} {k : Nat} {x : α} : (L.take k ++ x :: L.drop k).length = L.length + 1 := by
  rw [List.length_append, List.length_cons, List.length_take, List.length_drop]; omega
theorem put_end {α : Type} {L : List α} {x : α} : L.take L.length ++ x :: L.drop L.length = L ++ [x] := by rw [List.take_length, List.drop_length]
/-- how far names has come -/
structure NmTo (all : List ByteArray) (i : Nat) (L : List ByteArray) : Prop where
  rise : Rise L
  mem : ∀ x, x ∈ L ↔ x ∈ all.take i
  len : L.length ≤ i
theorem NmTo.start (all : List ByteArray) : NmTo all 0 [] := ⟨List.Pairwise.nil, by simp, Nat.le_refl _⟩
theorem NmTo.skip {all L : List ByteArray} {i k : Nat} {x : ByteArray} (h : NmTo all i L) (hx : all[i]? = some x) (hk : L[k]? = some x) : NmTo all (i + 1) L := by
  refine ⟨h.rise, fun y => ?_, by have := h.len; omega⟩
  rw [take_get hx, List.mem_append, List.mem_singleton, h.mem]
  refine ⟨.inl, fun hy => ?_⟩
  rcases hy with hy | rfl
  · exact hy
  · exact (h.mem _).1 (List.mem_of_getElem? hk)
theorem NmTo.put {all L : List ByteArray} {i k : Nat} {x : ByteArray} (h : NmTo all i L) (hx : all[i]? = some x) (hk : k ≤ L.length) (h1 : ∀ (j : Nat) (y : ByteArray), j < k → L[j]? = some y → Lib.compareBytes (str y) (str x) < 0) (h2 : ∀ y, L[k]? = some y → Lib.compareBytes (str x) (str y) < 0) : NmTo all (i + 1) (L.take k ++ x :: L.drop k) := by
  refine ⟨rise_put h.rise hk h1 h2, fun y => ?_, by rw [put_len]; have := h.len; omega⟩
  rw [mem_put, take_get hx, List.mem_append, List.mem_singleton, h.mem, or_comm]
theorem cmpB_flip {a b : Str} (h : ¬ Lib.compareBytes a b < 0) (hne : a ≠ b) : Lib.compareBytes b a < 0 := by
  rcases cmpB_range a b with hc | hc | hc
  · rw [hc] at h; exact absurd (by decide) h
  · exact absurd (cmpB_eq hc) hne
  · have := cmpB_swap a b; rw [hc] at this; omega
def Names12P (X Y Z : List ByteArray) (w : World) (e : Ending) (w' : World) : Prop :=
  ∃ v L, e = .returned v ∧ Rise L ∧ (∀ x, x ∈ L ↔ x ∈ X ∨ x ∈ Y ∨ x ∈ Z) ∧ L.length ≤ 3003 ∧ w'.ownsRow w.heap.size 9 1 v L.length (L.map Value.string) ∧ Off [] w w'
set_option maxRecDepth 100000 in
set_option maxHeartbeats 8000000 in
theorem names12_any (px py pz : Option Addr) (X Y Z : List ByteArray) (nx ny nz cx cy cz : Nat) (w : World) (hX : StrA w px nx cx X) (hY : StrA w py ny cy Y) (hZ : StrA w pz nz cz Z) (bx : nx ≤ 1001) (by_ : ny ≤ 1001) (bz : nz ≤ 1001) :
    Calls Tryz.prog 40 #[.slice px nx cx, .slice py ny cy, .slice pz nz cz] w (Names12P X Y Z w) := by
  obtain ⟨i0, hi, hz0, hz1, hz2⟩ := info_parts infoStr
  have HX := Lib.hid (fun (W : World) (ho : Off [] w W) => hX.off ho)
  have HY := Lib.hid (fun (W : World) (ho : Off [] w W) => hY.off ho)
  have HZ := Lib.hid (fun (W : World) (ho : Off [] w W) => hZ.off ho)
  have HXL := Lib.hid (show (X.map Value.string).length = nx * 1 by rw [List.length_map, hX.len]; omega)
  have HYL := Lib.hid (show (Y.map Value.string).length = ny * 1 by rw [List.length_map, hY.len]; omega)
  have HZL := Lib.hid (show (Z.map Value.string).length = nz * 1 by rw [List.length_map, hZ.len]; omega)
  have HXN := Lib.hid hX.nn
  have HYN := Lib.hid hY.nn
  have HZN := Lib.hid hZ.nn
  have HLX := Lib.hid hX.len
  have HLY := Lib.hid hY.len
  have HLZ := Lib.hid hZ.len
  clear hX hY hZ
  have HW0 := Lib.hid (own_zeroS w (Nat.le_refl _))
  have HO0 := Lib.hid ((Off.refl [] w).alloc (.cells #[] 9))
  go_enter Tryz.func40, Tryz.ntmps40
  go_wp2_with (first
    | (at_builtin; refine wpList_append_src _ rfl _ _ 46 rfl w.heap.size 9 i0 (.string ⟨#[]⟩) 1 16 Tryz.underlying46 hi hz0 hz1 hz2 rfl (by decide) _ _ _ rfl HW0.out px nx cx (X.map Value.string) rfl HXL.out (fun ad hp j u hj => (HX.out _ HO0.out).cell ad hp j u hj) HXN.out strs_one (by unfold maxLen; omega) (by omega) (by simp) ?_; intro v1 w1 hown1 hgrow1; have hof1 := own_grown HO0.out HW0.out hgrow1; have hsz1 := hof1.size; clear hgrow1)
    | (at_builtin; refine wpList_append_src _ rfl _ _ 46 rfl w.heap.size 9 i0 (.string ⟨#[]⟩) 1 16 Tryz.underlying46 hi hz0 hz1 hz2 rfl (by decide) _ _ _ rfl hown1 py ny cy (Y.map Value.string) rfl HYL.out (fun ad hp j u hj => (HY.out _ hof1).cell ad hp j u hj) HYN.out strs_one (by unfold maxLen; omega) (by omega) (hsz1) ?_; intro v2 w2 hown2 hgrow2; have hof2 := own_grown hof1 hown1 hgrow2; have hsz2 := hof2.size; clear hgrow2)
    | (at_builtin; refine wpList_append_src _ rfl _ _ 46 rfl w.heap.size 9 i0 (.string ⟨#[]⟩) 1 16 Tryz.underlying46 hi hz0 hz1 hz2 rfl (by decide) _ _ _ rfl hown2 pz nz cz (Z.map Value.string) rfl HZL.out (fun ad hp j u hj => (HZ.out _ hof2).cell ad hp j u hj) HZN.out strs_one (by unfold maxLen; omega) (by omega) (hsz2) ?_; intro v3 w3 hown3 hgrow3; have hof3 := own_grown hof2 hown2 hgrow3; clear hgrow3))
  have e0 : [] ++ X.map Value.string ++ Y.map Value.string ++ Z.map Value.string = ((X ++ Y) ++ Z).map Value.string := by rw [List.map_append, List.map_append]; rfl
  have e1 : 0 + nx + ny + nz = ((X ++ Y) ++ Z).length := by rw [List.length_append, List.length_append, HLX.out, HLY.out, HLZ.out]; omega
  rw [e0, e1] at hown3
  have hmemA : ∀ x, x ∈ (X ++ Y) ++ Z ↔ x ∈ X ∨ x ∈ Y ∨ x ∈ Z := fun x => by simp [List.mem_append]
  have hAl : ((X ++ Y) ++ Z).length ≤ 3003 := by omega
  generalize (X ++ Y) ++ Z = A at *
  obtain ⟨pa, ca, rfl, hsA⟩ := own_strs hown3
  have HSA : Hid (Strs w3 pa A) := Lib.hid hsA
  have HMEM := Lib.hid hmemA
  obtain ⟨N, hN⟩ : ∃ N, A.length = N := ⟨_, rfl⟩
  rw [hN] at hAl ⊢
  have HN := Lib.hid hN
  have HOF3 := Lib.hid hof3
  clear e0 e1 hown1 hown2 hown3 hof1 hof2 hof3 hsz1 hsz2 hsA hmemA hN
  go_loopw [9, 8] (fun x z wr => ∃ (i : Nat) (L : List ByteArray), x = .int .i64 i ∧ i ≤ N ∧ wr.ownsRow w3.heap.size 9 1 z L.length (L.map Value.string) ∧ Off [] w3 wr ∧ Hid (NmTo A i L)) (fun x _ _ => N - (intOf x).toNat)
  case atStart => exact ⟨0, [], rfl, by omega, ⟨rfl, .inl ⟨rfl, rfl⟩⟩, Off.refl _ _, Lib.hid (NmTo.start A)⟩
  case round =>
    obtain ⟨i, L, rfl, hi', hown, hof, hto⟩ := hrel
    generalize wr = w4 at *
    by_cases hiN : i < N
    · have hil : i < A.length := by rw [HN.out]; exact hiN
      have hxi := List.getElem?_eq_getElem hil
      generalize A[i] = x at *
      obtain ⟨g, rfl, hg, hcx⟩ := (HSA.out.off hof) i x hxi
      have HXI := Lib.hid hxi
      have hLl := hto.out.len
      obtain ⟨pl, cl, rfl, hsL⟩ := own_strs hown
      have HSL : Hid (Strs w4 pl L) := Lib.hid hsL
      obtain ⟨l, hl⟩ : ∃ l, L.length = l := ⟨_, rfl⟩
      rw [hl] at hown hLl ⊢
      have HL := Lib.hid hl
      clear hil hxi hcx hg hsL hl
      go_wp2_with fail
      go_loopw [10] (fun y wq => ∃ k : Nat, y = .int .i64 k ∧ k ≤ l ∧ Off [] w4 wq ∧ Hid (∀ (j : Nat) (z : ByteArray), j < k → L[j]? = some z → Lib.compareBytes (str z) (str x) < 0)) (fun y _ => l - (intOf y).toNat)
      case atStart => exact ⟨0, rfl, by omega, Off.refl _ _, Lib.hid (fun j z hj => by omega)⟩
      case round =>
        obtain ⟨k, rfl, hk, hofq, hlow⟩ := hrel
        obtain ⟨g', e9, hg, hcx⟩ := (HSA.out.off (hof.trans_nil hofq)) i x HXI.out
        cases e9
        by_cases hkl : k < l
        · have hkL : k < L.length := by rw [HL.out]; exact hkl
          have hyk := List.getElem?_eq_getElem hkL
          generalize L[k] = y at *
          obtain ⟨gl, rfl, hgl, hcy⟩ := (HSL.out.off hofq) k y hyk
          have HYK := Lib.hid hyk
          clear hyk hkL
          by_cases hc : Lib.compareBytes (str y) (str x) < 0
          · have hlt : bytesLess y.toList x.toList = true := by rw [less_bs]; exact decide_eq_true hc
            have HC := Lib.hid hc
            clear hc
            go_wp2_with fail
            go_quiet (fail)
            go_wp2_with fail
            refine ⟨⟨k + 1, by congr 1, by omega, hofq.drewN _, Lib.hid (fun j z hj hz => ?_)⟩, by simp only [intOf]; omega⟩
            rcases Nat.lt_or_ge j k with h | h
            · exact hlow.out j z h hz
            · obtain rfl : j = k := by omega
              rw [HYK.out] at hz
              cases hz
              exact HC.out
          · have hlt : bytesLess y.toList x.toList = false := by rw [less_bs]; exact decide_eq_false hc
            by_cases hyx : y = x
            · have he : (y.toList == x.toList) = true := by rw [beq_bs]; exact decide_eq_true hyx
              have HNX := Lib.hid (hto.out.skip HXI.out (by rw [HYK.out, hyx]))
              clear hc hyx
              go_wp2_with fail
              go_quiet (fail)
              go_wp2_with fail
              refine code_gen (fun W => Off [] w4 W) (hofq.drewN _) ?_
              rintro W5 hofW
              clear hcx hg hcy hgl
              obtain ⟨g', e9, hg, hcx⟩ := (HSA.out.off (hof.trans_nil hofW)) i x HXI.out
              cases e9
              obtain ⟨gl', e9, hgl, hcy⟩ := (HSL.out.off hofW) k y HYK.out
              cases e9
              go_quiet (fail)
              have hof5 := hofW.drewN nq
              go_wp2_with fail
              refine ⟨⟨i + 1, L, by congr 1, by omega, ?_, hof.trans_nil hof5, HNX⟩, by simp only [intOf]; omega⟩
              rw [HL.out]
              exact ownsRow_off hown hof5
            · have he : (y.toList == x.toList) = false := by rw [beq_bs]; exact decide_eq_false hyx
              have HGT := Lib.hid (show ∀ z, L[k]? = some z → Lib.compareBytes (str x) (str z) < 0 from fun z hz => by
                rw [HYK.out] at hz
                cases hz
                exact cmpB_flip hc (fun e => hyx (str_inj e)))
              clear hc hyx
              go_wp2_with fail
              go_quiet (fail)
              go_wp2_with fail
              refine code_gen (fun W => Off [] w4 W) (hofq.drewN _) ?_
              rintro W5 hofW
              clear hcx hg hcy hgl
              obtain ⟨g', e9, hg, hcx⟩ := (HSA.out.off (hof.trans_nil hofW)) i x HXI.out
              cases e9
              obtain ⟨gl', e9, hgl, hcy⟩ := (HSL.out.off hofW) k y HYK.out
              cases e9
              go_quiet (fail)
              have hof5 := hofW.drewN nq
              have HOW := Lib.hid (ownsRow_off hown hof5)
              have hof35 := hof.trans_nil hof5
              have hsz5 := (hof.trans_nil hofW).size
              have HTO := Lib.hid (fun h1 => hto.out.put HXI.out (by rw [HL.out]; exact hk) hlow.out h1)
              clear hown hof5 hto
              go_wp2_with (at_builtin; refine wpList_append_own _ rfl _ _ 46 rfl w3.heap.size 9 i0 (.string ⟨#[]⟩) 1 16 Tryz.underlying46 hi hz0 hz1 hz2 rfl (by decide) _ _ _ rfl (HOW.out.alloc _) ⟨_, 0, none⟩ 1 1 [.string ⟨#[]⟩] rfl rfl (cell_one_at (Blk.new _ _ _)) (by simp [Value.oneCell']) (by unfold maxLen; omega) (by omega) (by simp; omega) ?_; intro v6 w6 hown6 hgrow _; have hof6 := own_grown (hof35.alloc _) (HOW.out.alloc _) hgrow; obtain ⟨g6, c6, rfl⟩ := ownsRow_succ hown6; have hjw : wrap64 ((l : Int) + 1 - 1) = (l : Int) := by unfold wrap64; omega)
              have hown6 : w6.ownsRow w3.heap.size 9 1 (.slice (some ⟨g6, 0, none⟩) (l + 1) c6) (l + 1) ((L.take l ++ (⟨#[]⟩ : ByteArray) :: L.drop l).map Value.string) := by
                rw [show L.take l ++ (⟨#[]⟩ : ByteArray) :: L.drop l = L ++ [⟨#[]⟩] by rw [← HL.out]; exact put_end, List.map_append]
                exact hown6
              clear hgrow hcx hg HOW
              go_wp2_with fail
              go_loopw [11] (fun y ws => ∃ (j : Nat) (u : ByteArray), y = .int .i64 j ∧ k ≤ j ∧ j ≤ l ∧ ws.ownsRow w3.heap.size 9 1 (.slice (some ⟨g6, 0, none⟩) (l + 1) c6) (l + 1) ((L.take j ++ u :: L.drop j).map Value.string) ∧ Off [] w3 ws) (fun y _ => (intOf y).toNat)
              case atStart => exact ⟨l, _, rfl, hk, Nat.le_refl _, hown6, hof6⟩
              case round =>
                clear hown6 hof6
                obtain ⟨j, u, rfl, hkj, hjl, hown, hof7⟩ := hrel
                have hg6 := hown.lt g6 rfl
                by_cases hjk : k < j
                · obtain ⟨j, rfl⟩ : ∃ j', j = j' + 1 := ⟨j - 1, by omega⟩
                  have hjL : j < L.length := by rw [HL.out]; omega
                  have hyj := List.getElem?_eq_getElem hjL
                  generalize L[j] = z at *
                  have hcz := hown.cells (g := g6) rfl j (.string z) (by rw [List.getElem?_map, List.getElem?_append_left (by rw [List.length_take]; omega), List.getElem?_take, if_pos (by omega), hyj]; rfl)
                  rw [addr_add] at hcz
                  have hfr := own_frozen1 hown (j + 1)
                  have hst := own_set1 hown (j + 1) (.string z)
                  rw [show (.string z : Value) = Value.string z from rfl, ← List.map_set, set_here (by have := HL.out; omega), slide hyj] at hst
                  have HST := Lib.hid hst
                  have HO7 := Lib.hid (hof7.setCell (p := ⟨g6, j + 1, none⟩) (.inl hg6.1) (.string z))
                  have hcu := hown.cells (g := g6) rfl (j + 1) (.string u) (by rw [List.getElem?_map, List.getElem?_append_right (by rw [List.length_take]; omega), List.length_take, Nat.min_eq_left (by have := HL.out; omega), Nat.sub_self]; rfl)
                  rw [addr_add] at hcu
                  have hjw2 : wrap64 ((j : Int) + 1 - 1) = (j : Int) := by unfold wrap64; omega
                  clear hown hst hyj hjL
                  go_wp2_with fail
                  refine ⟨⟨j, z, rfl, by omega, by omega, HST.out, HO7.out⟩, by simp only [intOf]; omega⟩
                · obtain rfl : j = k := by omega
                  have hcu := hown.cells (g := g6) rfl j (.string u) (by rw [List.getElem?_map, List.getElem?_append_right (by rw [List.length_take]; omega), List.length_take, Nat.min_eq_left (by have := HL.out; omega), Nat.sub_self]; rfl)
                  rw [addr_add] at hcu
                  have hfr := own_frozen1 hown j
                  have hst := own_set1 hown j (.string x)
                  rw [← List.map_set, set_here (by have := HL.out; omega)] at hst
                  have HST := Lib.hid hst
                  have HO7 := Lib.hid (hof7.setCell (p := ⟨g6, j, none⟩) (.inl hg6.1) (.string x))
                  obtain ⟨g', e9, hg, hcx⟩ := (HSA.out.off hof7) i x HXI.out
                  cases e9
                  clear hown hst
                  go_wp2_with fail
                  refine ⟨⟨i + 1, L.take j ++ x :: L.drop j, by congr 1, by omega, ?_, HO7.out, Lib.hid (HTO.out HGT.out)⟩, by simp only [intOf]; omega⟩
                  rw [put_len, HL.out]
                  exact HST.out
        · obtain rfl : k = l := by omega
          have HGT := Lib.hid (show ∀ z, L[k]? = some z → Lib.compareBytes (str x) (str z) < 0 from fun z hz => by
            rw [List.getElem?_eq_none (by rw [HL.out]; exact Nat.le_refl _)] at hz
            cases hz)
          go_wp2_with fail
          go_quiet (fail)
          go_wp2_with fail
          refine code_gen (fun W => Off [] w4 W) (hofq.drewN _) ?_
          rintro W5 hofW
          clear hcx hg
          obtain ⟨g', e9, hg, hcx⟩ := (HSA.out.off (hof.trans_nil hofW)) i x HXI.out
          cases e9
          go_quiet (fail)
          have hof5 := hofW.drewN nq
          have HOW := Lib.hid (ownsRow_off hown hof5)
          have hof35 := hof.trans_nil hof5
          have hsz5 := (hof.trans_nil hofW).size
          have HTO := Lib.hid (fun h1 => hto.out.put HXI.out (by rw [HL.out]; exact hk) hlow.out h1)
          clear hown hof5 hto
          go_wp2_with (at_builtin; refine wpList_append_own _ rfl _ _ 46 rfl w3.heap.size 9 i0 (.string ⟨#[]⟩) 1 16 Tryz.underlying46 hi hz0 hz1 hz2 rfl (by decide) _ _ _ rfl (HOW.out.alloc _) ⟨_, 0, none⟩ 1 1 [.string ⟨#[]⟩] rfl rfl (cell_one_at (Blk.new _ _ _)) (by simp [Value.oneCell']) (by unfold maxLen; omega) (by omega) (by simp; omega) ?_; intro v6 w6 hown6 hgrow _; have hof6 := own_grown (hof35.alloc _) (HOW.out.alloc _) hgrow; obtain ⟨g6, c6, rfl⟩ := ownsRow_succ hown6; have hjw : wrap64 ((k : Int) + 1 - 1) = (k : Int) := by unfold wrap64; omega)
          have hown6 : w6.ownsRow w3.heap.size 9 1 (.slice (some ⟨g6, 0, none⟩) (k + 1) c6) (k + 1) ((L.take k ++ (⟨#[]⟩ : ByteArray) :: L.drop k).map Value.string) := by
            rw [show L.take k ++ (⟨#[]⟩ : ByteArray) :: L.drop k = L ++ [⟨#[]⟩] by rw [← HL.out]; exact put_end, List.map_append]
            exact hown6
          clear hgrow hcx hg HOW
          go_wp2_with fail
          go_loopw [11] (fun y ws => ∃ (j : Nat) (u : ByteArray), y = .int .i64 j ∧ k ≤ j ∧ j ≤ k ∧ ws.ownsRow w3.heap.size 9 1 (.slice (some ⟨g6, 0, none⟩) (k + 1) c6) (k + 1) ((L.take j ++ u :: L.drop j).map Value.string) ∧ Off [] w3 ws) (fun y _ => (intOf y).toNat)
          case atStart => exact ⟨k, _, rfl, hk, Nat.le_refl _, hown6, hof6⟩
          case round =>
            clear hown6 hof6
            obtain ⟨j, u, rfl, hkj, hjl, hown, hof7⟩ := hrel
            have hg6 := hown.lt g6 rfl
            by_cases hjk : k < j
            · exact absurd hjk (by omega)
            · obtain rfl : j = k := by omega
              have hcu := hown.cells (g := g6) rfl j (.string u) (by rw [List.getElem?_map, List.getElem?_append_right (by rw [List.length_take]; omega), List.length_take, Nat.min_eq_left (by have := HL.out; omega), Nat.sub_self]; rfl)
              rw [addr_add] at hcu
              have hfr := own_frozen1 hown j
              have hst := own_set1 hown j (.string x)
              rw [← List.map_set, set_here (by have := HL.out; omega)] at hst
              have HST := Lib.hid hst
              have HO7 := Lib.hid (hof7.setCell (p := ⟨g6, j, none⟩) (.inl hg6.1) (.string x))
              obtain ⟨g', e9, hg, hcx⟩ := (HSA.out.off hof7) i x HXI.out
              cases e9
              clear hown hst
              go_wp2_with fail
              refine ⟨⟨i + 1, L.take j ++ x :: L.drop j, by congr 1, by omega, ?_, HO7.out, Lib.hid (HTO.out HGT.out)⟩, by simp only [intOf]; omega⟩
              rw [put_len, HL.out]
              exact HST.out
    · obtain rfl : i = N := by omega
      go_wp2_with fail
      go_ret
      refine ⟨_, L, rfl, hto.out.rise, fun x => ?_, by have := hto.out.len; omega, own_base hown HOF3.out.size, HOF3.out.trans_nil hof⟩
      rw [hto.out.mem, List.take_of_length_le (by rw [HN.out]; exact Nat.le_refl _), HMEM.out]
/-- every list of strings is as it was -/
structure KeepS (w w' : World) : Prop where
  size : w.heap.size ≤ w'.heap.size
  blk : ∀ (g : Nat) (cs : Array Value), w.heap[g]? = some (.cells cs 9 (0, 0)) → w'.heap[g]? = some (.cells cs 9 (0, 0))
theorem KeepS.refl (w : World) : KeepS w w := ⟨Nat.le_refl _, fun _ _ h => h⟩
theorem KeepS.trans {w w' w'' : World} (h : KeepS w w') (k : KeepS w' w'') : KeepS w w'' := ⟨Nat.le_trans h.size k.size, fun g cs hg => k.blk g cs (h.blk g cs hg)⟩
theorem KeepS.off {w w' : World} (h : Off [] w w') : KeepS w w' := ⟨h.size, fun g cs hg => (h.block g (Array.getElem?_eq_some_iff.1 hg).1 (by simp)).trans hg⟩
theorem KeepS.grown {w w' : World} {base e sz n : Nat} {v : Value} {xs : List Value} (hown : w.ownsRow base e sz v n xs) (he : e ≠ 9) (hg : w.grownBy w' v.ownBlock) : KeepS w w' := ⟨hg.size, fun g cs hgs => by
  refine (hg.block g (Array.getElem?_eq_some_iff.1 hgs).1 fun e2 => ?_).trans hgs
  rcases hown.2 with ⟨rfl, _⟩ | ⟨g', cap, cu, rfl, _, hh, _⟩
  · cases e2
  · have e2 : some g = some g' := e2
    cases e2
    rw [hgs] at hh
    injection hh with hh
    injection hh with _ ht
    exact he ht.symm⟩
theorem own_strsK {W W' : World} {base n : Nat} {v : Value} {xs : List Value} (h : W.ownsRow base 9 1 v n xs) (hk : KeepS W W') : W'.ownsRow base 9 1 v n xs := by
  refine ⟨h.1, ?_⟩
  rcases h.2 with h | ⟨g, cap, cur, h1, h2, h3, h4⟩
  · exact .inl h
  · exact .inr ⟨g, cap, cur, h1, h2, hk.blk g cur h3, h4⟩
theorem rsame_v (L M : List Node) (p q : Option Addr) (n m c d : Nat) (w : World) (hn : L.length = n) (hm : M.length = m) (hL : n ≤ 1099511627776) (hM : m ≤ 1099511627776) (hp : Row w p L) (hq : Row w q M) (b : Bool) (hb : decide (L = M) = b) :
    Calls Tryz.prog 12 #[.slice p n c, .slice q m d] w fun e w' => e = .returned (.bool b) ∧ Off [] w w' := by
  subst hn; subst hm; subst hb
  exact rsame_any L M p q c d w hL hM hp hq
theorem two_at {w : World} {g : Nat} {t : TypeId} {x y : Value} (h : Blk w g t #[x, y]) : ∀ j u, [x, y][j]? = some u → w.cell? ((⟨g, 0, none⟩ : Addr).add j) = some u := by
  intro j u hj
  match j, hj with
  | 0, hj => rw [addr_add, h.cell]; simpa using hj
  | 1, hj => rw [addr_add, h.cell]; simpa using hj
  | j + 2, hj => simp at hj
def LookP (w0 : World) (M : List It) (w : World) (e : Ending) (w' : World) : Prop :=
  ∃ v, e = .returned v ∧ w'.ownsRow w0.heap.size 42 2 v M.length (itCells M) ∧ Off [] w0 w' ∧ KeepS w w'
theorem LookP.one {w0 w w3 W6 : World} {L : List It} {P : ByteArray} {k : Int} {v v' : Value} (hown : (w3.alloc (.cells #[.string P, .int .i64 k] 42)).ownsRow w0.heap.size 42 2 v L.length (itCells L)) (ho : Off [] w0 w3) (hk : KeepS w w3)
    (hown' : W6.ownsRow w0.heap.size 42 2 v' (L.length + 1) (itCells L ++ [.string P, .int .i64 k])) (hg : (w3.alloc (.cells #[.string P, .int .i64 k] 42)).grownBy W6 v.ownBlock) : LookP w0 (L ++ [⟨P, k⟩]) w (.returned v') W6 :=
  ⟨v', rfl, by rw [List.length_append, itCells_append]; exact hown', own_grown (ho.alloc _) hown hg, (hk.trans (KeepS.off ((Off.refl [] _).alloc _))).trans (KeepS.grown hown (by decide) hg)⟩
structure Args3 (w : World) (po pa pb : Option Addr) (no na nb co ca cb : Nat) (o a b : List Node) : Prop where
  o : Arg w po no co o
  a : Arg w pa na ca a
  b : Arg w pb nb cb b
theorem Args3.off {w w' : World} {po pa pb : Option Addr} {no na nb co ca cb : Nat} {o a b : List Node} (h : Args3 w po pa pb no na nb co ca cb o a b) (ho : Off [] w w') : Args3 w' po pa pb no na nb co ca cb o a b := ⟨h.o.off ho, h.a.off ho, h.b.off ho⟩
theorem okP_size {P : ByteArray} (h : okP P) : P.size ≤ 400 := by
  rw [← str_size]
  rcases h with h | h
  · rw [h]; decide
  · exact okPath_size h
theorem flatX_take {α : Type} {f : ByteArray → List α} {L : List ByteArray} {i : Nat} {y : ByteArray} (h : L[i]? = some y) : (L.take (i + 1)).flatMap f = (L.take i).flatMap f ++ f y := by
  rw [take_get h, List.flatMap_append]; simp
theorem flatX_le {α : Type} {f : ByteArray → List α} (L : List ByteArray) (i : Nat) : ((L.take i).flatMap f).length ≤ (L.flatMap f).length := by
  conv => rhs; rw [← List.take_append_drop i L]
  rw [List.flatMap_append, List.length_append]; omega
set_option maxRecDepth 100000 in
set_option maxHeartbeats 16000000 in
theorem look_step (f : Nat) (po pa pb : Option Addr) (no na nb co ca cb : Nat) (o a b : List Node) (w0 : World) (hTR : Trees o a b) (hA3 : Args3 w0 po pa pb no na nb co ca cb o a b)
    (IH : ∀ (P : ByteArray) (v : Value) (L : List It) (w : World), okP P → (atR a (str P)).length < f → Off [] w0 w → w.ownsRow w0.heap.size 42 2 v L.length (itCells L) → L.length + (itemsV f (vwAt o a b P)).length ≤ 1000000000 →
      Calls Tryz.prog 22 #[.slice po no co, .slice pa na ca, .slice pb nb cb, .string P, v] w (LookP w0 (L ++ itemsV f (vwAt o a b P)) w))
    (P : ByteArray) (v : Value) (L : List It) (w : World) (hP : okP P) (hlt : (atR a (str P)).length < f + 1) (hoff : Off [] w0 w) (hown : w.ownsRow w0.heap.size 42 2 v L.length (itCells L)) (hlen : L.length + (itemsV (f + 1) (vwAt o a b P)).length ≤ 1000000000) :
    Calls Tryz.prog 22 #[.slice po no co, .slice pa na ca, .slice pb nb cb, .string P, v] w (LookP w0 (L ++ itemsV (f + 1) (vwAt o a b P)) w) := by
  obtain ⟨i0, hi0, hz0, hz1, hz2⟩ := info_parts infoItem
  have HIH := Lib.hid IH
  have HTR := Lib.hid hTR
  have HP := Lib.hid hP
  have HLT := Lib.hid hlt
  have HLEN := Lib.hid hlen
  have HVO := Lib.hid (fun (W : World) (ho : Off [] w0 W) => value12_any po o no co P W (hA3.off ho).o.row hA3.o.len hA3.o.nn hTR.o hP)
  have HVA := Lib.hid (fun (W : World) (ho : Off [] w0 W) => value12_any pa a na ca P W (hA3.off ho).a.row hA3.a.len hA3.a.nn hTR.a hP)
  have HVB := Lib.hid (fun (W : World) (ho : Off [] w0 W) => value12_any pb b nb cb P W (hA3.off ho).b.row hA3.b.len hA3.b.nn hTR.b hP)
  have HNO := Lib.hid (fun (W : World) (ho : Off [] w0 W) => rnames_any po o no co P W (hA3.off ho).o.row hA3.o.len hTR.o)
  have HNA := Lib.hid (fun (W : World) (ho : Off [] w0 W) => rnames_any pa a na ca P W (hA3.off ho).a.row hA3.a.len hTR.a)
  have HNB := Lib.hid (fun (W : World) (ho : Off [] w0 W) => rnames_any pb b nb cb P W (hA3.off ho).b.row hA3.b.len hTR.b)
  have hLl : L.length ≤ 1000000000 := by omega
  have hpsz := okP_size hP
  have HOWN := Lib.hid (fun (W : World) (ho : Off [] w W) => own_keepG hown ho)
  have HOFF := Lib.hid hoff
  have h0w := hoff.size
  clear IH hTR hP hlt hlen hA3 hown hoff
  go_enter Tryz.func22, Tryz.ntmps22
  go_wp2_with fail
  refine (HVO.out _ HOFF.out).mono ?_
  rintro e w1 ⟨vo, rfl, hrx, ho1⟩
  obtain ⟨qo, do_, rfl, hro, -⟩ := own_all hrx
  have hlo := @atR_len o (str P)
  obtain ⟨lo, hlo2⟩ : ∃ lo, (atR o (str P)).length = lo := ⟨_, rfl⟩
  rw [hlo2] at hlo ⊢
  have HRO := Lib.hid hro
  have HLO := Lib.hid hlo2
  clear hrx hro hlo2
  go_wp2_with fail
  refine (HVA.out _ (HOFF.out.trans_nil ho1)).mono ?_
  rintro e w2 ⟨va, rfl, hry, ho2⟩
  obtain ⟨qa, da, rfl, hra, -⟩ := own_all hry
  have hla := @atR_len a (str P)
  obtain ⟨la, hla2⟩ : ∃ la, (atR a (str P)).length = la := ⟨_, rfl⟩
  rw [hla2] at hla ⊢
  have HRO2 := Lib.hid (HRO.out.off ho2)
  have HRA := Lib.hid hra
  have HLA := Lib.hid hla2
  have ho12 := ho1.trans_nil ho2
  clear hry hra hla2 ho1 ho2 HRO
  go_wp2_with fail
  refine (HVB.out _ (HOFF.out.trans_nil ho12)).mono ?_
  rintro e w3 ⟨vb, rfl, hrz, ho3⟩
  obtain ⟨qb, db, rfl, hrb, -⟩ := own_all hrz
  have hlb := @atR_len b (str P)
  obtain ⟨lb, hlb2⟩ : ∃ lb, (atR b (str P)).length = lb := ⟨_, rfl⟩
  rw [hlb2] at hlb ⊢
  have HLB := Lib.hid hlb2
  have ho := ho12.trans_nil ho3
  have HAB := Lib.hid (fun (W : World) (ho : Off [] w3 W) (bb : Bool) (hb : decide (atR a (str P) = atR b (str P)) = bb) => rsame_v (atR a (str P)) (atR b (str P)) qa qb la lb da db W HLA.out hlb2 (by omega) (by omega) ((HRA.out.off ho3).off ho) (hrb.off ho) bb hb)
  have HOA := Lib.hid (fun (W : World) (ho : Off [] w3 W) (bb : Bool) (hb : decide (atR o (str P) = atR a (str P)) = bb) => rsame_v (atR o (str P)) (atR a (str P)) qo qa lo la do_ da W HLO.out HLA.out (by omega) (by omega) ((HRO2.out.off ho3).off ho) ((HRA.out.off ho3).off ho) bb hb)
  have HOB := Lib.hid (fun (W : World) (ho : Off [] w3 W) (bb : Bool) (hb : decide (atR o (str P) = atR b (str P)) = bb) => rsame_v (atR o (str P)) (atR b (str P)) qo qb lo lb do_ db W HLO.out hlb2 (by omega) (by omega) ((HRO2.out.off ho3).off ho) (hrb.off ho) bb hb)
  have HDA := Lib.hid (fun (W : World) (ho : Off [] w3 W) (bb : Bool) (hb : dirV (atR a (str P)) = bb) => dir12_any qa (atR a (str P)) la da W ((HRA.out.off ho3).off ho) HLA.out bb hb)
  have HDB := Lib.hid (fun (W : World) (ho : Off [] w3 W) (bb : Bool) (hb : dirV (atR b (str P)) = bb) => dir12_any qb (atR b (str P)) lb db W (hrb.off ho) hlb2 bb hb)
  clear hrz hrb hlb2 ho12 ho3 HRO2 HRA HVO HVA HVB
  have HO3 := Lib.hid ho
  have HE0 := Lib.hid (fun (W : World) (hw : Off [] w3 W) => ho.trans_nil hw)
  clear ho
  go_wp2_with fail
  have hw : Off [] w3 w3 := Off.refl _ _
  by_cases hyz : atR a (str P) = atR b (str P)
  · have HN := Lib.hid (look_same (f := f) (o := o) hyz)
    have HX := Lib.hid (decide_eq_true hyz)
    clear hyz
    refine (HAB.out _ hw true HX.out).mono ?_
    rintro e w6 ⟨rfl, hw6⟩
    have hw := hw.trans_nil hw6
    clear hw6
    go_wp2_with fail
    by_cases hxy : atR o (str P) = atR a (str P)
    · have E := Lib.hid (show itemsV (f + 1) (vwAt o a b P) = [] by rw [HN.out, if_pos hxy])
      have HY := Lib.hid (decide_eq_true hxy)
      clear hxy
      refine (HOA.out _ hw true HY.out).mono ?_
      rintro e w6 ⟨rfl, hw6⟩
      have hw := hw.trans_nil hw6
      clear hw6
      go_wp2_with fail
      go_ret
      rw [E.out, List.append_nil]
      exact ⟨v, rfl, HOWN.out _ (HE0.out _ hw), HOFF.out.trans_nil (HE0.out _ hw), KeepS.off (HE0.out _ hw)⟩
    · have E := Lib.hid (show itemsV (f + 1) (vwAt o a b P) = [⟨P, 1⟩] by rw [HN.out, if_neg hxy])
      have HY := Lib.hid (decide_eq_false hxy)
      clear hxy
      refine (HOA.out _ hw false HY.out).mono ?_
      rintro e w6 ⟨rfl, hw6⟩
      have hw := hw.trans_nil hw6
      clear hw6
      have hof := HE0.out _ hw
      have hown5 := HOWN.out _ (hof.alloc (.cells #[.string P, .int .i64 1] 42))
      have hof0 := HOFF.out.trans_nil hof
      have hsz0 := (hof0.alloc (.cells #[.string P, .int .i64 1] 42)).size
      clear hof
      go_wp2_with (at_builtin; refine wpList_append_own _ rfl _ _ 27 rfl w0.heap.size 42 i0 (.agg #[.string ⟨#[]⟩, .int .i64 0]) 2 24 Tryz.underlying27 hi0 hz0 hz1 hz2 rfl (by decide) _ _ _ rfl hown5 ⟨_, 0, none⟩ 1 1 [.string P, .int .i64 1] rfl rfl (two_at (Blk.new _ _ _)) (by simp [Value.oneCell']) (by unfold maxLen; omega) (by omega) hsz0 ?_; intro v' W6 hown' hgrow _)
      go_ret
      rw [E.out]
      exact LookP.one hown5 hof0 (KeepS.off (HE0.out _ hw)) hown' hgrow
  have HYN := Lib.hid hyz
  have HX := Lib.hid (decide_eq_false hyz)
  clear hyz
  refine (HAB.out _ hw false HX.out).mono ?_
  rintro e w6 ⟨rfl, hw6⟩
  have hw := hw.trans_nil hw6
  clear hw6
  clear HX
  go_wp2_with fail
  cases hda : dirV (atR a (str P))
  · have HN := Lib.hid (look_else (f := f) (o := o) HYN.out (by rw [hda]; rfl))
    have HD := Lib.hid hda
    clear hda
    refine (HDA.out _ hw false HD.out).mono ?_
    rintro e w6 ⟨rfl, hw6⟩
    have hw := hw.trans_nil hw6
    clear hw6
    go_wp2_with fail
    by_cases hxz : atR o (str P) = atR b (str P)
    · have E := Lib.hid (show itemsV (f + 1) (vwAt o a b P) = [⟨P, 2⟩] by rw [HN.out, if_pos hxz])
      have HX := Lib.hid (decide_eq_true hxz)
      clear hxz
      refine (HOB.out _ hw true HX.out).mono ?_
      rintro e w6 ⟨rfl, hw6⟩
      have hw := hw.trans_nil hw6
      clear hw6
      have hof := HE0.out _ hw
      have hown5 := HOWN.out _ (hof.alloc (.cells #[.string P, .int .i64 2] 42))
      have hof0 := HOFF.out.trans_nil hof
      have hsz0 := (hof0.alloc (.cells #[.string P, .int .i64 2] 42)).size
      clear hof
      go_wp2_with (at_builtin; refine wpList_append_own _ rfl _ _ 27 rfl w0.heap.size 42 i0 (.agg #[.string ⟨#[]⟩, .int .i64 0]) 2 24 Tryz.underlying27 hi0 hz0 hz1 hz2 rfl (by decide) _ _ _ rfl hown5 ⟨_, 0, none⟩ 1 1 [.string P, .int .i64 2] rfl rfl (two_at (Blk.new _ _ _)) (by simp [Value.oneCell']) (by unfold maxLen; omega) (by omega) hsz0 ?_; intro v' W6 hown' hgrow _)
      go_ret
      rw [E.out]
      exact LookP.one hown5 hof0 (KeepS.off (HE0.out _ hw)) hown' hgrow
    have HX := Lib.hid (decide_eq_false hxz)
    have HXN := Lib.hid hxz
    clear hxz
    refine (HOB.out _ hw false HX.out).mono ?_
    rintro e w6 ⟨rfl, hw6⟩
    have hw := hw.trans_nil hw6
    clear hw6
    go_wp2_with fail
    by_cases hxy : atR o (str P) = atR a (str P)
    · have E := Lib.hid (show itemsV (f + 1) (vwAt o a b P) = [⟨P, 3⟩] by rw [HN.out, if_neg HXN.out, if_pos hxy])
      have HY := Lib.hid (decide_eq_true hxy)
      clear hxy
      refine (HOA.out _ hw true HY.out).mono ?_
      rintro e w6 ⟨rfl, hw6⟩
      have hw := hw.trans_nil hw6
      clear hw6
      have hof := HE0.out _ hw
      have hown5 := HOWN.out _ (hof.alloc (.cells #[.string P, .int .i64 3] 42))
      have hof0 := HOFF.out.trans_nil hof
      have hsz0 := (hof0.alloc (.cells #[.string P, .int .i64 3] 42)).size
      clear hof
      go_wp2_with (at_builtin; refine wpList_append_own _ rfl _ _ 27 rfl w0.heap.size 42 i0 (.agg #[.string ⟨#[]⟩, .int .i64 0]) 2 24 Tryz.underlying27 hi0 hz0 hz1 hz2 rfl (by decide) _ _ _ rfl hown5 ⟨_, 0, none⟩ 1 1 [.string P, .int .i64 3] rfl rfl (two_at (Blk.new _ _ _)) (by simp [Value.oneCell']) (by unfold maxLen; omega) (by omega) hsz0 ?_; intro v' W6 hown' hgrow _)
      go_ret
      rw [E.out]
      exact LookP.one hown5 hof0 (KeepS.off (HE0.out _ hw)) hown' hgrow
    · have E := Lib.hid (show itemsV (f + 1) (vwAt o a b P) = [⟨P, 4⟩] by rw [HN.out, if_neg HXN.out, if_neg hxy])
      have HY := Lib.hid (decide_eq_false hxy)
      clear hxy
      refine (HOA.out _ hw false HY.out).mono ?_
      rintro e w6 ⟨rfl, hw6⟩
      have hw := hw.trans_nil hw6
      clear hw6
      have hof := HE0.out _ hw
      have hown5 := HOWN.out _ (hof.alloc (.cells #[.string P, .int .i64 4] 42))
      have hof0 := HOFF.out.trans_nil hof
      have hsz0 := (hof0.alloc (.cells #[.string P, .int .i64 4] 42)).size
      clear hof
      go_wp2_with (at_builtin; refine wpList_append_own _ rfl _ _ 27 rfl w0.heap.size 42 i0 (.agg #[.string ⟨#[]⟩, .int .i64 0]) 2 24 Tryz.underlying27 hi0 hz0 hz1 hz2 rfl (by decide) _ _ _ rfl hown5 ⟨_, 0, none⟩ 1 1 [.string P, .int .i64 4] rfl rfl (two_at (Blk.new _ _ _)) (by simp [Value.oneCell']) (by unfold maxLen; omega) (by omega) hsz0 ?_; intro v' W6 hown' hgrow _)
      go_ret
      rw [E.out]
      exact LookP.one hown5 hof0 (KeepS.off (HE0.out _ hw)) hown' hgrow
  have HD := Lib.hid hda
  clear hda
  refine (HDA.out _ hw true HD.out).mono ?_
  rintro e w6 ⟨rfl, hw6⟩
  have hw := hw.trans_nil hw6
  clear hw6
  go_wp2_with fail
  cases hdb : dirV (atR b (str P))
  · have HN := Lib.hid (look_else (f := f) (o := o) HYN.out (by rw [HD.out, hdb]; rfl))
    have HD2 := Lib.hid hdb
    clear hdb
    refine (HDB.out _ hw false HD2.out).mono ?_
    rintro e w6 ⟨rfl, hw6⟩
    have hw := hw.trans_nil hw6
    clear hw6
    go_wp2_with fail
    by_cases hxz : atR o (str P) = atR b (str P)
    · have E := Lib.hid (show itemsV (f + 1) (vwAt o a b P) = [⟨P, 2⟩] by rw [HN.out, if_pos hxz])
      have HX := Lib.hid (decide_eq_true hxz)
      clear hxz
      refine (HOB.out _ hw true HX.out).mono ?_
      rintro e w6 ⟨rfl, hw6⟩
      have hw := hw.trans_nil hw6
      clear hw6
      have hof := HE0.out _ hw
      have hown5 := HOWN.out _ (hof.alloc (.cells #[.string P, .int .i64 2] 42))
      have hof0 := HOFF.out.trans_nil hof
      have hsz0 := (hof0.alloc (.cells #[.string P, .int .i64 2] 42)).size
      clear hof
      go_wp2_with (at_builtin; refine wpList_append_own _ rfl _ _ 27 rfl w0.heap.size 42 i0 (.agg #[.string ⟨#[]⟩, .int .i64 0]) 2 24 Tryz.underlying27 hi0 hz0 hz1 hz2 rfl (by decide) _ _ _ rfl hown5 ⟨_, 0, none⟩ 1 1 [.string P, .int .i64 2] rfl rfl (two_at (Blk.new _ _ _)) (by simp [Value.oneCell']) (by unfold maxLen; omega) (by omega) hsz0 ?_; intro v' W6 hown' hgrow _)
      go_ret
      rw [E.out]
      exact LookP.one hown5 hof0 (KeepS.off (HE0.out _ hw)) hown' hgrow
    have HX := Lib.hid (decide_eq_false hxz)
    have HXN := Lib.hid hxz
    clear hxz
    refine (HOB.out _ hw false HX.out).mono ?_
    rintro e w6 ⟨rfl, hw6⟩
    have hw := hw.trans_nil hw6
    clear hw6
    go_wp2_with fail
    by_cases hxy : atR o (str P) = atR a (str P)
    · have E := Lib.hid (show itemsV (f + 1) (vwAt o a b P) = [⟨P, 3⟩] by rw [HN.out, if_neg HXN.out, if_pos hxy])
      have HY := Lib.hid (decide_eq_true hxy)
      clear hxy
      refine (HOA.out _ hw true HY.out).mono ?_
      rintro e w6 ⟨rfl, hw6⟩
      have hw := hw.trans_nil hw6
      clear hw6
      have hof := HE0.out _ hw
      have hown5 := HOWN.out _ (hof.alloc (.cells #[.string P, .int .i64 3] 42))
      have hof0 := HOFF.out.trans_nil hof
      have hsz0 := (hof0.alloc (.cells #[.string P, .int .i64 3] 42)).size
      clear hof
      go_wp2_with (at_builtin; refine wpList_append_own _ rfl _ _ 27 rfl w0.heap.size 42 i0 (.agg #[.string ⟨#[]⟩, .int .i64 0]) 2 24 Tryz.underlying27 hi0 hz0 hz1 hz2 rfl (by decide) _ _ _ rfl hown5 ⟨_, 0, none⟩ 1 1 [.string P, .int .i64 3] rfl rfl (two_at (Blk.new _ _ _)) (by simp [Value.oneCell']) (by unfold maxLen; omega) (by omega) hsz0 ?_; intro v' W6 hown' hgrow _)
      go_ret
      rw [E.out]
      exact LookP.one hown5 hof0 (KeepS.off (HE0.out _ hw)) hown' hgrow
    · have E := Lib.hid (show itemsV (f + 1) (vwAt o a b P) = [⟨P, 4⟩] by rw [HN.out, if_neg HXN.out, if_neg hxy])
      have HY := Lib.hid (decide_eq_false hxy)
      clear hxy
      refine (HOA.out _ hw false HY.out).mono ?_
      rintro e w6 ⟨rfl, hw6⟩
      have hw := hw.trans_nil hw6
      clear hw6
      have hof := HE0.out _ hw
      have hown5 := HOWN.out _ (hof.alloc (.cells #[.string P, .int .i64 4] 42))
      have hof0 := HOFF.out.trans_nil hof
      have hsz0 := (hof0.alloc (.cells #[.string P, .int .i64 4] 42)).size
      clear hof
      go_wp2_with (at_builtin; refine wpList_append_own _ rfl _ _ 27 rfl w0.heap.size 42 i0 (.agg #[.string ⟨#[]⟩, .int .i64 0]) 2 24 Tryz.underlying27 hi0 hz0 hz1 hz2 rfl (by decide) _ _ _ rfl hown5 ⟨_, 0, none⟩ 1 1 [.string P, .int .i64 4] rfl rfl (two_at (Blk.new _ _ _)) (by simp [Value.oneCell']) (by unfold maxLen; omega) (by omega) hsz0 ?_; intro v' W6 hown' hgrow _)
      go_ret
      rw [E.out]
      exact LookP.one hown5 hof0 (KeepS.off (HE0.out _ hw)) hown' hgrow
  have E := Lib.hid (look_dirs (f := f) HTR.out HP.out HYN.out (by rw [HD.out, hdb]; rfl))
  have HD2 := Lib.hid hdb
  clear hdb
  refine (HDB.out _ hw true HD2.out).mono ?_
  rintro e w6 ⟨rfl, hw6⟩
  have hw := hw.trans_nil hw6
  clear hw6
  have HWA := Lib.hid (HE0.out _ hw)
  clear hw
  go_wp2_with fail
  have hz0' := HOFF.out.trans_nil HWA.out
  refine (HNO.out _ hz0').mono ?_
  rintro e w7 ⟨vx, rfl, hrx, ho7⟩
  obtain ⟨p1, c1, rfl, hs1⟩ := StrA.own hrx
  have hl1 : (namesR o (str P)).length ≤ 1001 := Nat.le_trans (namesR_len _ _) (by have := okTree_len HTR.out.o; omega)
  obtain ⟨n1, hn1⟩ : ∃ n1, (namesR o (str P)).length = n1 := ⟨_, rfl⟩
  rw [hn1] at hl1 hs1 ⊢
  have HS1 := Lib.hid hs1
  clear hrx hs1 hn1
  go_wp2_with fail
  refine (HNA.out _ (hz0'.trans_nil ho7)).mono ?_
  rintro e w8 ⟨vy, rfl, hry, ho8⟩
  obtain ⟨p2, c2, rfl, hs2⟩ := StrA.own hry
  have hl2 : (namesR a (str P)).length ≤ 1001 := Nat.le_trans (namesR_len _ _) (by have := okTree_len HTR.out.a; omega)
  obtain ⟨n2, hn2⟩ : ∃ n2, (namesR a (str P)).length = n2 := ⟨_, rfl⟩
  rw [hn2] at hl2 hs2 ⊢
  have HS2 := Lib.hid hs2
  have HS1' := Lib.hid (HS1.out.off ho8)
  have ho78 := ho7.trans_nil ho8
  clear hry hs2 hn2 ho7 ho8 HS1
  go_wp2_with fail
  refine (HNB.out _ (hz0'.trans_nil ho78)).mono ?_
  rintro e w9 ⟨vz, rfl, hrz, ho9⟩
  obtain ⟨p3, c3, rfl, hs3⟩ := StrA.own hrz
  have hl3 : (namesR b (str P)).length ≤ 1001 := Nat.le_trans (namesR_len _ _) (by have := okTree_len HTR.out.b; omega)
  obtain ⟨n3, hn3⟩ : ∃ n3, (namesR b (str P)).length = n3 := ⟨_, rfl⟩
  rw [hn3] at hl3 hs3 ⊢
  have HS3 := Lib.hid hs3
  have HS12 := Lib.hid (And.intro (HS1'.out.off ho9) (HS2.out.off ho9))
  have ho79 := ho78.trans_nil ho9
  clear hrz hs3 hn3 ho78 ho9 HS1' HS2
  go_wp2_with fail
  refine (names12_any p1 p2 p3 _ _ _ n1 n2 n3 c1 c2 c3 w9 HS12.out.1 HS12.out.2 HS3.out hl1 hl2 hl3).mono ?_
  rintro e wA ⟨vn, NN, rfl, hrise, hmem, hNl, hrn, hoA⟩
  have hNN : NN = namesV (vwAt o a b P) := names_same hrise (fun x => by
    rw [hmem x]
    show _ ↔ x ∈ inV (atR o (str P)) ∨ x ∈ inV (atR a (str P)) ∨ x ∈ inV (atR b (str P))
    rw [in_at HTR.out.o HP.out, in_at HTR.out.a HP.out, in_at HTR.out.b HP.out])
  rw [← hNN] at E
  obtain ⟨pn, cn, rfl, -⟩ := StrA.own hrn
  have HRN := Lib.hid hrn
  have HNN := Lib.hid hNN
  obtain ⟨K, hK⟩ : ∃ K, NN.length = K := ⟨_, rfl⟩
  rw [hK] at hNl ⊢
  have HK := Lib.hid hK
  have HWB := Lib.hid ((HWA.out.trans_nil ho79).trans_nil hoA)
  have hownB := HOWN.out _ HWB.out
  have hofB := HOFF.out.trans_nil HWB.out
  have HTL := Lib.hid (show L.length + (NN.flatMap fun x => itemsV f (vwAt o a b (belowP P x))).length ≤ 1000000000 by rw [← E.out]; exact HLEN.out)
  clear hrise hmem hrn hNN hK ho79 hoA hz0' HS12 HS3 HWA HLEN
  go_wp2_with fail
  go_loopw [15, 4] (fun y z wr => ∃ i : Nat, y = .int .i64 i ∧ i ≤ K ∧ wr.ownsRow w0.heap.size 42 2 z (L ++ (NN.take i).flatMap fun x => itemsV f (vwAt o a b (belowP P x))).length (itCells (L ++ (NN.take i).flatMap fun x => itemsV f (vwAt o a b (belowP P x)))) ∧ Off [] w0 wr ∧ KeepS wA wr) (fun y _ _ => K - (intOf y).toNat)
  case atStart => exact ⟨0, rfl, by omega, by simpa using hownB, hofB, KeepS.refl _⟩
  case round =>
    clear hownB hofB
    obtain ⟨i, rfl, hi, hown, hof, hks⟩ := hrel
    by_cases hiK : i < K
    · have hil : i < NN.length := by rw [HK.out]; exact hiK
      have hyi := List.getElem?_eq_getElem hil
      have hmem : NN[i] ∈ namesV (vwAt o a b P) := by rw [← HNN.out]; exact List.getElem_mem hil
      generalize NN[i] = x at *
      have hrk := own_strsK HRN.out hks
      obtain ⟨pn2, cn2, e2, hst⟩ := StrA.own hrk
      injection e2 with e2 e3 e4
      subst e2
      obtain ⟨g, rfl, hg, hcx⟩ := hst.strs i x hyi
      have HFT := Lib.hid (flatX_take (f := fun x => itemsV f (vwAt o a b (belowP P x))) hyi)
      have hle := flatX_le (f := fun x => itemsV f (vwAt o a b (belowP P x))) NN (i + 1)
      have hle2 : (L ++ (NN.take i).flatMap fun x => itemsV f (vwAt o a b (belowP P x))).length + (itemsV f (vwAt o a b (belowP P x))).length ≤ 1000000000 := by
        rw [flatX_take hyi, List.length_append] at hle
        rw [List.length_append]
        have := HTL.out
        omega
      have hxsz := namesV_size hmem
      have HOKX := Lib.hid (below_okP HTR.out HP.out hmem)
      have HLS := Lib.hid (below_less HTR.out HP.out HD.out hmem)
      have HOW := Lib.hid hown
      have HOF := Lib.hid hof
      clear hyi hmem hrk hst e3 e4 hle hown hof
      go_wp2_with fail
      refine (below12_any P x _ (by omega)).mono ?_
      rintro e wC ⟨rfl, hoC⟩
      clear hcx hg
      go_wp2_with fail
      refine (HIH.out (belowP P x) _ _ wC HOKX.out (by have := HLS.out; have := HLT.out; have := HLA.out; omega) (HOF.out.trans_nil hoC) (own_keepG HOW.out hoC) hle2).mono ?_
      rintro e wD ⟨vD, rfl, hownD, hofD, hkD⟩
      go_wp2_with fail
      refine ⟨⟨i + 1, by congr 1, by omega, ?_, hofD, (hks.trans (KeepS.off hoC)).trans hkD⟩, by simp only [intOf]; omega⟩
      rw [HFT.out, ← List.append_assoc]
      exact hownD
    · obtain rfl : i = K := by omega
      have e0 : NN.take i = NN := List.take_of_length_le (by rw [HK.out]; exact Nat.le_refl _)
      rw [e0, ← E.out] at hown
      go_wp2_with fail
      go_ret
      exact ⟨_, rfl, hown, hof, (KeepS.off HWB.out).trans hks⟩
theorem look_any (po pa pb : Option Addr) (no na nb co ca cb : Nat) (o a b : List Node) (w0 : World) (hTR : Trees o a b) (hA3 : Args3 w0 po pa pb no na nb co ca cb o a b) : ∀ (f : Nat) (P : ByteArray) (v : Value) (L : List It) (w : World), okP P → (atR a (str P)).length < f → Off [] w0 w → w.ownsRow w0.heap.size 42 2 v L.length (itCells L) → L.length + (itemsV f (vwAt o a b P)).length ≤ 1000000000 →
    Calls Tryz.prog 22 #[.slice po no co, .slice pa na ca, .slice pb nb cb, .string P, v] w (LookP w0 (L ++ itemsV f (vwAt o a b P)) w)
  | 0, _, _, _, _, _, h, _, _, _ => absurd h (by omega)
  | f + 1, P, v, L, w, h1, h2, h3, h4, h5 => look_step f po pa pb no na nb co ca cb o a b w0 hTR hA3 (look_any po pa pb no na nb co ca cb o a b w0 hTR hA3 f) P v L w h1 h2 h3 h4 h5
theorem str_isEmpty {P : ByteArray} (h : str P = []) : P.toList = [] ∧ P.toList.isEmpty = true := by
  have : P.toList = [] := by rw [toList_str]; exact h
  exact ⟨this, by simp [this]⟩
theorem str_notEmpty {P : ByteArray} (h : ¬ str P = []) : ¬ P.toList = [] ∧ P.toList.isEmpty = false := by
  have : ¬ P.toList = [] := by rw [toList_str]; exact h
  exact ⟨this, by simpa using this⟩
theorem Blk.newS (w : World) (p : Addr) (u : Value) (t : TypeId) (cs : Array Value) : Blk ((w.setCell p u).alloc (.cells cs t)) w.heap.size t cs := by
  have h := Blk.new (w.setCell p u) t cs
  have e : (w.setCell p u).heap.size = w.heap.size := by simp [World.setCell]
  rw [e] at h
  exact h
set_option maxRecDepth 100000 in
set_option maxHeartbeats 8000000 in
theorem laid12_any (p : Option Addr) (v : List Node) (n c : Nat) (P : ByteArray) (w : World) (hR : Row w p v) (hn : v.length = n) (hbig : n ≤ 1001) (hps : P.size ≤ 400) (hsz : ∀ x ∈ v, x.path.size ≤ 400) :
    Calls Tryz.prog 43 #[.slice p n c, .string P] w (OwnT (laidR P v) w) := by
  obtain ⟨i0, hi0, hz0, hz1, hz2⟩ := info_parts infoNode
  have HN := Lib.hid hn
  have HR := Lib.hid hR
  have HSZ := Lib.hid hsz
  clear hn hR hsz
  go_enter Tryz.func43, Tryz.ntmps43
  go_wp2_with fail
  go_loopw [6, 5] (fun x z wr => ∃ i : Nat, x = .int .i64 i ∧ i ≤ n ∧ wr.ownsRow w.heap.size 40 4 z (laidR P (v.take i)).length (cellsOf (laidR P (v.take i))) ∧ Off [] w wr) (fun x _ _ => n - (intOf x).toNat)
  case atStart => exact ⟨0, rfl, by omega, ⟨rfl, .inl ⟨rfl, rfl⟩⟩, Off.refl _ _⟩
  case round =>
    obtain ⟨i, rfl, hi, hown, hof⟩ := hrel
    by_cases hlt : i < n
    · have hil : i < v.length := by rw [HN.out]; exact hlt
      obtain ⟨a, rfl, hna, hab⟩ := (HR.out.off hof).get i hil
      have hx := List.getElem?_eq_getElem hil
      have hxs := HSZ.out _ (List.getElem_mem hil)
      have HTK := Lib.hid (laidR_take (P := P) hx)
      have hXl : (laidR P (v.take i)).length ≤ 1001 := Nat.le_trans (laidR_len _ _) (by rw [List.length_take]; omega)
      generalize v[i] = x at *
      have c0 := hna.path
      have c1 := hna.kind
      have c2 := hna.data
      have c3 := hna.mode
      clear hna hx hil
      obtain ⟨X, hX⟩ : ∃ X, laidR P (v.take i) = X := ⟨_, rfl⟩
      rw [hX] at hown HTK hXl
      have hszo := hof.size
      clear hX
      by_cases h0 : str x.path = []
      · obtain ⟨g1, g1'⟩ := str_isEmpty h0
        have hlx : (laidN P x) = ⟨P, x.kind, x.data, x.mode⟩ := by unfold laidN; rw [if_pos h0]
        rw [hlx] at HTK
        have hnA := hown.alloc (.cells #[.string P, .int .i64 x.kind, .string x.data, .int .i64 x.mode] 40)
        have HOA := Lib.hid (hof.alloc (.cells #[.string P, .int .i64 x.kind, .string x.data, .int .i64 x.mode] 40))
        have HOW := Lib.hid hown
        clear h0 hlx hown
        by_cases hP0 : str P = []
        · obtain ⟨g2, g2'⟩ := str_isEmpty hP0
          have HNW := Lib.hid (show laidR P (v.take (i + 1)) = X by rw [HTK.out, if_pos hP0, List.append_nil])
          clear hP0 HTK
          go_wp2_with fail
          refine ⟨⟨i + 1, by congr 1, by omega, ?_, HOA.out⟩, by simp only [intOf]; omega⟩
          rw [HNW.out]
          exact hnA
        · obtain ⟨g2, g2'⟩ := str_notEmpty hP0
          have HNW := Lib.hid (show laidR P (v.take (i + 1)) = X ++ [⟨P, x.kind, x.data, x.mode⟩] by rw [HTK.out, if_neg hP0])
          have hnB := hnA.alloc (.cells #[.string P, .int .i64 x.kind, .string x.data, .int .i64 x.mode] 40)
          clear hP0 HTK hnA
          go_wp2_with (at_builtin; refine wpList_append_own _ rfl _ _ 22 rfl w.heap.size 40 i0 node0.val 4 48 Tryz.underlying22 hi0 hz0 hz1 hz2 rfl (by decide) _ _ _ rfl hnB ⟨wr.heap.size + 1, 0, none⟩ 1 1 [_, _, _, _] rfl rfl (four_at (Blk.new1 wr _ _ _)) (by simp [Value.oneCell']) (by unfold maxLen; omega) (by omega) (by simp; omega) ?_; intro v' W6 hown' hgrow _)
          refine ⟨⟨i + 1, by congr 1, by omega, ?_, own_grown (HOA.out.alloc _) hnB hgrow⟩, by simp only [intOf]; omega⟩
          rw [HNW.out, List.length_append, cellsOf_append]
          exact hown'
      · obtain ⟨g1, g1'⟩ := str_notEmpty h0
        obtain ⟨tp, htp⟩ : ∃ tp, belowP P x.path = tp := ⟨_, rfl⟩
        have htne : ¬ str tp = [] := by rw [← htp]; exact belowP_ne h0
        have hlx : (laidN P x) = ⟨tp, x.kind, x.data, x.mode⟩ := by unfold laidN; rw [if_neg h0, htp]
        rw [hlx] at HTK
        have HNW := Lib.hid (show laidR P (v.take (i + 1)) = X ++ [⟨tp, x.kind, x.data, x.mode⟩] by rw [HTK.out, if_neg htne])
        have HTP := Lib.hid htp
        obtain ⟨g2, g2'⟩ := str_notEmpty htne
        have HOW := Lib.hid hown
        have HB1 := Lib.hid (Blk.new wr 40 #[.string x.path, .int .i64 x.kind, .string x.data, .int .i64 x.mode])
        have HO1 := Lib.hid ((Off.refl [] wr).alloc (.cells #[.string x.path, .int .i64 x.kind, .string x.data, .int .i64 x.mode] 40))
        clear h0 htne hlx hown HTK htp
        go_wp2_with fail
        refine (below12_any P x.path _ (by omega)).mono ?_
        rintro e w7 ⟨rfl, ho7⟩
        rw [HTP.out]
        have hb7 : Blk w7 wr.heap.size 40 #[.string x.path, .int .i64 x.kind, .string x.data, .int .i64 x.mode] := HB1.out.off ho7 (by simp)
        have hc7 := hb7.cell
        have hf7 := hb7.frozen
        have hl7 := hb7.lt
        have hb8 := hb7.set_ 0 (.string tp)
        have hc8 := hb8.cell
        have HO8 := Lib.hid ((HO1.out.trans_nil ho7).setCell (p := ⟨wr.heap.size, 0, none⟩) (.inl (Nat.le_refl _)) (.string tp))
        have hn8 := ownsRow_off HOW.out HO8.out
        have hof8 := hof.trans_nil HO8.out
        have hsz8 := hof8.size
        have hnB := hn8.alloc (.cells #[.string tp, .int .i64 x.kind, .string x.data, .int .i64 x.mode] 40)
        have HB8 := Lib.hid hb8
        clear c0 c1 c2 c3 ho7 hb7 hb8 hn8
        go_wp2_with (at_builtin; refine wpList_append_own _ rfl _ _ 22 rfl w.heap.size 40 i0 node0.val 4 48 Tryz.underlying22 hi0 hz0 hz1 hz2 rfl (by decide) _ _ _ rfl hnB ⟨w7.heap.size, 0, none⟩ 1 1 [_, _, _, _] rfl rfl (four_at (Blk.newS w7 _ _ _ _)) (by simp [Value.oneCell']) (by unfold maxLen; omega) (by omega) (by have := hsz8; simp at this ⊢; omega) ?_; intro v' W6 hown' hgrow _)
        refine ⟨⟨i + 1, by congr 1, by omega, ?_, own_grown (hof8.alloc _) hnB hgrow⟩, by simp only [intOf]; omega⟩
        rw [HNW.out, List.length_append, cellsOf_append]
        exact hown'
    · obtain rfl : i = n := by omega
      have e0 : v.take i = v := List.take_of_length_le (by rw [HN.out]; exact Nat.le_refl _)
      rw [e0] at hown
      go_wp2_with fail
      go_ret
      exact ⟨_, rfl, hown, hof⟩
set_option maxRecDepth 100000 in
set_option maxHeartbeats 16000000 in
theorem agr_step (f : Nat) (po pa pb : Option Addr) (no na nb co ca cb : Nat) (o a b : List Node) (w0 : World) (hTR : Trees o a b) (hA3 : Args3 w0 po pa pb no na nb co ca cb o a b)
    (IH : ∀ (P : ByteArray) (w : World), okP P → (atR a (str P)).length < f → Off [] w0 w → (agreeW f o a b P).length ≤ 1000000000 →
      Calls Tryz.prog 24 #[.slice po no co, .slice pa na ca, .slice pb nb cb, .string P] w (OwnT (agreeW f o a b P) w))
    (P : ByteArray) (w : World) (hP : okP P) (hlt : (atR a (str P)).length < f + 1) (hoff : Off [] w0 w) (hlen : (agreeW (f + 1) o a b P).length ≤ 1000000000) :
    Calls Tryz.prog 24 #[.slice po no co, .slice pa na ca, .slice pb nb cb, .string P] w (OwnT (agreeW (f + 1) o a b P) w) := by
  obtain ⟨i0, hi0, hz0, hz1, hz2⟩ := info_parts infoNode
  have HIH := Lib.hid IH
  have HTR := Lib.hid hTR
  have HP := Lib.hid hP
  have HLT := Lib.hid hlt
  have HLEN := Lib.hid hlen
  have HVO := Lib.hid (fun (W : World) (ho : Off [] w0 W) => value12_any po o no co P W (hA3.off ho).o.row hA3.o.len hA3.o.nn hTR.o hP)
  have HVA := Lib.hid (fun (W : World) (ho : Off [] w0 W) => value12_any pa a na ca P W (hA3.off ho).a.row hA3.a.len hA3.a.nn hTR.a hP)
  have HVB := Lib.hid (fun (W : World) (ho : Off [] w0 W) => value12_any pb b nb cb P W (hA3.off ho).b.row hA3.b.len hA3.b.nn hTR.b hP)
  have HNO := Lib.hid (fun (W : World) (ho : Off [] w0 W) => rnames_any po o no co P W (hA3.off ho).o.row hA3.o.len hTR.o)
  have HNA := Lib.hid (fun (W : World) (ho : Off [] w0 W) => rnames_any pa a na ca P W (hA3.off ho).a.row hA3.a.len hTR.a)
  have HNB := Lib.hid (fun (W : World) (ho : Off [] w0 W) => rnames_any pb b nb cb P W (hA3.off ho).b.row hA3.b.len hTR.b)
  have hpsz := okP_size hP
  have HOFF := Lib.hid hoff
  clear IH hTR hP hlt hlen hA3 hoff
  go_enter Tryz.func24, Tryz.ntmps24
  go_wp2_with fail
  refine (HVA.out _ HOFF.out).mono ?_
  rintro e w2 ⟨va, rfl, hry, ho2⟩
  obtain ⟨qa, da, rfl, hra, -⟩ := own_all hry
  have hla := @atR_len a (str P)
  obtain ⟨la, hla2⟩ : ∃ la, (atR a (str P)).length = la := ⟨_, rfl⟩
  rw [hla2] at hla ⊢
  have HRA := Lib.hid hra
  have HLA := Lib.hid hla2
  clear hry hra hla2
  go_wp2_with fail
  refine (HVB.out _ (HOFF.out.trans_nil ho2)).mono ?_
  rintro e w3 ⟨vb, rfl, hrz, ho3⟩
  obtain ⟨qb, db, rfl, hrb, -⟩ := own_all hrz
  have hlb := @atR_len b (str P)
  obtain ⟨lb, hlb2⟩ : ∃ lb, (atR b (str P)).length = lb := ⟨_, rfl⟩
  rw [hlb2] at hlb ⊢
  have ho := ho2.trans_nil ho3
  have HAB := Lib.hid (fun (W : World) (ho : Off [] w3 W) (bb : Bool) (hb : decide (atR a (str P) = atR b (str P)) = bb) => rsame_v (atR a (str P)) (atR b (str P)) qa qb la lb da db W HLA.out hlb2 (by omega) (by omega) ((HRA.out.off ho3).off ho) (hrb.off ho) bb hb)
  have HDA := Lib.hid (fun (W : World) (ho : Off [] w3 W) (bb : Bool) (hb : dirV (atR a (str P)) = bb) => dir12_any qa (atR a (str P)) la da W ((HRA.out.off ho3).off ho) HLA.out bb hb)
  have HDB := Lib.hid (fun (W : World) (ho : Off [] w3 W) (bb : Bool) (hb : dirV (atR b (str P)) = bb) => dir12_any qb (atR b (str P)) lb db W (hrb.off ho) hlb2 bb hb)
  have HLD := Lib.hid (fun (W : World) (ho : Off [] w3 W) => laid12_any qa (atR a (str P)) la da P W ((HRA.out.off ho3).off ho) HLA.out hla hpsz (fun x hx => atR_small hx))
  clear hrz hrb hlb2 ho2 ho3 HRA HVA HVB
  have HE0 := Lib.hid (fun (W : World) (hw : Off [] w3 W) => ho.trans_nil hw)
  clear ho
  go_wp2_with fail
  have hw : Off [] w3 w3 := Off.refl _ _
  by_cases hyz : atR a (str P) = atR b (str P)
  · have E := Lib.hid (agree_same (f := f) HTR.out HP.out hyz)
    have HX := Lib.hid (decide_eq_true hyz)
    clear hyz
    refine (HAB.out _ hw true HX.out).mono ?_
    rintro e w6 ⟨rfl, hw6⟩
    have hw := hw.trans_nil hw6
    clear hw6
    go_wp2_with fail
    refine (HLD.out _ hw).mono ?_
    rintro e w8 ⟨v8, rfl, h8, ho8⟩
    go_wp2_with fail
    go_ret
    have ho87 := HE0.out _ hw
    exact ⟨v8, rfl, by rw [E.out]; exact own_base h8 ho87.size, ho87.trans_nil ho8⟩
  have HYN := Lib.hid hyz
  have HX := Lib.hid (decide_eq_false hyz)
  clear hyz
  refine (HAB.out _ hw false HX.out).mono ?_
  rintro e w6 ⟨rfl, hw6⟩
  have hw := hw.trans_nil hw6
  clear hw6
  clear HX
  go_wp2_with fail
  cases hda : dirV (atR a (str P))
  · have E := Lib.hid (agree_else (f := f) HTR.out HP.out HYN.out (by rw [hda]; rfl))
    have HD := Lib.hid hda
    clear hda
    refine (HDA.out _ hw false HD.out).mono ?_
    rintro e w6 ⟨rfl, hw6⟩
    have hw := hw.trans_nil hw6
    clear hw6
    have HWA := Lib.hid (HE0.out _ hw)
    clear hw
    go_wp2_with fail
    refine (HVO.out _ (HOFF.out.trans_nil HWA.out)).mono ?_
    rintro e w7 ⟨vo, rfl, hrx, ho7⟩
    obtain ⟨qo, do_, rfl, hro, -⟩ := own_all hrx
    have hlo := @atR_len o (str P)
    obtain ⟨lo, hlo2⟩ : ∃ lo, (atR o (str P)).length = lo := ⟨_, rfl⟩
    rw [hlo2] at hlo ⊢
    have HRO := Lib.hid hro
    have HLO := Lib.hid hlo2
    clear hrx hro hlo2
    go_wp2_with fail
    refine (laid12_any qo (atR o (str P)) lo do_ P w7 HRO.out HLO.out hlo hpsz (fun x hx => atR_small hx)).mono ?_
    rintro e w8 ⟨v8, rfl, h8, ho8⟩
    go_wp2_with fail
    go_ret
    have ho87 := HWA.out.trans_nil ho7
    exact ⟨v8, rfl, by rw [E.out]; exact own_base h8 ho87.size, ho87.trans_nil ho8⟩
  have HD := Lib.hid hda
  clear hda
  refine (HDA.out _ hw true HD.out).mono ?_
  rintro e w6 ⟨rfl, hw6⟩
  have hw := hw.trans_nil hw6
  clear hw6
  go_wp2_with fail
  cases hdb : dirV (atR b (str P))
  · have E := Lib.hid (agree_else (f := f) HTR.out HP.out HYN.out (by rw [HD.out, hdb]; rfl))
    have HD2 := Lib.hid hdb
    clear hdb
    refine (HDB.out _ hw false HD2.out).mono ?_
    rintro e w6 ⟨rfl, hw6⟩
    have hw := hw.trans_nil hw6
    clear hw6
    have HWA := Lib.hid (HE0.out _ hw)
    clear hw
    go_wp2_with fail
    refine (HVO.out _ (HOFF.out.trans_nil HWA.out)).mono ?_
    rintro e w7 ⟨vo, rfl, hrx, ho7⟩
    obtain ⟨qo, do_, rfl, hro, -⟩ := own_all hrx
    have hlo := @atR_len o (str P)
    obtain ⟨lo, hlo2⟩ : ∃ lo, (atR o (str P)).length = lo := ⟨_, rfl⟩
    rw [hlo2] at hlo ⊢
    have HRO := Lib.hid hro
    have HLO := Lib.hid hlo2
    clear hrx hro hlo2
    go_wp2_with fail
    refine (laid12_any qo (atR o (str P)) lo do_ P w7 HRO.out HLO.out hlo hpsz (fun x hx => atR_small hx)).mono ?_
    rintro e w8 ⟨v8, rfl, h8, ho8⟩
    go_wp2_with fail
    go_ret
    have ho87 := HWA.out.trans_nil ho7
    exact ⟨v8, rfl, by rw [E.out]; exact own_base h8 ho87.size, ho87.trans_nil ho8⟩
  have E0 := Lib.hid (agree_dirs (f := f) HTR.out HP.out HYN.out (by rw [HD.out, hdb]; rfl))
  have HD2 := Lib.hid hdb
  clear hdb
  refine (HDB.out _ hw true HD2.out).mono ?_
  rintro e w6 ⟨rfl, hw6⟩
  have hw := hw.trans_nil hw6
  clear hw6
  have HWA := Lib.hid (HE0.out _ hw)
  clear hw
  by_cases h0 : str P = []
  · have E := Lib.hid (show agreeW (f + 1) o a b P = [] ++ (namesV (vwAt o a b P)).flatMap fun x => agreeW f o a b (belowP P x) by rw [E0.out, if_pos h0])
    obtain ⟨g1, g1'⟩ := str_isEmpty h0
    clear h0 E0
    have HNIL := Lib.hid (show ∀ W : World, W.ownsRow w.heap.size 40 4 (.slice none 0 0) ([] : List Node).length (cellsOf []) from fun W => ⟨rfl, .inl ⟨rfl, rfl⟩⟩)
    go_wp2_with fail
    have HWQ := HWA
    have hownQ := HNIL.out w6
    clear HNIL
    have hz0' := HOFF.out.trans_nil HWQ.out
    refine (HNO.out _ hz0').mono ?_
    rintro e w7 ⟨vx, rfl, hrx, ho7⟩
    obtain ⟨p1, c1, rfl, hs1⟩ := StrA.own hrx
    have hl1 : (namesR o (str P)).length ≤ 1001 := Nat.le_trans (namesR_len _ _) (by have := okTree_len HTR.out.o; omega)
    obtain ⟨n1, hn1⟩ : ∃ n1, (namesR o (str P)).length = n1 := ⟨_, rfl⟩
    rw [hn1] at hl1 hs1 ⊢
    have HS1 := Lib.hid hs1
    clear hrx hs1 hn1
    go_wp2_with fail
    refine (HNA.out _ (hz0'.trans_nil ho7)).mono ?_
    rintro e w8 ⟨vy, rfl, hry, ho8⟩
    obtain ⟨p2, c2, rfl, hs2⟩ := StrA.own hry
    have hl2 : (namesR a (str P)).length ≤ 1001 := Nat.le_trans (namesR_len _ _) (by have := okTree_len HTR.out.a; omega)
    obtain ⟨n2, hn2⟩ : ∃ n2, (namesR a (str P)).length = n2 := ⟨_, rfl⟩
    rw [hn2] at hl2 hs2 ⊢
    have HS2 := Lib.hid hs2
    have HS1' := Lib.hid (HS1.out.off ho8)
    have ho78 := ho7.trans_nil ho8
    clear hry hs2 hn2 ho7 ho8 HS1
    go_wp2_with fail
    refine (HNB.out _ (hz0'.trans_nil ho78)).mono ?_
    rintro e w9 ⟨vz, rfl, hrz, ho9⟩
    obtain ⟨p3, c3, rfl, hs3⟩ := StrA.own hrz
    have hl3 : (namesR b (str P)).length ≤ 1001 := Nat.le_trans (namesR_len _ _) (by have := okTree_len HTR.out.b; omega)
    obtain ⟨n3, hn3⟩ : ∃ n3, (namesR b (str P)).length = n3 := ⟨_, rfl⟩
    rw [hn3] at hl3 hs3 ⊢
    have HS3 := Lib.hid hs3
    have HS12 := Lib.hid (And.intro (HS1'.out.off ho9) (HS2.out.off ho9))
    have ho79 := ho78.trans_nil ho9
    clear hrz hs3 hn3 ho78 ho9 HS1' HS2
    go_wp2_with fail
    refine (names12_any p1 p2 p3 _ _ _ n1 n2 n3 c1 c2 c3 w9 HS12.out.1 HS12.out.2 HS3.out hl1 hl2 hl3).mono ?_
    rintro e wA ⟨vn, NN, rfl, hrise, hmem, hNl, hrn, hoA⟩
    have hNN : NN = namesV (vwAt o a b P) := names_same hrise (fun x => by
      rw [hmem x]
      show _ ↔ x ∈ inV (atR o (str P)) ∨ x ∈ inV (atR a (str P)) ∨ x ∈ inV (atR b (str P))
      rw [in_at HTR.out.o HP.out, in_at HTR.out.a HP.out, in_at HTR.out.b HP.out])
    rw [← hNN] at E
    obtain ⟨pn, cn, rfl, -⟩ := StrA.own hrn
    have HRN := Lib.hid hrn
    have HNN := Lib.hid hNN
    obtain ⟨K, hK⟩ : ∃ K, NN.length = K := ⟨_, rfl⟩
    rw [hK] at hNl ⊢
    have HK := Lib.hid hK
    have HWB := Lib.hid ((HWQ.out.trans_nil ho79).trans_nil hoA)
    have hownB := ownsRow_off hownQ (ho79.trans_nil hoA)
    have HTL := Lib.hid (show (([] : List Node)).length + (NN.flatMap fun x => agreeW f o a b (belowP P x)).length ≤ 1000000000 by rw [← List.length_append, ← E.out]; exact HLEN.out)
    clear hrise hmem hrn hNN hK ho79 hoA hz0' HS12 HS3 HWQ HLEN hownQ
    go_wp2_with fail
    go_loopw [13, 11] (fun y z wr => ∃ i : Nat, y = .int .i64 i ∧ i ≤ K ∧ wr.ownsRow w.heap.size 40 4 z (([] : List Node) ++ (NN.take i).flatMap fun x => agreeW f o a b (belowP P x)).length (cellsOf (([] : List Node) ++ (NN.take i).flatMap fun x => agreeW f o a b (belowP P x))) ∧ Off [] w wr ∧ KeepS wA wr) (fun y _ _ => K - (intOf y).toNat)
    case atStart => exact ⟨0, rfl, by omega, by simpa using hownB, HWB.out, KeepS.refl _⟩
    case round =>
      clear hownB
      obtain ⟨i, rfl, hi, hown, hof, hks⟩ := hrel
      by_cases hiK : i < K
      · have hil : i < NN.length := by rw [HK.out]; exact hiK
        have hyi := List.getElem?_eq_getElem hil
        have hmem : NN[i] ∈ namesV (vwAt o a b P) := by rw [← HNN.out]; exact List.getElem_mem hil
        generalize NN[i] = x at *
        have hrk := own_strsK HRN.out hks
        obtain ⟨pn2, cn2, e2, hst⟩ := StrA.own hrk
        injection e2 with e2 e3 e4
        subst e2
        obtain ⟨g, rfl, hg, hcx⟩ := hst.strs i x hyi
        have HFT := Lib.hid (flatX_take (f := fun x => agreeW f o a b (belowP P x)) hyi)
        have hle := flatX_le (f := fun x => agreeW f o a b (belowP P x)) NN (i + 1)
        have hle2 : (([] : List Node) ++ (NN.take i).flatMap fun x => agreeW f o a b (belowP P x)).length + (agreeW f o a b (belowP P x)).length ≤ 1000000000 := by
          rw [flatX_take hyi, List.length_append] at hle
          rw [List.length_append]
          have := HTL.out
          omega
        have hxsz := namesV_size hmem
        have HOKX := Lib.hid (below_okP HTR.out HP.out hmem)
        have HLS := Lib.hid (below_less HTR.out HP.out HD.out hmem)
        have HOW := Lib.hid hown
        have HOF := Lib.hid hof
        clear hyi hmem hrk hst e3 e4 hle hown hof
        go_wp2_with fail
        refine (below12_any P x _ (by omega)).mono ?_
        rintro e wC ⟨rfl, hoC⟩
        clear hcx hg
        go_wp2_with fail
        refine (HIH.out (belowP P x) wC HOKX.out (by have := HLS.out; have := HLT.out; have := HLA.out; omega) (HOFF.out.trans_nil (HOF.out.trans_nil hoC)) (by omega)).mono ?_
        rintro e wD ⟨vD, rfl, hownD, hofD⟩
        obtain ⟨pD, cD, rfl, hrD, -, -, hnD⟩ := own_all hownD
        have hofD' := HOF.out.trans_nil (hoC.trans_nil hofD)
        have hownE := ownsRow_off HOW.out (hoC.trans_nil hofD)
        have HKD := Lib.hid (hks.trans (KeepS.off (hoC.trans_nil hofD)))
        obtain ⟨M, hM⟩ : ∃ M, (agreeW f o a b (belowP P x)).length = M := ⟨_, rfl⟩
        rw [hM] at hle2 hownD ⊢
        have HM := Lib.hid hM
        have HC := Lib.hid (fun (ad : Addr) (hp : pD = some ad) (j : Nat) (u : Value) (hj : (cellsOf (agreeW f o a b (belowP P x)))[j]? = some u) => (hp ▸ hrD : Row wD (some ad) _).cells hj)
        have HO := Lib.hid (cellsOf_one (t := agreeW f o a b (belowP P x)))
        have HCL := Lib.hid (show (cellsOf (agreeW f o a b (belowP P x))).length = M * 4 by rw [cellsOf_len, HM.out])
        have HNM := Lib.hid (show pD = none → M = 0 ∧ cD = 0 from fun h => ⟨by rw [← hM, (hnD h).1]; rfl, (hnD h).2⟩)
        have hszD := hofD'.size
        obtain ⟨FL, hFL⟩ : ∃ FL, (([] : List Node) ++ (NN.take i).flatMap fun x => agreeW f o a b (belowP P x)).length = FL := ⟨_, rfl⟩
        rw [hFL] at hownE hle2
        have HFL := Lib.hid hFL
        clear hoC hofD hownD hrD hnD hM hFL HOW HOF hks
        go_wp2_with (at_builtin; refine wpList_append_src _ rfl _ _ 22 rfl w.heap.size 40 i0 node0.val 4 48 Tryz.underlying22 hi0 hz0 hz1 hz2 rfl (by decide) _ _ _ rfl hownE pD M cD (cellsOf (agreeW f o a b (belowP P x))) rfl HCL.out HC.out HNM.out HO.out (by unfold maxLen; omega) (by omega) hszD ?_; intro v' W6 hown' hgrow)
        refine ⟨⟨i + 1, by congr 1, by omega, ?_, own_grown hofD' hownE hgrow, HKD.out.trans (KeepS.grown hownE (by decide) hgrow)⟩, by simp only [intOf]; omega⟩
        rw [HFT.out, ← List.append_assoc, List.length_append, cellsOf_append, HFL.out, HM.out]
        exact hown'
      · obtain rfl : i = K := by omega
        have e0 : NN.take i = NN := List.take_of_length_le (by rw [HK.out]; exact Nat.le_refl _)
        rw [e0, ← E.out] at hown
        go_wp2_with fail
        go_ret
        exact ⟨_, rfl, hown, hof⟩
  · have E := Lib.hid (show agreeW (f + 1) o a b P = [(⟨P, 2, ⟨#[]⟩, 0⟩ : Node)] ++ (namesV (vwAt o a b P)).flatMap fun x => agreeW f o a b (belowP P x) by rw [E0.out, if_neg h0])
    obtain ⟨g1, g1'⟩ := str_notEmpty h0
    clear h0 E0
    have HNIL := Lib.hid (show ∀ W : World, W.ownsRow w.heap.size 40 4 (.slice none 0 0) 0 [] from fun W => ⟨rfl, .inl ⟨rfl, rfl⟩⟩)
    have hszA := HWA.out.size
    go_wp2_with (at_builtin; refine wpList_append_own _ rfl _ _ 22 rfl w.heap.size 40 i0 node0.val 4 48 Tryz.underlying22 hi0 hz0 hz1 hz2 rfl (by decide) _ _ _ rfl (HNIL.out _) ⟨_, 0, none⟩ 1 1 [_, _, _, _] rfl rfl (four_at (Blk.new _ _ _)) (by simp [Value.oneCell']) (by unfold maxLen; omega) (by omega) (by simp; omega) ?_; intro zq wq hownQ hgrow _)
    have HWQ := Lib.hid (own_grown (HWA.out.alloc _) (HNIL.out _) hgrow)
    have hownQ : wq.ownsRow w.heap.size 40 4 zq [(⟨P, 2, ⟨#[]⟩, 0⟩ : Node)].length (cellsOf [(⟨P, 2, ⟨#[]⟩, 0⟩ : Node)]) := hownQ
    clear hgrow HNIL
    have hz0' := HOFF.out.trans_nil HWQ.out
    refine (HNO.out _ hz0').mono ?_
    rintro e w7 ⟨vx, rfl, hrx, ho7⟩
    obtain ⟨p1, c1, rfl, hs1⟩ := StrA.own hrx
    have hl1 : (namesR o (str P)).length ≤ 1001 := Nat.le_trans (namesR_len _ _) (by have := okTree_len HTR.out.o; omega)
    obtain ⟨n1, hn1⟩ : ∃ n1, (namesR o (str P)).length = n1 := ⟨_, rfl⟩
    rw [hn1] at hl1 hs1 ⊢
    have HS1 := Lib.hid hs1
    clear hrx hs1 hn1
    go_wp2_with fail
    refine (HNA.out _ (hz0'.trans_nil ho7)).mono ?_
    rintro e w8 ⟨vy, rfl, hry, ho8⟩
    obtain ⟨p2, c2, rfl, hs2⟩ := StrA.own hry
    have hl2 : (namesR a (str P)).length ≤ 1001 := Nat.le_trans (namesR_len _ _) (by have := okTree_len HTR.out.a; omega)
    obtain ⟨n2, hn2⟩ : ∃ n2, (namesR a (str P)).length = n2 := ⟨_, rfl⟩
    rw [hn2] at hl2 hs2 ⊢
    have HS2 := Lib.hid hs2
    have HS1' := Lib.hid (HS1.out.off ho8)
    have ho78 := ho7.trans_nil ho8
    clear hry hs2 hn2 ho7 ho8 HS1
    go_wp2_with fail
    refine (HNB.out _ (hz0'.trans_nil ho78)).mono ?_
    rintro e w9 ⟨vz, rfl, hrz, ho9⟩
    obtain ⟨p3, c3, rfl, hs3⟩ := StrA.own hrz
    have hl3 : (namesR b (str P)).length ≤ 1001 := Nat.le_trans (namesR_len _ _) (by have := okTree_len HTR.out.b; omega)
    obtain ⟨n3, hn3⟩ : ∃ n3, (namesR b (str P)).length = n3 := ⟨_, rfl⟩
    rw [hn3] at hl3 hs3 ⊢
    have HS3 := Lib.hid hs3
    have HS12 := Lib.hid (And.intro (HS1'.out.off ho9) (HS2.out.off ho9))
    have ho79 := ho78.trans_nil ho9
    clear hrz hs3 hn3 ho78 ho9 HS1' HS2
    go_wp2_with fail
    refine (names12_any p1 p2 p3 _ _ _ n1 n2 n3 c1 c2 c3 w9 HS12.out.1 HS12.out.2 HS3.out hl1 hl2 hl3).mono ?_
    rintro e wA ⟨vn, NN, rfl, hrise, hmem, hNl, hrn, hoA⟩
    have hNN : NN = namesV (vwAt o a b P) := names_same hrise (fun x => by
      rw [hmem x]
      show _ ↔ x ∈ inV (atR o (str P)) ∨ x ∈ inV (atR a (str P)) ∨ x ∈ inV (atR b (str P))
      rw [in_at HTR.out.o HP.out, in_at HTR.out.a HP.out, in_at HTR.out.b HP.out])
    rw [← hNN] at E
    obtain ⟨pn, cn, rfl, -⟩ := StrA.own hrn
    have HRN := Lib.hid hrn
    have HNN := Lib.hid hNN
    obtain ⟨K, hK⟩ : ∃ K, NN.length = K := ⟨_, rfl⟩
    rw [hK] at hNl ⊢
    have HK := Lib.hid hK
    have HWB := Lib.hid ((HWQ.out.trans_nil ho79).trans_nil hoA)
    have hownB := ownsRow_off hownQ (ho79.trans_nil hoA)
    have HTL := Lib.hid (show ([(⟨P, 2, ⟨#[]⟩, 0⟩ : Node)]).length + (NN.flatMap fun x => agreeW f o a b (belowP P x)).length ≤ 1000000000 by rw [← List.length_append, ← E.out]; exact HLEN.out)
    clear hrise hmem hrn hNN hK ho79 hoA hz0' HS12 HS3 HWQ HLEN hownQ
    go_wp2_with fail
    go_loopw [13, 11] (fun y z wr => ∃ i : Nat, y = .int .i64 i ∧ i ≤ K ∧ wr.ownsRow w.heap.size 40 4 z ([(⟨P, 2, ⟨#[]⟩, 0⟩ : Node)] ++ (NN.take i).flatMap fun x => agreeW f o a b (belowP P x)).length (cellsOf ([(⟨P, 2, ⟨#[]⟩, 0⟩ : Node)] ++ (NN.take i).flatMap fun x => agreeW f o a b (belowP P x))) ∧ Off [] w wr ∧ KeepS wA wr) (fun y _ _ => K - (intOf y).toNat)
    case atStart => exact ⟨0, rfl, by omega, by simpa using hownB, HWB.out, KeepS.refl _⟩
    case round =>
      clear hownB
      obtain ⟨i, rfl, hi, hown, hof, hks⟩ := hrel
      by_cases hiK : i < K
      · have hil : i < NN.length := by rw [HK.out]; exact hiK
        have hyi := List.getElem?_eq_getElem hil
        have hmem : NN[i] ∈ namesV (vwAt o a b P) := by rw [← HNN.out]; exact List.getElem_mem hil
        generalize NN[i] = x at *
        have hrk := own_strsK HRN.out hks
        obtain ⟨pn2, cn2, e2, hst⟩ := StrA.own hrk
        injection e2 with e2 e3 e4
        subst e2
        obtain ⟨g, rfl, hg, hcx⟩ := hst.strs i x hyi
        have HFT := Lib.hid (flatX_take (f := fun x => agreeW f o a b (belowP P x)) hyi)
        have hle := flatX_le (f := fun x => agreeW f o a b (belowP P x)) NN (i + 1)
        have hle2 : ([(⟨P, 2, ⟨#[]⟩, 0⟩ : Node)] ++ (NN.take i).flatMap fun x => agreeW f o a b (belowP P x)).length + (agreeW f o a b (belowP P x)).length ≤ 1000000000 := by
          rw [flatX_take hyi, List.length_append] at hle
          rw [List.length_append]
          have := HTL.out
          omega
        have hxsz := namesV_size hmem
        have HOKX := Lib.hid (below_okP HTR.out HP.out hmem)
        have HLS := Lib.hid (below_less HTR.out HP.out HD.out hmem)
        have HOW := Lib.hid hown
        have HOF := Lib.hid hof
        clear hyi hmem hrk hst e3 e4 hle hown hof
        go_wp2_with fail
        refine (below12_any P x _ (by omega)).mono ?_
        rintro e wC ⟨rfl, hoC⟩
        clear hcx hg
        go_wp2_with fail
        refine (HIH.out (belowP P x) wC HOKX.out (by have := HLS.out; have := HLT.out; have := HLA.out; omega) (HOFF.out.trans_nil (HOF.out.trans_nil hoC)) (by omega)).mono ?_
        rintro e wD ⟨vD, rfl, hownD, hofD⟩
        obtain ⟨pD, cD, rfl, hrD, -, -, hnD⟩ := own_all hownD
        have hofD' := HOF.out.trans_nil (hoC.trans_nil hofD)
        have hownE := ownsRow_off HOW.out (hoC.trans_nil hofD)
        have HKD := Lib.hid (hks.trans (KeepS.off (hoC.trans_nil hofD)))
        obtain ⟨M, hM⟩ : ∃ M, (agreeW f o a b (belowP P x)).length = M := ⟨_, rfl⟩
        rw [hM] at hle2 hownD ⊢
        have HM := Lib.hid hM
        have HC := Lib.hid (fun (ad : Addr) (hp : pD = some ad) (j : Nat) (u : Value) (hj : (cellsOf (agreeW f o a b (belowP P x)))[j]? = some u) => (hp ▸ hrD : Row wD (some ad) _).cells hj)
        have HO := Lib.hid (cellsOf_one (t := agreeW f o a b (belowP P x)))
        have HCL := Lib.hid (show (cellsOf (agreeW f o a b (belowP P x))).length = M * 4 by rw [cellsOf_len, HM.out])
        have HNM := Lib.hid (show pD = none → M = 0 ∧ cD = 0 from fun h => ⟨by rw [← hM, (hnD h).1]; rfl, (hnD h).2⟩)
        have hszD := hofD'.size
        obtain ⟨FL, hFL⟩ : ∃ FL, ([(⟨P, 2, ⟨#[]⟩, 0⟩ : Node)] ++ (NN.take i).flatMap fun x => agreeW f o a b (belowP P x)).length = FL := ⟨_, rfl⟩
        rw [hFL] at hownE hle2
        have HFL := Lib.hid hFL
        clear hoC hofD hownD hrD hnD hM hFL HOW HOF hks
        go_wp2_with (at_builtin; refine wpList_append_src _ rfl _ _ 22 rfl w.heap.size 40 i0 node0.val 4 48 Tryz.underlying22 hi0 hz0 hz1 hz2 rfl (by decide) _ _ _ rfl hownE pD M cD (cellsOf (agreeW f o a b (belowP P x))) rfl HCL.out HC.out HNM.out HO.out (by unfold maxLen; omega) (by omega) hszD ?_; intro v' W6 hown' hgrow)
        refine ⟨⟨i + 1, by congr 1, by omega, ?_, own_grown hofD' hownE hgrow, HKD.out.trans (KeepS.grown hownE (by decide) hgrow)⟩, by simp only [intOf]; omega⟩
        rw [HFT.out, ← List.append_assoc, List.length_append, cellsOf_append, HFL.out, HM.out]
        exact hown'
      · obtain rfl : i = K := by omega
        have e0 : NN.take i = NN := List.take_of_length_le (by rw [HK.out]; exact Nat.le_refl _)
        rw [e0, ← E.out] at hown
        go_wp2_with fail
        go_ret
        exact ⟨_, rfl, hown, hof⟩
theorem agr_any (po pa pb : Option Addr) (no na nb co ca cb : Nat) (o a b : List Node) (w0 : World) (hTR : Trees o a b) (hA3 : Args3 w0 po pa pb no na nb co ca cb o a b) : ∀ (f : Nat) (P : ByteArray) (w : World), okP P → (atR a (str P)).length < f → Off [] w0 w → (agreeW f o a b P).length ≤ 1000000000 →
    Calls Tryz.prog 24 #[.slice po no co, .slice pa na ca, .slice pb nb cb, .string P] w (OwnT (agreeW f o a b P) w)
  | 0, _, _, _, h, _, _ => absurd h (by omega)
  | f + 1, P, w, h1, h2, h3, h4 => agr_step f po pa pb no na nb co ca cb o a b w0 hTR hA3 (agr_any po pa pb no na nb co ca cb o a b w0 hTR hA3 f) P w h1 h2 h3 h4
set_option maxRecDepth 100000 in
theorem small12_any (po pa pb : Option Addr) (no na nb co ca cb : Nat) (w : World) (b : Bool) (hb : (decide (no ≤ 60) && (decide (na ≤ 60) && decide (nb ≤ 60))) = b) :
    Calls Tryz.prog 6 #[.agg #[.slice po no co, .slice pa na ca, .slice pb nb cb]] w fun e w' => e = .returned (.bool b) ∧ Off [] w w' := by
  by_cases h1 : no ≤ 60
  · have k1 : decide ((no : Int) ≤ 60) = true := decide_eq_true (by omega)
    have j1 : (no : Int) ≤ 60 := by omega
    by_cases h2 : na ≤ 60
    · have k2 : decide ((na : Int) ≤ 60) = true := decide_eq_true (by omega)
      have j2 : (na : Int) ≤ 60 := by omega
      by_cases h3 : nb ≤ 60
      · have k3 : decide ((nb : Int) ≤ 60) = true := decide_eq_true (by omega)
        have j3 : (nb : Int) ≤ 60 := by omega
        have HB := Lib.hid (show b = true by rw [← hb, decide_eq_true h1, decide_eq_true h2, decide_eq_true h3]; rfl)
        clear hb h1 h2 h3
        go_enter Tryz.func6, Tryz.ntmps6
        go_wp2_with fail
        go_ret
        exact ⟨by rw [HB.out]; rfl, (Off.refl _ _).alloc _⟩
      · have k3 : decide ((nb : Int) ≤ 60) = false := decide_eq_false (by omega)
        have j3 : ¬ (nb : Int) ≤ 60 := by omega
        have HB := Lib.hid (show b = false by rw [← hb, decide_eq_true h1, decide_eq_true h2, decide_eq_false h3]; rfl)
        clear hb h1 h2 h3
        go_enter Tryz.func6, Tryz.ntmps6
        go_wp2_with fail
        go_ret
        exact ⟨by rw [HB.out]; rfl, (Off.refl _ _).alloc _⟩
    · have k2 : decide ((na : Int) ≤ 60) = false := decide_eq_false (by omega)
      have j2 : ¬ (na : Int) ≤ 60 := by omega
      have HB := Lib.hid (show b = false by rw [← hb, decide_eq_true h1, decide_eq_false h2]; rfl)
      clear hb h1 h2
      go_enter Tryz.func6, Tryz.ntmps6
      go_wp2_with fail
      go_ret
      exact ⟨by rw [HB.out]; rfl, (Off.refl _ _).alloc _⟩
  · have k1 : decide ((no : Int) ≤ 60) = false := decide_eq_false (by omega)
    have j1 : ¬ (no : Int) ≤ 60 := by omega
    have HB := Lib.hid (show b = false by rw [← hb, decide_eq_false h1]; rfl)
    clear hb h1
    go_enter Tryz.func6, Tryz.ntmps6
    go_wp2_with fail
    go_ret
    exact ⟨by rw [HB.out]; rfl, (Off.refl _ _).alloc _⟩
/-- no string in them is long -/
structure Fit3 (o a b : List Node) : Prop where
  o : Fits1 o
  a : Fits1 a
  b : Fits1 b
theorem rchk (p : Option Addr) (t : List Node) (n c : Nat) (w : World) (h : Arg w p n c t) (hb : n ≤ 1099511627776) (hF : Fits1 t) (k : Int) (hk : chkV t = k) :
    Calls Tryz.prog 37 #[.slice p n c] w fun e w' => e = .returned (.int .i64 k) ∧ Off [] w w' := rcheck_v p t n c w h.row h.len hb hF k hk
set_option maxRecDepth 100000 in
theorem trees12_any (po pa pb : Option Addr) (no na nb co ca cb : Nat) (o a b : List Node) (w : World) (hA3 : Args3 w po pa pb no na nb co ca cb o a b) (hF : Fit3 o a b) (bo : no ≤ 1099511627776) (ba : na ≤ 1099511627776) (bb : nb ≤ 1099511627776) (v : Bool) (hv : okThree o a b = v) :
    Calls Tryz.prog 21 #[.slice po no co, .slice pa na ca, .slice pb nb cb] w fun e w' => e = .returned (.bool v) ∧ Off [] w w' := by
  have HO := Lib.hid (fun (W : World) (ho : Off [] w W) => rchk po o no co W (hA3.off ho).o bo hF.o)
  have HA := Lib.hid (fun (W : World) (ho : Off [] w W) => rchk pa a na ca W (hA3.off ho).a ba hF.a)
  have HB := Lib.hid (fun (W : World) (ho : Off [] w W) => rchk pb b nb cb W (hA3.off ho).b bb hF.b)
  clear hA3 hF
  cases h1 : okTree o
  · have H1 := Lib.hid (chkV_bad h1)
    have HV := Lib.hid (show v = false by rw [← hv]; unfold okThree; rw [h1]; rfl)
    clear h1 hv
    go_enter Tryz.func21, Tryz.ntmps21
    go_wp2_with fail
    refine (HO.out _ (Off.refl _ _) _ H1.out).mono ?_
    rintro e w1 ⟨rfl, ho1⟩
    go_wp2_with fail
    go_ret
    exact ⟨by rw [HV.out]; rfl, ho1⟩
  cases h2 : okTree a
  · have H1 := Lib.hid (chkV_ok h1)
    have H2 := Lib.hid (chkV_bad h2)
    have HV := Lib.hid (show v = false by rw [← hv]; unfold okThree; rw [h1, h2]; rfl)
    clear h1 h2 hv
    go_enter Tryz.func21, Tryz.ntmps21
    go_wp2_with fail
    refine (HO.out _ (Off.refl _ _) _ H1.out).mono ?_
    rintro e w1 ⟨rfl, ho1⟩
    go_wp2_with fail
    refine (HA.out _ ho1 _ H2.out).mono ?_
    rintro e w2 ⟨rfl, ho2⟩
    go_wp2_with fail
    go_ret
    exact ⟨by rw [HV.out]; rfl, ho1.trans_nil ho2⟩
  have H1 := Lib.hid (chkV_ok h1)
  have H2 := Lib.hid (chkV_ok h2)
  cases h3 : okTree b
  · have H3 := Lib.hid (chkV_bad h3)
    have HV := Lib.hid (show v = false by rw [← hv]; unfold okThree; rw [h1, h2, h3]; rfl)
    clear h1 h2 h3 hv
    go_enter Tryz.func21, Tryz.ntmps21
    go_wp2_with fail
    refine (HO.out _ (Off.refl _ _) _ H1.out).mono ?_
    rintro e w1 ⟨rfl, ho1⟩
    go_wp2_with fail
    refine (HA.out _ ho1 _ H2.out).mono ?_
    rintro e w2 ⟨rfl, ho2⟩
    have ho1 := ho1.trans_nil ho2
    go_wp2_with fail
    refine (HB.out _ ho1 _ H3.out).mono ?_
    rintro e w3 ⟨rfl, ho3⟩
    go_wp2_with fail
    go_ret
    exact ⟨by rw [HV.out]; rfl, ho1.trans_nil ho3⟩
  · have H3 := Lib.hid (chkV_ok h3)
    have HV := Lib.hid (show v = true by rw [← hv]; unfold okThree; rw [h1, h2, h3]; rfl)
    clear h1 h2 h3 hv
    go_enter Tryz.func21, Tryz.ntmps21
    go_wp2_with fail
    refine (HO.out _ (Off.refl _ _) _ H1.out).mono ?_
    rintro e w1 ⟨rfl, ho1⟩
    go_wp2_with fail
    refine (HA.out _ ho1 _ H2.out).mono ?_
    rintro e w2 ⟨rfl, ho2⟩
    have ho1 := ho1.trans_nil ho2
    go_wp2_with fail
    refine (HB.out _ ho1 _ H3.out).mono ?_
    rintro e w3 ⟨rfl, ho3⟩
    go_wp2_with fail
    go_ret
    exact ⟨by rw [HV.out]; rfl, ho1.trans_nil ho3⟩
theorem trees_of {o a b : List Node} (h : okThree o a b = true) : Trees o a b := by
  unfold okThree at h
  simp only [Bool.and_eq_true] at h
  exact ⟨h.1, h.2.1, h.2.2⟩
theorem okP_root : okP ⟨#[]⟩ := .inl rfl
set_option maxRecDepth 100000 in
theorem ritems_any (po pa pb : Option Addr) (no na nb co ca cb : Nat) (o a b : List Node) (w : World) (hA3 : Args3 w po pa pb no na nb co ca cb o a b) (hF : Fit3 o a b) (bo : no ≤ 1099511627776) (ba : na ≤ 1099511627776) (bb : nb ≤ 1099511627776)
    (L : List It) (code : Int) (hL : (okThree o a b = true ∧ L = itemsV 2000 (rootV o a b) ∧ code = 0) ∨ (okThree o a b = false ∧ L = [] ∧ code = 60)) :
    Calls Tryz.prog 8 #[.slice po no co, .slice pa na ca, .slice pb nb cb] w (ItemsE L code w) := by
  have HT := Lib.hid (fun v hv => trees12_any po pa pb no na nb co ca cb o a b w hA3 hF bo ba bb v hv)
  rcases hL with ⟨hk, rfl, rfl⟩ | ⟨hk, rfl, rfl⟩
  · have hTR := trees_of hk
    have hal : (atR a (str ⟨#[]⟩)).length < 2000 := by
      have h1 := @atR_len a (str ⟨#[]⟩)
      omega
    have hlen : ([] : List It).length + (itemsV 2000 (vwAt o a b ⟨#[]⟩)).length ≤ 1000000000 := by
      rw [← vw_root hTR]
      have := (items_bound hk).1
      simp only [List.length_nil]; omega
    have HLK := Lib.hid (fun (W : World) (ho : Off [] w W) => look_any po pa pb no na nb co ca cb o a b w hTR hA3 2000 ⟨#[]⟩ (.slice none 0 0) [] W okP_root hal ho ⟨rfl, .inl ⟨rfl, rfl⟩⟩ hlen)
    have HK := Lib.hid hk
    have HVR := Lib.hid (vw_root hTR)
    clear hA3 hF hk hTR hal hlen
    go_enter Tryz.func8, Tryz.ntmps8
    go_wp2_with fail
    refine (HT.out _ HK.out).mono ?_
    rintro e w1 ⟨rfl, ho1⟩
    go_wp2_with fail
    refine (HLK.out _ ho1).mono ?_
    rintro e w2 ⟨v, rfl, hown, hof, -⟩
    go_wp2_with fail
    go_ret2
    rw [HVR.out]
    exact ⟨_, rfl, hown, hof⟩
  · have HK := Lib.hid hk
    clear hA3 hF hk
    go_enter Tryz.func8, Tryz.ntmps8
    go_wp2_with fail
    refine (HT.out _ HK.out).mono ?_
    rintro e w1 ⟨rfl, ho1⟩
    go_wp2_with fail
    go_ret2
    exact ⟨_, rfl, ⟨rfl, .inl ⟨rfl, rfl⟩⟩, ho1⟩
theorem agreeW_root {o a b : List Node} (h : Trees o a b) (f : Nat) : agreeW f o a b ⟨#[]⟩ = (agreedV f (rootV o a b)).tail := by
  rw [vw_root h]
  unfold agreeW
  rw [if_pos (show str ⟨#[]⟩ = [] from rfl)]
set_option maxRecDepth 100000 in
theorem ragree_any (po pa pb : Option Addr) (no na nb co ca cb : Nat) (o a b : List Node) (w : World) (hA3 : Args3 w po pa pb no na nb co ca cb o a b) (hF : Fit3 o a b) (bo : no ≤ 1099511627776) (ba : na ≤ 1099511627776) (bb : nb ≤ 1099511627776)
    (T : List Node) (code : Int) (hL : (okThree o a b = true ∧ T = (agreedV 2000 (rootV o a b)).tail ∧ code = 0) ∨ (okThree o a b = false ∧ T = [] ∧ code = 60)) :
    Calls Tryz.prog 10 #[.slice po no co, .slice pa na ca, .slice pb nb cb] w (AgreeE T code w) := by
  have HT := Lib.hid (fun v hv => trees12_any po pa pb no na nb co ca cb o a b w hA3 hF bo ba bb v hv)
  rcases hL with ⟨hk, rfl, rfl⟩ | ⟨hk, rfl, rfl⟩
  · have hTR := trees_of hk
    have hal : (atR a (str ⟨#[]⟩)).length < 2000 := by
      have h1 := @atR_len a (str ⟨#[]⟩)
      omega
    have hlen : (agreeW 2000 o a b ⟨#[]⟩).length ≤ 1000000000 := by
      rw [agreeW_root hTR, List.length_tail]
      have := (items_bound hk).2
      omega
    have HLK := Lib.hid (fun (W : World) (ho : Off [] w W) => agr_any po pa pb no na nb co ca cb o a b w hTR hA3 2000 ⟨#[]⟩ W okP_root hal ho hlen)
    have HK := Lib.hid hk
    have HVR := Lib.hid (agreeW_root hTR 2000)
    clear hA3 hF hk hTR hal hlen
    go_enter Tryz.func10, Tryz.ntmps10
    go_wp2_with fail
    refine (HT.out _ HK.out).mono ?_
    rintro e w1 ⟨rfl, ho1⟩
    go_wp2_with fail
    refine (HLK.out _ ho1).mono ?_
    rintro e w2 ⟨v, rfl, hown, hof⟩
    have hsl : Sl w2 v (agreeW 2000 o a b ⟨#[]⟩) := own_all hown
    go_wp2_with fail
    go_ret2
    rw [← HVR.out]
    exact ⟨_, rfl, hsl, ho1.trans_nil hof⟩
  · have HK := Lib.hid hk
    clear hA3 hF hk
    go_enter Tryz.func10, Tryz.ntmps10
    go_wp2_with fail
    refine (HT.out _ HK.out).mono ?_
    rintro e w1 ⟨rfl, ho1⟩
    go_wp2_with fail
    go_ret2
    exact ⟨_, rfl, Sl.none, ho1⟩
set_option maxRecDepth 100000 in
set_option maxHeartbeats 4000000 in
theorem rsame12i_any (L : List It) (p q : Option Addr) (n c d b1 b2 : Nat) (w : World) (hn : L.length = n) (hl : n ≤ 1000000000) (h1 : w.ownsRow b1 42 2 (.slice p n c) n (itCells L)) (h2 : w.ownsRow b2 42 2 (.slice q n d) n (itCells L)) :
    Calls Tryz.prog 11 #[.slice p n c, .slice q n d] w fun e w' => e = .returned (.bool true) ∧ Off [] w w' := by
  have HO1 := Lib.hid h1
  have HO2 := Lib.hid h2
  have HL := Lib.hid hn
  clear h1 h2 hn
  go_enter Tryz.func11, Tryz.ntmps11
  go_wp2_with fail
  go_loopw [5] (fun y wr => ∃ i : Nat, y = .int .i64 i ∧ i ≤ n ∧ Off [] w wr) (fun y _ => n - (intOf y).toNat)
  case atStart => exact ⟨0, rfl, by omega, Off.refl _ _⟩
  case round =>
    obtain ⟨i, rfl, hi, ho⟩ := hrel
    by_cases hlt : i < n
    · obtain ⟨x, hx⟩ : ∃ x, L[i]? = some x := ⟨_, List.getElem?_eq_getElem (show i < L.length by rw [HL.out]; exact hlt)⟩
      obtain ⟨g, rfl, hgl, e1, e2⟩ := own_it (own_keepG HO1.out ho) hx HL.out
      obtain ⟨g', rfl, hgl', e3, e4⟩ := own_it (own_keepG HO2.out ho) hx HL.out
      have hgd : Tryz.prog.eqGuardType Tryz.prog.depth 42 = false := by kernel_rfl
      have heq := eqIt_same x x rfl
      clear hx
      go_wp2_with fail
      go_quiet (fail)
      go_wp2_with fail
      refine ⟨⟨i + 1, by congr 1, by omega, ho.drewN _⟩, by simp only [intOf]; omega⟩
    · obtain rfl : i = n := by omega
      go_wp2_with fail
      go_ret
      exact ⟨rfl, ho⟩
/-! ### an invariant of the operations that have come up -/
section
variable {P : Program} {md : Region.Mode} {ops : Array Oper} {Q : Exit → Act → World → Prop}
theorem count_set : ∀ {L : List Bool} {i : Nat}, L[i]? = some false → (L.set i true).count false + 1 = L.count false
  | [], _, h => by simp at h
  | b :: L, 0, h => by
    simp at h
    subst h
    simp
  | b :: L, i + 1, h => by
    have h' : L[i]? = some false := by simpa using h
    have := count_set h'
    rw [List.set_cons_succ, List.count_cons, List.count_cons]
    omega
theorem wpAny_inv (Inv : Array Bool → Act → World → Prop)
    (hend : ∀ L a w, Inv L a w → Region.ready md ops L = [] → Q .normal a w)
    (hstep : ∀ L a w i, Inv L a w → i ∈ Region.ready md ops L → wpOp P ops Q i (fun a' w' => Inv (L.setIfInBounds i true) a' w') a w)
    : ∀ (fuel : Nat) (L : Array Bool) (a : Act) (w : World), Inv L a w → L.toList.count false ≤ fuel → wpAny P md ops Q fuel L a w := by
  have key : ∀ {L : Array Bool} {i : Nat}, i ∈ Region.ready md ops L → L.toList[i]? = some false := fun {L i} hi => by
    have h := (mem_ready.1 hi).1
    rcases Nat.lt_or_ge i L.size with h1 | h1
    · rw [Array.getD_eq_getD_getElem?, Array.getElem?_eq_getElem h1] at h
      simp at h
      simp [h1, h]
    · rw [Array.getD_eq_getD_getElem?, Array.getElem?_eq_none h1] at h
      simp at h
  intro fuel
  induction fuel with
  | zero =>
    intro L a w hI hc
    have hr : Region.ready md ops L = [] := by
      refine List.eq_nil_iff_forall_not_mem.2 fun i hi => ?_
      have := count_set (key hi)
      omega
    exact ⟨hr, hend L a w hI hr⟩
  | succ fuel ih =>
    intro L a w hI hc
    refine ⟨hend L a w hI, fun i hi => wpOp_mono (fun a' w' h => ih _ a' w' h ?_) (hstep L a w i hI hi)⟩
    have := count_set (key hi)
    rw [Array.toList_setIfInBounds]
    omega
theorem wpOp_go {i : Nat} {o : Oper} {K : Act → World → Prop} {a : Act} {w : World} (ho : ops[i]? = some o) (hg : o.guard = none) (h : o.wp P a w K Q) : wpOp P ops Q i K a w := by
  unfold wpOp
  simp only [ho]
  have hw : Region.wanted o (yielded ops a.tmps) = true := by simp [Region.wanted, hg]
  rw [if_pos hw]
  exact .inl h
end
/-- a frame with other values in some slots -/
def inS (k : Nat) : Bool := k == 3 || (decide (18 ≤ k) && decide (k ≤ 30))
def slotV (T : Act) (V : Nat → Value) : Act := { T with tmps := Array.ofFn (n := T.tmps.size) fun k => if inS k.val = true then V k.val else T.tmps[k] }
def upV (V : Nat → Value) (k : Nat) (v : Value) : Nat → Value := fun j => if j = k then v else V j
theorem upV_eq (V : Nat → Value) (k : Nat) (v : Value) (j : Nat) : upV V k v j = if j = k then v else V j := rfl
theorem slotV_size (T : Act) (V : Nat → Value) : (slotV T V).tmps.size = T.tmps.size := by unfold slotV; simp
theorem slotV_get {T : Act} {V : Nat → Value} {k : Nat} (hk : inS k = true) (hs : k < T.tmps.size) : (slotV T V).tmps.getD k undef = V k := by
  unfold slotV
  rw [Array.getD_eq_getD_getElem?, Array.getElem?_eq_getElem (by simpa using hs)]
  simp [hk]
theorem slotV_get' {T : Act} {V : Nat → Value} {k : Nat} (hk : inS k = false) : (slotV T V).tmps.getD k undef = T.tmps.getD k undef := by
  unfold slotV
  rcases Nat.lt_or_ge k T.tmps.size with h | h
  · rw [Array.getD_eq_getD_getElem?, Array.getElem?_eq_getElem (by simpa using h), Array.getD_eq_getD_getElem?, Array.getElem?_eq_getElem h]
    simp [hk]
  · rw [Array.getD_eq_getD_getElem?, Array.getElem?_eq_none (by simpa using h), Array.getD_eq_getD_getElem?, Array.getElem?_eq_none h]
theorem act_ext {a b : Act} (h1 : a.tmps = b.tmps) (h2 : a.defers = b.defers) : a = b := by cases a; cases b; simp_all
theorem slotV_put {T : Act} {V : Nat → Value} {k : Nat} {v : Value} (hk : inS k = true) : (slotV T V).put (some k) v = slotV T (upV V k v) := by
  refine act_ext (Array.ext_getElem? fun j => ?_) rfl
  show ((slotV T V).tmps.setIfInBounds k v)[j]? = (slotV T (upV V k v)).tmps[j]?
  rw [Array.getElem?_setIfInBounds]
  unfold slotV upV
  by_cases hj : k = j
  · subst hj
    rw [if_pos rfl]
    rcases Nat.lt_or_ge k T.tmps.size with h | h
    · rw [if_pos (by simpa using h), Array.getElem?_eq_getElem (by simpa using h)]
      simp [hk]
    · rw [if_neg (by simpa using h), Array.getElem?_eq_none (by simpa using h)]
  · rw [if_neg hj]
    rcases Nat.lt_or_ge j T.tmps.size with h | h
    · rw [Array.getElem?_eq_getElem (by simpa using h), Array.getElem?_eq_getElem (by simpa using h)]
      simp
      rw [if_neg (fun e : j = k => hj e.symm)]
    · rw [Array.getElem?_eq_none (by simpa using h), Array.getElem?_eq_none (by simpa using h)]
theorem slotV_congr {T : Act} {V V' : Nat → Value} (h : ∀ k, inS k = true → V k = V' k) : slotV T V = slotV T V' := by
  refine act_ext (Array.ext_getElem? fun j => ?_) rfl
  unfold slotV
  rcases Nat.lt_or_ge j T.tmps.size with h1 | h1
  · rw [Array.getElem?_eq_getElem (by simpa using h1), Array.getElem?_eq_getElem (by simpa using h1)]
    simp
    split
    · rename_i hj; exact h j hj
    · rfl
  · rw [Array.getElem?_eq_none (by simpa using h1), Array.getElem?_eq_none (by simpa using h1)]
theorem slotV_start (T : Act) : slotV T (fun k => T.tmps.getD k undef) = T := by
  refine act_ext (Array.ext_getElem? fun j => ?_) rfl
  unfold slotV
  rcases Nat.lt_or_ge j T.tmps.size with h | h
  · rw [Array.getElem?_eq_getElem (by simpa using h), Array.getElem?_eq_getElem h]
    simp
  · rw [Array.getElem?_eq_none (by simpa using h), Array.getElem?_eq_none h]
theorem slotV_lit {T : Act} (V : Nat → Value) : slotV T V = ((((((((((((((T.put (some 3) (V 3)).put (some 18) (V 18)).put (some 19) (V 19)).put (some 20) (V 20)).put (some 21) (V 21)).put (some 22) (V 22)).put (some 23) (V 23)).put (some 24) (V 24)).put (some 25) (V 25)).put (some 26) (V 26)).put (some 27) (V 27)).put (some 28) (V 28)).put (some 29) (V 29)).put (some 30) (V 30)) := by
  conv => rhs; rw [← slotV_start T]
  rw [slotV_put (show inS 3 = true from rfl), slotV_put (show inS 18 = true from rfl), slotV_put (show inS 19 = true from rfl), slotV_put (show inS 20 = true from rfl), slotV_put (show inS 21 = true from rfl), slotV_put (show inS 22 = true from rfl), slotV_put (show inS 23 = true from rfl), slotV_put (show inS 24 = true from rfl), slotV_put (show inS 25 = true from rfl), slotV_put (show inS 26 = true from rfl), slotV_put (show inS 27 = true from rfl), slotV_put (show inS 28 = true from rfl), slotV_put (show inS 29 = true from rfl), slotV_put (show inS 30 = true from rfl)]
  refine slotV_congr fun k hk => ?_
  have hk' : k = 3 ∨ (18 ≤ k ∧ k ≤ 30) := by simpa [inS] using hk
  iterate 14 (rw [upV_eq]; split; · (rename_i h; rw [h]))
  omega
/-! ### a copy of a list -/
theorem own_grow0 {W : World} {t : List Node} {n G : Nat} (hn : t.length = n) (hG : n ≤ G) (hm : G ≤ maxLen) (Z : Array Value) (hZ : Z.size = (G - n) * 4) :
    (W.drew.alloc (.cells ((cellsOf t).toArray ++ Z) 40)).ownsRow 0 40 4 (.slice (some ⟨W.heap.size, 0, none⟩) t.length G) t.length (cellsOf t) := by
  refine ⟨cellsOf_len t, .inr ⟨W.heap.size, G, _, rfl, Nat.zero_le _, heap_alloc_new W.drew _, by omega, hm, ?_, ?_⟩⟩
  · rw [Array.size_append, List.size_toArray, cellsOf_len, hZ]; omega
  · rw [Array.toList_append, List.take_append_of_le_length (by rw [cellsOf_len]; exact Nat.le_refl _)]
    exact List.take_of_length_le (by rw [cellsOf_len]; exact Nat.le_refl _)
theorem run_copy (w : World) (ty : TypeId) (b : Addr) (p : Option Addr) (n c : Nat) (t : List Node) (h : Arg w p n c t) (hn : n ≤ 60) :
    ∃ q d w', (Builtin.append_ #[22, 22] ty #[.slice (some b) 0 0, .slice p n c]).run Tryz.prog w = .ok (.slice (some q) n d) w' ∧ Arg w' (some q) n d t ∧ Off [] w w' ∧ (t ≠ [] → q.block = w.heap.size) := by
  obtain ⟨i, hi, hz0, hz1, hz2⟩ := info_parts infoNode
  have ht := Tryz.underlying22
  by_cases h0 : n = 0
  · subst h0
    have ht0 : t = [] := List.length_eq_zero_iff.1 h.len
    subst ht0
    refine ⟨b, 0, w, ?_, ⟨fun hne => absurd rfl hne, rfl, Nat.le_refl _, by decide, (fun e => by cases e), h.fits⟩, Off.refl _ _, fun h => absurd rfl h⟩
    cases p with
    | none => simp [Builtin.append_, run_underlying ht, sizeOf, typeInfo, hi, Builtin.lenOf, Builtin.firstCells, storeCells]
    | some ad =>
      have hf := run_firstCells_some (P := Tryz.prog) w i.size 0 ad 0 c [] (by simp) (fun j u h => by simp at h)
      simp [Builtin.append_, run_underlying ht, sizeOf, typeInfo, hi, Builtin.lenOf, hf, storeCells]
  · cases p with
    | none =>
      have := (h.nn rfl).1
      rw [← h.len, this] at h0
      exact absurd rfl h0
    | some ad =>
      have hg := run_append_grow (P := Tryz.prog) w 22 ty 40 i node0.val ht hi hz0 b 0 0 [] (by simp) (fun j v h => by simp at h) ad n c (cellsOf t) (by rw [cellsOf_len, h.len, hz1]) (fun j u hj => h.row.cells hj)
        (by omega) (by omega) (by rw [Nat.zero_add, nextslicecap_zero (by omega), hz2]; omega)
      have hG := grownCap_ge w (0 + n) 0 40
      have hM := grownCap_le_maxLen w (0 + n) 0 40 (by unfold maxLen; omega)
      rw [Nat.zero_add] at hg hG hM
      have hO := own_grow0 (W := w) (t := t) h.len hG hM (Builtin.zeroCells node0.val.cells (grownCap w n 0 40 - n)) (by rw [size_zeroCells]; rfl)
      obtain ⟨q, d, e, hr, hc, hm, hnn⟩ := own_all hO
      injection e with e1 e2 e3
      subst e3
      have hrun : (#[] ++ (cellsOf t).toArray ++ Builtin.zeroCells node0.val.cells (grownCap w n 0 40 - n) : Array Value) = (cellsOf t).toArray ++ Builtin.zeroCells node0.val.cells (grownCap w n 0 40 - n) := by simp
      refine ⟨⟨w.heap.size, 0, none⟩, _, _, hg, ?_, ?_, fun _ => rfl⟩
      · rw [← e1] at hr
        rw [show ([] : List Value).toArray ++ (cellsOf t).toArray ++ Builtin.zeroCells node0.val.cells (grownCap w n 0 40 - n) = (cellsOf t).toArray ++ Builtin.zeroCells node0.val.cells (grownCap w n 0 40 - n) from hrun]
        exact ⟨hr, h.len, hG, hM, (fun e => by cases e), h.fits⟩
      · exact (((Off.refl [] w).drew)).alloc _
theorem Blk.new3 (w : World) (o p q : Obj) (t : TypeId) (cs : Array Value) : Blk ((((w.alloc o).alloc p).alloc q).alloc (.cells cs t)) (w.heap.size + 3) t cs := by
  have := Blk.new (((w.alloc o).alloc p).alloc q) t cs
  simpa using this
theorem row_lt {w : World} {q : Addr} {n c : Nat} {t : List Node} (h : Arg w (some q) n c t) (hne : t ≠ []) : q.block < w.heap.size := by
  obtain ⟨a, ha, hb, _⟩ := h.row hne
  cases ha
  exact hb
theorem Arg.setCell {w : World} {q : Addr} {n c : Nat} {t : List Node} (h : Arg w (some q) n c t) (p : Addr) (u : Value) (hp : t ≠ [] → q.block ≠ p.block) : Arg (w.setCell p u) (some q) n c t := by
  refine ⟨fun hne => ?_, h.len, h.le, h.mx, h.nn, h.fits⟩
  obtain ⟨a, ha, hb, hn⟩ := h.row hne
  cases ha
  have hk : ∀ r : Addr, r.block = q.block → (w.setCell p u).cell? r = w.cell? r := fun r hr => World.cell?_of_block (w := w) (Below.heap_setCell _ _ _ _ (by rw [hr]; exact hp hne))
  refine ⟨q, rfl, by simpa [World.setCell] using hb, fun i m hi => ?_⟩
  have h := hn i m hi
  exact ⟨(hk _ (add_block _ _)).trans h.path, (hk ⟨_, _, none⟩ (add_block q (i * 4))).trans h.kind, (hk ⟨_, _, none⟩ (add_block q (i * 4))).trans h.data, (hk ⟨_, _, none⟩ (add_block q (i * 4))).trans h.mode⟩

section
variable {A : Act} {w : World} {K : Act → World → Prop} {Q : Exit → Act → World → Prop}
theorem x0 (h : K (A.put (some 18) (.slice (some ⟨w.heap.size, 0, none⟩) 0 0)) (w.alloc (.cells #[] 40))) : Oper.wp Tryz.prog { dst := some 18, op := .buildSlice 22 0 #[], type := 22, pos := "law.go:37", after := #[], guard := none } A w K Q := by
  unfold Oper.wp
  go_simp
  exact h
theorem x1 {bx : Nat} (h1 : A.tmps.getD 1 undef = .pointer (some ⟨bx, 0, none⟩)) (h : K (A.put (some 19) (.pointer (some ⟨bx, 0, none⟩))) w) : Oper.wp Tryz.prog { dst := some 19, op := .fieldAddr 24 (.tmp 1) 0, type := 0, pos := "law.go:37", after := #[], guard := none } A w K Q := by
  unfold Oper.wp
  go_simp
  exact h
theorem x2 {bx : Nat} {p : Option Addr} {n c : Nat} (h1 : A.tmps.getD 19 undef = .pointer (some ⟨bx, 0, none⟩)) (hc : w.cell? ⟨bx, 0, none⟩ = some (.slice p n c)) (h : K (A.put (some 20) (.slice p n c)) w) : Oper.wp Tryz.prog { dst := some 20, op := .load 22 (.tmp 19), type := 22, pos := "law.go:37", after := #[{ on := 1, ground := .data }], guard := none } A w K Q := by
  unfold Oper.wp
  go_simp
  exact h
theorem x3 {bb : Addr} {p : Option Addr} {n c : Nat} {t : List Node} (h1 : A.tmps.getD 18 undef = .slice (some bb) 0 0) (h2 : A.tmps.getD 20 undef = .slice p n c) (ha : Arg w p n c t) (hn : n ≤ 60)
    (h : ∀ q d w', Arg w' (some q) n d t → Off [] w w' → (t ≠ [] → q.block = w.heap.size) → K (A.put (some 21) (.slice (some q) n d)) w') : Oper.wp Tryz.prog { dst := some 21, op := .call { callee := .builtin .append, args := #[.tmp 18, .tmp 20], argTypes := #[22, 22] }, type := 22, pos := "law.go:37", after := #[{ on := 0, ground := .data }, { on := 2, ground := .data }], guard := none } A w K Q := by
  obtain ⟨q, d, w', hr, i1, i2, i3⟩ := run_copy w 22 bb p n c t ha hn
  unfold Oper.wp execOp
  simp only [Act.eval, resolve, invoke, builtin, Sem.run_bind, Sem.run_pure, Result.andThen_ok, List.map_toArray, List.map_cons, List.map_nil, h1, h2, hr]
  exact h q d w' i1 i2 i3
theorem x4 (h : K (A.put (some 22) (.slice (some ⟨w.heap.size, 0, none⟩) 0 0)) (w.alloc (.cells #[] 40))) : Oper.wp Tryz.prog { dst := some 22, op := .buildSlice 22 0 #[], type := 22, pos := "law.go:37", after := #[], guard := none } A w K Q := by
  unfold Oper.wp
  go_simp
  exact h
theorem x5 {bx : Nat} (h1 : A.tmps.getD 1 undef = .pointer (some ⟨bx, 0, none⟩)) (h : K (A.put (some 23) (.pointer (some ⟨bx, 1, none⟩))) w) : Oper.wp Tryz.prog { dst := some 23, op := .fieldAddr 24 (.tmp 1) 1, type := 0, pos := "law.go:37", after := #[], guard := none } A w K Q := by
  unfold Oper.wp
  go_simp
  exact h
theorem x6 {bx : Nat} {p : Option Addr} {n c : Nat} (h1 : A.tmps.getD 23 undef = .pointer (some ⟨bx, 1, none⟩)) (hc : w.cell? ⟨bx, 1, none⟩ = some (.slice p n c)) (h : K (A.put (some 24) (.slice p n c)) w) : Oper.wp Tryz.prog { dst := some 24, op := .load 22 (.tmp 23), type := 22, pos := "law.go:37", after := #[{ on := 5, ground := .data }], guard := none } A w K Q := by
  unfold Oper.wp
  go_simp
  exact h
theorem x7 {bb : Addr} {p : Option Addr} {n c : Nat} {t : List Node} (h1 : A.tmps.getD 22 undef = .slice (some bb) 0 0) (h2 : A.tmps.getD 24 undef = .slice p n c) (ha : Arg w p n c t) (hn : n ≤ 60)
    (h : ∀ q d w', Arg w' (some q) n d t → Off [] w w' → (t ≠ [] → q.block = w.heap.size) → K (A.put (some 25) (.slice (some q) n d)) w') : Oper.wp Tryz.prog { dst := some 25, op := .call { callee := .builtin .append, args := #[.tmp 22, .tmp 24], argTypes := #[22, 22] }, type := 22, pos := "law.go:37", after := #[{ on := 4, ground := .data }, { on := 6, ground := .data }, { on := 3, ground := .chain }], guard := none } A w K Q := by
  obtain ⟨q, d, w', hr, i1, i2, i3⟩ := run_copy w 22 bb p n c t ha hn
  unfold Oper.wp execOp
  simp only [Act.eval, resolve, invoke, builtin, Sem.run_bind, Sem.run_pure, Result.andThen_ok, List.map_toArray, List.map_cons, List.map_nil, h1, h2, hr]
  exact h q d w' i1 i2 i3
theorem x8 (h : K (A.put (some 26) (.slice (some ⟨w.heap.size, 0, none⟩) 0 0)) (w.alloc (.cells #[] 40))) : Oper.wp Tryz.prog { dst := some 26, op := .buildSlice 22 0 #[], type := 22, pos := "law.go:37", after := #[], guard := none } A w K Q := by
  unfold Oper.wp
  go_simp
  exact h
theorem x9 {bx : Nat} (h1 : A.tmps.getD 1 undef = .pointer (some ⟨bx, 0, none⟩)) (h : K (A.put (some 27) (.pointer (some ⟨bx, 2, none⟩))) w) : Oper.wp Tryz.prog { dst := some 27, op := .fieldAddr 24 (.tmp 1) 2, type := 0, pos := "law.go:37", after := #[], guard := none } A w K Q := by
  unfold Oper.wp
  go_simp
  exact h
theorem x10 {bx : Nat} {p : Option Addr} {n c : Nat} (h1 : A.tmps.getD 27 undef = .pointer (some ⟨bx, 2, none⟩)) (hc : w.cell? ⟨bx, 2, none⟩ = some (.slice p n c)) (h : K (A.put (some 28) (.slice p n c)) w) : Oper.wp Tryz.prog { dst := some 28, op := .load 22 (.tmp 27), type := 22, pos := "law.go:37", after := #[{ on := 9, ground := .data }], guard := none } A w K Q := by
  unfold Oper.wp
  go_simp
  exact h
theorem x11 {bb : Addr} {p : Option Addr} {n c : Nat} {t : List Node} (h1 : A.tmps.getD 26 undef = .slice (some bb) 0 0) (h2 : A.tmps.getD 28 undef = .slice p n c) (ha : Arg w p n c t) (hn : n ≤ 60)
    (h : ∀ q d w', Arg w' (some q) n d t → Off [] w w' → (t ≠ [] → q.block = w.heap.size) → K (A.put (some 29) (.slice (some q) n d)) w') : Oper.wp Tryz.prog { dst := some 29, op := .call { callee := .builtin .append, args := #[.tmp 26, .tmp 28], argTypes := #[22, 22] }, type := 22, pos := "law.go:37", after := #[{ on := 8, ground := .data }, { on := 10, ground := .data }, { on := 7, ground := .chain }], guard := none } A w K Q := by
  obtain ⟨q, d, w', hr, i1, i2, i3⟩ := run_copy w 22 bb p n c t ha hn
  unfold Oper.wp execOp
  simp only [Act.eval, resolve, invoke, builtin, Sem.run_bind, Sem.run_pure, Result.andThen_ok, List.map_toArray, List.map_cons, List.map_nil, h1, h2, hr]
  exact h q d w' i1 i2 i3
theorem x12 {p1 p2 p3 : Addr} {n1 n2 n3 c1 c2 c3 : Nat} (h1 : A.tmps.getD 21 undef = .slice (some p1) n1 c1) (h2 : A.tmps.getD 25 undef = .slice (some p2) n2 c2) (h3 : A.tmps.getD 29 undef = .slice (some p3) n3 c3) (h : K (A.put (some 30) (.agg #[.slice (some p1) n1 c1, .slice (some p2) n2 c2, .slice (some p3) n3 c3])) w) : Oper.wp Tryz.prog { dst := some 30, op := .build 24 #[(0, .tmp 21), (1, .tmp 25), (2, .tmp 29)], type := 24, pos := "law.go:37", after := #[{ on := 3, ground := .data }, { on := 7, ground := .data }, { on := 11, ground := .data }], guard := none } A w K Q := by
  rw [Array.getD_eq_getD_getElem?] at h1 h2 h3
  unfold Oper.wp
  go_simp
  exact h
theorem x13 (h : K (A.put (some 3) (.pointer (some ⟨w.heap.size, 0, none⟩))) (w.alloc (.cells #[.slice none 0 0, .slice none 0 0, .slice none 0 0] 24))) : Oper.wp Tryz.prog { dst := some 3, op := .alloc 24, type := 0, pos := "law.go:37", after := #[], guard := none } A w K Q := by
  unfold Oper.wp
  go_simp
  exact h
theorem x14 {g : Nat} {p1 p2 p3 : Addr} {n1 n2 n3 c1 c2 c3 : Nat} (h1 : A.tmps.getD 3 undef = .pointer (some ⟨g, 0, none⟩)) (h2 : A.tmps.getD 30 undef = .agg #[.slice (some p1) n1 c1, .slice (some p2) n2 c2, .slice (some p3) n3 c3]) (hB : Blk w g 24 #[.slice none 0 0, .slice none 0 0, .slice none 0 0])
    (h : K A (((w.setCell ⟨g, 0, none⟩ (.slice (some p1) n1 c1)).setCell ⟨g, 1, none⟩ (.slice (some p2) n2 c2)).setCell ⟨g, 2, none⟩ (.slice (some p3) n3 c3))) : Oper.wp Tryz.prog { dst := none, op := .store 24 (.tmp 3) (.tmp 30), type := 0, pos := "law.go:37", after := #[{ on := 13, ground := .data }, { on := 12, ground := .data }, { on := 11, ground := .chain }, { on := 0, ground := .phase }, { on := 1, ground := .phase }, { on := 2, ground := .phase }, { on := 3, ground := .phase }, { on := 4, ground := .phase }, { on := 5, ground := .phase }, { on := 6, ground := .phase }, { on := 7, ground := .phase }, { on := 8, ground := .phase }, { on := 9, ground := .phase }, { on := 10, ground := .phase }, { on := 11, ground := .phase }, { on := 12, ground := .phase }, { on := 13, ground := .phase }], guard := none } A w K Q := by
  have hc := hB.cell
  have hf := hB.frozen
  have hl := hB.lt
  unfold Oper.wp
  go_simp
  exact h
end

/-! ### what holds of the operations that have come up -/
structure C5 where
  (po pa pb : Option Addr)
  (no na nb co ca cb : Nat)
  (o a b : List Node)
  W : World
  bx : Nat
def up (l : Nat → Bool) (i : Nat) : Nat → Bool := fun j => j == i || l j
def CopyAt (w : World) (l13 : Bool) (v3 v : Value) (n : Nat) (t : List Node) : Prop := ∃ q d, v = .slice (some q) n d ∧ Arg w (some q) n d t ∧ (l13 = true → t ≠ [] → ∀ g, v3 = .pointer (some g) → q.block ≠ g.block)
def BoxAt (W w : World) (l14 : Bool) (v3 x y z : Value) : Prop := ∃ g, v3 = .pointer (some ⟨g, 0, none⟩) ∧ W.heap.size ≤ g ∧ Blk w g 24 (if l14 = true then #[x, y, z] else #[.slice none 0 0, .slice none 0 0, .slice none 0 0])
theorem CopyAt.off {w w' : World} {l : Bool} {v3 v : Value} {n : Nat} {t : List Node} (h : CopyAt w l v3 v n t) (ho : Off [] w w') : CopyAt w' l v3 v n t := by
  obtain ⟨q, d, h1, h2, h3⟩ := h
  exact ⟨q, d, h1, h2.off ho, h3⟩
theorem CopyAt.box {w : World} {l : Bool} {v3 v : Value} {n : Nat} {t : List Node} (h : CopyAt w l v3 v n t) (x : Obj) : CopyAt (w.alloc x) true (.pointer (some ⟨w.heap.size, 0, none⟩)) v n t := by
  obtain ⟨q, d, h1, h2, h3⟩ := h
  refine ⟨q, d, h1, h2.off ((Off.refl _ _).alloc _), fun _ hne g hg => ?_⟩
  cases hg
  have := row_lt h2 hne
  show q.block ≠ w.heap.size
  omega
theorem CopyAt.set {w : World} {g : Nat} {v : Value} {n : Nat} {t : List Node} (h : CopyAt w true (.pointer (some ⟨g, 0, none⟩)) v n t) (i : Nat) (u : Value) : CopyAt (w.setCell ⟨g, i, none⟩ u) true (.pointer (some ⟨g, 0, none⟩)) v n t := by
  obtain ⟨q, d, h1, h2, h3⟩ := h
  exact ⟨q, d, h1, h2.setCell _ _ (fun hne => h3 rfl hne ⟨g, 0, none⟩ rfl), h3⟩
theorem BoxAt.off {W w w' : World} {l : Bool} {v3 x y z : Value} (h : BoxAt W w l v3 x y z) (ho : Off [] w w') : BoxAt W w' l v3 x y z := by
  obtain ⟨g, h1, h2, h3⟩ := h
  exact ⟨g, h1, h2, h3.off ho (by simp)⟩
structure RG (c : C5) (l : Nat → Bool) (V : Nat → Value) (w : World) : Prop where
  off : Off [] c.W w
  r0 : l 0 = true → ∃ g : Addr, V 18 = .slice (some g) 0 0
  r1 : l 1 = true → V 19 = .pointer (some ⟨c.bx, 0, none⟩)
  r2 : l 2 = true → V 20 = .slice c.po c.no c.co
  r3 : l 3 = true → CopyAt w (l 13) (V 3) (V 21) c.no c.o
  r4 : l 4 = true → ∃ g : Addr, V 22 = .slice (some g) 0 0
  r5 : l 5 = true → V 23 = .pointer (some ⟨c.bx, 1, none⟩)
  r6 : l 6 = true → V 24 = .slice c.pa c.na c.ca
  r7 : l 7 = true → CopyAt w (l 13) (V 3) (V 25) c.na c.a
  r8 : l 8 = true → ∃ g : Addr, V 26 = .slice (some g) 0 0
  r9 : l 9 = true → V 27 = .pointer (some ⟨c.bx, 2, none⟩)
  r10 : l 10 = true → V 28 = .slice c.pb c.nb c.cb
  r11 : l 11 = true → CopyAt w (l 13) (V 3) (V 29) c.nb c.b
  r12 : l 12 = true → V 30 = .agg #[V 21, V 25, V 29]
  r13 : l 13 = true → BoxAt c.W w (l 14) (V 3) (V 21) (V 25) (V 29)
  d12 : l 12 = true → l 3 = true ∧ l 7 = true ∧ l 11 = true
  d14 : l 14 = true → l 12 = true ∧ l 13 = true
section
variable {c : C5} {l : Nat → Bool} {V : Nat → Value} {w w' : World}
theorem RG.keep (h : RG c l V w) (ho : Off [] w w') : RG c l V w' where
  off := h.off.trans_nil ho
  r0 := h.r0
  r1 := h.r1
  r2 := h.r2
  r3 := fun e => (h.r3 e).off ho
  r4 := h.r4
  r5 := h.r5
  r6 := h.r6
  r7 := fun e => (h.r7 e).off ho
  r8 := h.r8
  r9 := h.r9
  r10 := h.r10
  r11 := fun e => (h.r11 e).off ho
  r12 := h.r12
  r13 := fun e => (h.r13 e).off ho
  d12 := h.d12
  d14 := h.d14
theorem RG.s0 (h : RG c l V w) (g : Addr) : RG c (up l 0) (upV V 18 (.slice (some g) 0 0)) w :=
  { off := h.off
    r0 := fun _ => ⟨g, by simp [upV]⟩
    r1 := by simpa [up, upV] using h.r1
    r2 := by simpa [up, upV] using h.r2
    r3 := by simpa [up, upV] using h.r3
    r4 := by simpa [up, upV] using h.r4
    r5 := by simpa [up, upV] using h.r5
    r6 := by simpa [up, upV] using h.r6
    r7 := by simpa [up, upV] using h.r7
    r8 := by simpa [up, upV] using h.r8
    r9 := by simpa [up, upV] using h.r9
    r10 := by simpa [up, upV] using h.r10
    r11 := by simpa [up, upV] using h.r11
    r12 := by simpa [up, upV] using h.r12
    r13 := by simpa [up, upV] using h.r13
    d12 := fun e => by have h0 := h.d12 (by simpa [up] using e); simp [up, h0]
    d14 := fun e => by have h0 := h.d14 (by simpa [up] using e); simp [up, h0] }
theorem RG.s1 (h : RG c l V w) : RG c (up l 1) (upV V 19 (.pointer (some ⟨c.bx, 0, none⟩))) w :=
  { off := h.off
    r0 := by simpa [up, upV] using h.r0
    r1 := fun _ => by simp [upV]
    r2 := by simpa [up, upV] using h.r2
    r3 := by simpa [up, upV] using h.r3
    r4 := by simpa [up, upV] using h.r4
    r5 := by simpa [up, upV] using h.r5
    r6 := by simpa [up, upV] using h.r6
    r7 := by simpa [up, upV] using h.r7
    r8 := by simpa [up, upV] using h.r8
    r9 := by simpa [up, upV] using h.r9
    r10 := by simpa [up, upV] using h.r10
    r11 := by simpa [up, upV] using h.r11
    r12 := by simpa [up, upV] using h.r12
    r13 := by simpa [up, upV] using h.r13
    d12 := fun e => by have h0 := h.d12 (by simpa [up] using e); simp [up, h0]
    d14 := fun e => by have h0 := h.d14 (by simpa [up] using e); simp [up, h0] }
theorem RG.s2 (h : RG c l V w) : RG c (up l 2) (upV V 20 (.slice c.po c.no c.co)) w :=
  { off := h.off
    r0 := by simpa [up, upV] using h.r0
    r1 := by simpa [up, upV] using h.r1
    r2 := fun _ => by simp [upV]
    r3 := by simpa [up, upV] using h.r3
    r4 := by simpa [up, upV] using h.r4
    r5 := by simpa [up, upV] using h.r5
    r6 := by simpa [up, upV] using h.r6
    r7 := by simpa [up, upV] using h.r7
    r8 := by simpa [up, upV] using h.r8
    r9 := by simpa [up, upV] using h.r9
    r10 := by simpa [up, upV] using h.r10
    r11 := by simpa [up, upV] using h.r11
    r12 := by simpa [up, upV] using h.r12
    r13 := by simpa [up, upV] using h.r13
    d12 := fun e => by have h0 := h.d12 (by simpa [up] using e); simp [up, h0]
    d14 := fun e => by have h0 := h.d14 (by simpa [up] using e); simp [up, h0] }
theorem RG.n14_0 (h : RG c l V w) (hl : l 3 = false) : l 14 = false := by
  cases hh : l 14
  · rfl
  · have h0 := h.d12 (h.d14 hh).1
    simp [hl] at h0
theorem RG.s3 (h : RG c l V w) (hl : l 3 = false) {v : Value} (hc : CopyAt w (l 13) (V 3) v c.no c.o) : RG c (up l 3) (upV V 21 v) w :=
  have h14 := h.n14_0 hl
  { off := h.off
    r0 := by simpa [up, upV] using h.r0
    r1 := by simpa [up, upV] using h.r1
    r2 := by simpa [up, upV] using h.r2
    r3 := fun _ => by simpa [up, upV] using hc
    r4 := by simpa [up, upV] using h.r4
    r5 := by simpa [up, upV] using h.r5
    r6 := by simpa [up, upV] using h.r6
    r7 := by simpa [up, upV] using h.r7
    r8 := by simpa [up, upV] using h.r8
    r9 := by simpa [up, upV] using h.r9
    r10 := by simpa [up, upV] using h.r10
    r11 := by simpa [up, upV] using h.r11
    r12 := fun e => by have h0 := h.d12 (by simpa [up] using e); simp [hl] at h0
    r13 := fun e => by have h0 := h.r13 (by simpa [up] using e); unfold BoxAt at h0 ⊢; rw [h14] at h0; simpa [up, upV, h14] using h0
    d12 := fun e => by have h0 := h.d12 (by simpa [up] using e); simp [up, h0]
    d14 := fun e => by have h0 := h.d14 (by simpa [up] using e); simp [up, h0] }
theorem RG.s4 (h : RG c l V w) (g : Addr) : RG c (up l 4) (upV V 22 (.slice (some g) 0 0)) w :=
  { off := h.off
    r0 := by simpa [up, upV] using h.r0
    r1 := by simpa [up, upV] using h.r1
    r2 := by simpa [up, upV] using h.r2
    r3 := by simpa [up, upV] using h.r3
    r4 := fun _ => ⟨g, by simp [upV]⟩
    r5 := by simpa [up, upV] using h.r5
    r6 := by simpa [up, upV] using h.r6
    r7 := by simpa [up, upV] using h.r7
    r8 := by simpa [up, upV] using h.r8
    r9 := by simpa [up, upV] using h.r9
    r10 := by simpa [up, upV] using h.r10
    r11 := by simpa [up, upV] using h.r11
    r12 := by simpa [up, upV] using h.r12
    r13 := by simpa [up, upV] using h.r13
    d12 := fun e => by have h0 := h.d12 (by simpa [up] using e); simp [up, h0]
    d14 := fun e => by have h0 := h.d14 (by simpa [up] using e); simp [up, h0] }
theorem RG.s5 (h : RG c l V w) : RG c (up l 5) (upV V 23 (.pointer (some ⟨c.bx, 1, none⟩))) w :=
  { off := h.off
    r0 := by simpa [up, upV] using h.r0
    r1 := by simpa [up, upV] using h.r1
    r2 := by simpa [up, upV] using h.r2
    r3 := by simpa [up, upV] using h.r3
    r4 := by simpa [up, upV] using h.r4
    r5 := fun _ => by simp [upV]
    r6 := by simpa [up, upV] using h.r6
    r7 := by simpa [up, upV] using h.r7
    r8 := by simpa [up, upV] using h.r8
    r9 := by simpa [up, upV] using h.r9
    r10 := by simpa [up, upV] using h.r10
    r11 := by simpa [up, upV] using h.r11
    r12 := by simpa [up, upV] using h.r12
    r13 := by simpa [up, upV] using h.r13
    d12 := fun e => by have h0 := h.d12 (by simpa [up] using e); simp [up, h0]
    d14 := fun e => by have h0 := h.d14 (by simpa [up] using e); simp [up, h0] }
theorem RG.s6 (h : RG c l V w) : RG c (up l 6) (upV V 24 (.slice c.pa c.na c.ca)) w :=
  { off := h.off
    r0 := by simpa [up, upV] using h.r0
    r1 := by simpa [up, upV] using h.r1
    r2 := by simpa [up, upV] using h.r2
    r3 := by simpa [up, upV] using h.r3
    r4 := by simpa [up, upV] using h.r4
    r5 := by simpa [up, upV] using h.r5
    r6 := fun _ => by simp [upV]
    r7 := by simpa [up, upV] using h.r7
    r8 := by simpa [up, upV] using h.r8
    r9 := by simpa [up, upV] using h.r9
    r10 := by simpa [up, upV] using h.r10
    r11 := by simpa [up, upV] using h.r11
    r12 := by simpa [up, upV] using h.r12
    r13 := by simpa [up, upV] using h.r13
    d12 := fun e => by have h0 := h.d12 (by simpa [up] using e); simp [up, h0]
    d14 := fun e => by have h0 := h.d14 (by simpa [up] using e); simp [up, h0] }
theorem RG.n14_4 (h : RG c l V w) (hl : l 7 = false) : l 14 = false := by
  cases hh : l 14
  · rfl
  · have h0 := h.d12 (h.d14 hh).1
    simp [hl] at h0
theorem RG.s7 (h : RG c l V w) (hl : l 7 = false) {v : Value} (hc : CopyAt w (l 13) (V 3) v c.na c.a) : RG c (up l 7) (upV V 25 v) w :=
  have h14 := h.n14_4 hl
  { off := h.off
    r0 := by simpa [up, upV] using h.r0
    r1 := by simpa [up, upV] using h.r1
    r2 := by simpa [up, upV] using h.r2
    r3 := by simpa [up, upV] using h.r3
    r4 := by simpa [up, upV] using h.r4
    r5 := by simpa [up, upV] using h.r5
    r6 := by simpa [up, upV] using h.r6
    r7 := fun _ => by simpa [up, upV] using hc
    r8 := by simpa [up, upV] using h.r8
    r9 := by simpa [up, upV] using h.r9
    r10 := by simpa [up, upV] using h.r10
    r11 := by simpa [up, upV] using h.r11
    r12 := fun e => by have h0 := h.d12 (by simpa [up] using e); simp [hl] at h0
    r13 := fun e => by have h0 := h.r13 (by simpa [up] using e); unfold BoxAt at h0 ⊢; rw [h14] at h0; simpa [up, upV, h14] using h0
    d12 := fun e => by have h0 := h.d12 (by simpa [up] using e); simp [up, h0]
    d14 := fun e => by have h0 := h.d14 (by simpa [up] using e); simp [up, h0] }
theorem RG.s8 (h : RG c l V w) (g : Addr) : RG c (up l 8) (upV V 26 (.slice (some g) 0 0)) w :=
  { off := h.off
    r0 := by simpa [up, upV] using h.r0
    r1 := by simpa [up, upV] using h.r1
    r2 := by simpa [up, upV] using h.r2
    r3 := by simpa [up, upV] using h.r3
    r4 := by simpa [up, upV] using h.r4
    r5 := by simpa [up, upV] using h.r5
    r6 := by simpa [up, upV] using h.r6
    r7 := by simpa [up, upV] using h.r7
    r8 := fun _ => ⟨g, by simp [upV]⟩
    r9 := by simpa [up, upV] using h.r9
    r10 := by simpa [up, upV] using h.r10
    r11 := by simpa [up, upV] using h.r11
    r12 := by simpa [up, upV] using h.r12
    r13 := by simpa [up, upV] using h.r13
    d12 := fun e => by have h0 := h.d12 (by simpa [up] using e); simp [up, h0]
    d14 := fun e => by have h0 := h.d14 (by simpa [up] using e); simp [up, h0] }
theorem RG.s9 (h : RG c l V w) : RG c (up l 9) (upV V 27 (.pointer (some ⟨c.bx, 2, none⟩))) w :=
  { off := h.off
    r0 := by simpa [up, upV] using h.r0
    r1 := by simpa [up, upV] using h.r1
    r2 := by simpa [up, upV] using h.r2
    r3 := by simpa [up, upV] using h.r3
    r4 := by simpa [up, upV] using h.r4
    r5 := by simpa [up, upV] using h.r5
    r6 := by simpa [up, upV] using h.r6
    r7 := by simpa [up, upV] using h.r7
    r8 := by simpa [up, upV] using h.r8
    r9 := fun _ => by simp [upV]
    r10 := by simpa [up, upV] using h.r10
    r11 := by simpa [up, upV] using h.r11
    r12 := by simpa [up, upV] using h.r12
    r13 := by simpa [up, upV] using h.r13
    d12 := fun e => by have h0 := h.d12 (by simpa [up] using e); simp [up, h0]
    d14 := fun e => by have h0 := h.d14 (by simpa [up] using e); simp [up, h0] }
theorem RG.s10 (h : RG c l V w) : RG c (up l 10) (upV V 28 (.slice c.pb c.nb c.cb)) w :=
  { off := h.off
    r0 := by simpa [up, upV] using h.r0
    r1 := by simpa [up, upV] using h.r1
    r2 := by simpa [up, upV] using h.r2
    r3 := by simpa [up, upV] using h.r3
    r4 := by simpa [up, upV] using h.r4
    r5 := by simpa [up, upV] using h.r5
    r6 := by simpa [up, upV] using h.r6
    r7 := by simpa [up, upV] using h.r7
    r8 := by simpa [up, upV] using h.r8
    r9 := by simpa [up, upV] using h.r9
    r10 := fun _ => by simp [upV]
    r11 := by simpa [up, upV] using h.r11
    r12 := by simpa [up, upV] using h.r12
    r13 := by simpa [up, upV] using h.r13
    d12 := fun e => by have h0 := h.d12 (by simpa [up] using e); simp [up, h0]
    d14 := fun e => by have h0 := h.d14 (by simpa [up] using e); simp [up, h0] }
theorem RG.n14_8 (h : RG c l V w) (hl : l 11 = false) : l 14 = false := by
  cases hh : l 14
  · rfl
  · have h0 := h.d12 (h.d14 hh).1
    simp [hl] at h0
theorem RG.s11 (h : RG c l V w) (hl : l 11 = false) {v : Value} (hc : CopyAt w (l 13) (V 3) v c.nb c.b) : RG c (up l 11) (upV V 29 v) w :=
  have h14 := h.n14_8 hl
  { off := h.off
    r0 := by simpa [up, upV] using h.r0
    r1 := by simpa [up, upV] using h.r1
    r2 := by simpa [up, upV] using h.r2
    r3 := by simpa [up, upV] using h.r3
    r4 := by simpa [up, upV] using h.r4
    r5 := by simpa [up, upV] using h.r5
    r6 := by simpa [up, upV] using h.r6
    r7 := by simpa [up, upV] using h.r7
    r8 := by simpa [up, upV] using h.r8
    r9 := by simpa [up, upV] using h.r9
    r10 := by simpa [up, upV] using h.r10
    r11 := fun _ => by simpa [up, upV] using hc
    r12 := fun e => by have h0 := h.d12 (by simpa [up] using e); simp [hl] at h0
    r13 := fun e => by have h0 := h.r13 (by simpa [up] using e); unfold BoxAt at h0 ⊢; rw [h14] at h0; simpa [up, upV, h14] using h0
    d12 := fun e => by have h0 := h.d12 (by simpa [up] using e); simp [up, h0]
    d14 := fun e => by have h0 := h.d14 (by simpa [up] using e); simp [up, h0] }
theorem RG.s12 (h : RG c l V w) (h3 : l 3 = true) (h7 : l 7 = true) (h11 : l 11 = true) : RG c (up l 12) (upV V 30 (.agg #[V 21, V 25, V 29])) w :=
  { off := h.off
    r0 := by simpa [up, upV] using h.r0
    r1 := by simpa [up, upV] using h.r1
    r2 := by simpa [up, upV] using h.r2
    r3 := by simpa [up, upV] using h.r3
    r4 := by simpa [up, upV] using h.r4
    r5 := by simpa [up, upV] using h.r5
    r6 := by simpa [up, upV] using h.r6
    r7 := by simpa [up, upV] using h.r7
    r8 := by simpa [up, upV] using h.r8
    r9 := by simpa [up, upV] using h.r9
    r10 := by simpa [up, upV] using h.r10
    r11 := by simpa [up, upV] using h.r11
    r12 := fun _ => by simp [upV]
    r13 := by simpa [up, upV] using h.r13
    d12 := fun _ => by simp [up, h3, h7, h11]
    d14 := fun e => by have h0 := h.d14 (by simpa [up] using e); simp [up, h0] }
theorem RG.s13 (h : RG c l V w) (hl : l 13 = false) : RG c (up l 13) (upV V 3 (.pointer (some ⟨w.heap.size, 0, none⟩))) (w.alloc (.cells #[.slice none 0 0, .slice none 0 0, .slice none 0 0] 24)) :=
  have h14 : l 14 = false := by
    cases hh : l 14
    · rfl
    · have h0 := (h.d14 hh).2
      simp [hl] at h0
  { off := h.off.alloc _
    r0 := by simpa [up, upV] using h.r0
    r1 := by simpa [up, upV] using h.r1
    r2 := by simpa [up, upV] using h.r2
    r3 := fun e => by have h0 := (h.r3 (by simpa [up] using e)).box (.cells #[.slice none 0 0, .slice none 0 0, .slice none 0 0] 24); simpa [up, upV] using h0
    r4 := by simpa [up, upV] using h.r4
    r5 := by simpa [up, upV] using h.r5
    r6 := by simpa [up, upV] using h.r6
    r7 := fun e => by have h0 := (h.r7 (by simpa [up] using e)).box (.cells #[.slice none 0 0, .slice none 0 0, .slice none 0 0] 24); simpa [up, upV] using h0
    r8 := by simpa [up, upV] using h.r8
    r9 := by simpa [up, upV] using h.r9
    r10 := by simpa [up, upV] using h.r10
    r11 := fun e => by have h0 := (h.r11 (by simpa [up] using e)).box (.cells #[.slice none 0 0, .slice none 0 0, .slice none 0 0] 24); simpa [up, upV] using h0
    r12 := by simpa [up, upV] using h.r12
    r13 := fun _ => ⟨w.heap.size, by simp [upV], h.off.size, by simp only [up, h14]; exact Blk.new w _ _⟩
    d12 := fun e => by have h0 := h.d12 (by simpa [up] using e); simp [up, h0]
    d14 := fun e => absurd (show l 14 = true by simpa [up] using e) (by simp [h14]) }
theorem RG.s14 (h : RG c l V w) (h12 : l 12 = true) (h13 : l 13 = true) {g : Nat} (hv : V 3 = .pointer (some ⟨g, 0, none⟩)) (hg : c.W.heap.size ≤ g) (hB : Blk w g 24 #[.slice none 0 0, .slice none 0 0, .slice none 0 0]) : RG c (up l 14) V (((w.setCell ⟨g, 0, none⟩ (V 21)).setCell ⟨g, 1, none⟩ (V 25)).setCell ⟨g, 2, none⟩ (V 29)) :=
  { off := ((h.off.setCell (p := ⟨g, 0, none⟩) (.inl hg) _).setCell (p := ⟨g, 1, none⟩) (.inl hg) _).setCell (p := ⟨g, 2, none⟩) (.inl hg) _
    r0 := by simpa [up] using h.r0
    r1 := by simpa [up] using h.r1
    r2 := by simpa [up] using h.r2
    r3 := fun e => by have h0 := h.r3 (by simpa [up] using e); rw [h13, hv] at h0; have h1 := ((h0.set 0 (V 21)).set 1 (V 25)).set 2 (V 29); simpa [up, h13, hv] using h1
    r4 := by simpa [up] using h.r4
    r5 := by simpa [up] using h.r5
    r6 := by simpa [up] using h.r6
    r7 := fun e => by have h0 := h.r7 (by simpa [up] using e); rw [h13, hv] at h0; have h1 := ((h0.set 0 (V 21)).set 1 (V 25)).set 2 (V 29); simpa [up, h13, hv] using h1
    r8 := by simpa [up] using h.r8
    r9 := by simpa [up] using h.r9
    r10 := by simpa [up] using h.r10
    r11 := fun e => by have h0 := h.r11 (by simpa [up] using e); rw [h13, hv] at h0; have h1 := ((h0.set 0 (V 21)).set 1 (V 25)).set 2 (V 29); simpa [up, h13, hv] using h1
    r12 := by simpa [up] using h.r12
    r13 := fun _ => ⟨g, hv, hg, by have h1 := ((hB.set_ 0 (V 21)).set_ 1 (V 25)).set_ 2 (V 29); simpa [up] using h1⟩
    d12 := fun e => by have h0 := h.d12 (by simpa [up] using e); simp [up, h0]
    d14 := fun _ => by simp [up, h12, h13] }
theorem RG.start (hz : ∀ j, l j = false) (ho : Off [] c.W w) : RG c l V w where
  off := ho
  r0 := fun e => absurd e (by simp [hz])
  r1 := fun e => absurd e (by simp [hz])
  r2 := fun e => absurd e (by simp [hz])
  r3 := fun e => absurd e (by simp [hz])
  r4 := fun e => absurd e (by simp [hz])
  r5 := fun e => absurd e (by simp [hz])
  r6 := fun e => absurd e (by simp [hz])
  r7 := fun e => absurd e (by simp [hz])
  r8 := fun e => absurd e (by simp [hz])
  r9 := fun e => absurd e (by simp [hz])
  r10 := fun e => absurd e (by simp [hz])
  r11 := fun e => absurd e (by simp [hz])
  r12 := fun e => absurd e (by simp [hz])
  r13 := fun e => absurd e (by simp [hz])
  d12 := fun e => absurd e (by simp [hz])
  d14 := fun e => absurd e (by simp [hz])
theorem RG.fresh (h : RG c l V w) (h13 : l 13 = true) {g : Addr} (hg : V 3 = .pointer (some g)) : g.block < w.heap.size := by
  obtain ⟨g0, e, _, hB⟩ := h.r13 h13
  rw [e] at hg
  cases hg
  exact hB.lt
end

theorem getD_up {L : Array Bool} {i : Nat} (hi : i < L.size) : (fun j => (L.setIfInBounds i true).getD j false) = up (fun j => L.getD j false) i := by
  funext j
  unfold up
  by_cases h : j = i
  · subst h
    simp [hi]
  · rw [getD_set_ne false (Ne.symm h)]
    simp [h]
theorem getD_tf {L : Array Bool} {i : Nat} (h : L.getD i true = false) : L.getD i false = false := by
  rw [Array.getD_eq_getD_getElem?] at h ⊢
  cases hh : L[i]? with
  | none => rfl
  | some b => rw [hh] at h; exact h
theorem listed_of {md : Region.Mode} {ops : Array Oper} {L : Array Bool} {i : Nat} {o : Oper} (hr : Region.ready md ops L = []) (hs : i < L.size) (ho : ops[i]? = some o) (hd : ∀ e ∈ o.after, L.getD e.on false = true) : L.getD i false = true := by
  cases h : L.getD i false
  · exfalso
    have : i ∈ Region.ready md ops L := mem_ready.2 ⟨by rw [Array.getD_eq_getD_getElem?, Array.getElem?_eq_getElem hs] at h ⊢; exact h, o, ho, fun e he _ => hd e he⟩
    rw [hr] at this
    cases this
  · rfl
theorem dep_of {ops : Array Oper} {L : Array Bool} {i : Nat} {o : Oper} (hi : i ∈ Region.ready .any ops L) (ho : ops[i]? = some o) : ∀ e ∈ o.after, Region.binds .any e = true → L.getD e.on false = true := by
  obtain ⟨_, o', ho', hall⟩ := mem_ready.1 hi
  rw [ho] at ho'
  cases ho'
  exact hall
def ops5 : Array Oper := #[
  { dst := some 18, op := .buildSlice 22 0 #[], type := 22, pos := "law.go:37", after := #[], guard := none },
  { dst := some 19, op := .fieldAddr 24 (.tmp 1) 0, type := 0, pos := "law.go:37", after := #[], guard := none },
  { dst := some 20, op := .load 22 (.tmp 19), type := 22, pos := "law.go:37", after := #[{ on := 1, ground := .data }], guard := none },
  { dst := some 21, op := .call { callee := .builtin .append, args := #[.tmp 18, .tmp 20], argTypes := #[22, 22] }, type := 22, pos := "law.go:37", after := #[{ on := 0, ground := .data }, { on := 2, ground := .data }], guard := none },
  { dst := some 22, op := .buildSlice 22 0 #[], type := 22, pos := "law.go:37", after := #[], guard := none },
  { dst := some 23, op := .fieldAddr 24 (.tmp 1) 1, type := 0, pos := "law.go:37", after := #[], guard := none },
  { dst := some 24, op := .load 22 (.tmp 23), type := 22, pos := "law.go:37", after := #[{ on := 5, ground := .data }], guard := none },
  { dst := some 25, op := .call { callee := .builtin .append, args := #[.tmp 22, .tmp 24], argTypes := #[22, 22] }, type := 22, pos := "law.go:37", after := #[{ on := 4, ground := .data }, { on := 6, ground := .data }, { on := 3, ground := .chain }], guard := none },
  { dst := some 26, op := .buildSlice 22 0 #[], type := 22, pos := "law.go:37", after := #[], guard := none },
  { dst := some 27, op := .fieldAddr 24 (.tmp 1) 2, type := 0, pos := "law.go:37", after := #[], guard := none },
  { dst := some 28, op := .load 22 (.tmp 27), type := 22, pos := "law.go:37", after := #[{ on := 9, ground := .data }], guard := none },
  { dst := some 29, op := .call { callee := .builtin .append, args := #[.tmp 26, .tmp 28], argTypes := #[22, 22] }, type := 22, pos := "law.go:37", after := #[{ on := 8, ground := .data }, { on := 10, ground := .data }, { on := 7, ground := .chain }], guard := none },
  { dst := some 30, op := .build 24 #[(0, .tmp 21), (1, .tmp 25), (2, .tmp 29)], type := 24, pos := "law.go:37", after := #[{ on := 3, ground := .data }, { on := 7, ground := .data }, { on := 11, ground := .data }], guard := none },
  { dst := some 3, op := .alloc 24, type := 0, pos := "law.go:37", after := #[], guard := none },
  { dst := none, op := .store 24 (.tmp 3) (.tmp 30), type := 0, pos := "law.go:37", after := #[{ on := 13, ground := .data }, { on := 12, ground := .data }, { on := 11, ground := .chain }, { on := 0, ground := .phase }, { on := 1, ground := .phase }, { on := 2, ground := .phase }, { on := 3, ground := .phase }, { on := 4, ground := .phase }, { on := 5, ground := .phase }, { on := 6, ground := .phase }, { on := 7, ground := .phase }, { on := 8, ground := .phase }, { on := 9, ground := .phase }, { on := 10, ground := .phase }, { on := 11, ground := .phase }, { on := 12, ground := .phase }, { on := 13, ground := .phase }], guard := none }]
theorem g5_0 : ops5[0]? = some { dst := some 18, op := .buildSlice 22 0 #[], type := 22, pos := "law.go:37", after := #[], guard := none } := rfl
theorem g5_1 : ops5[1]? = some { dst := some 19, op := .fieldAddr 24 (.tmp 1) 0, type := 0, pos := "law.go:37", after := #[], guard := none } := rfl
theorem g5_2 : ops5[2]? = some { dst := some 20, op := .load 22 (.tmp 19), type := 22, pos := "law.go:37", after := #[{ on := 1, ground := .data }], guard := none } := rfl
theorem g5_3 : ops5[3]? = some { dst := some 21, op := .call { callee := .builtin .append, args := #[.tmp 18, .tmp 20], argTypes := #[22, 22] }, type := 22, pos := "law.go:37", after := #[{ on := 0, ground := .data }, { on := 2, ground := .data }], guard := none } := rfl
theorem g5_4 : ops5[4]? = some { dst := some 22, op := .buildSlice 22 0 #[], type := 22, pos := "law.go:37", after := #[], guard := none } := rfl
theorem g5_5 : ops5[5]? = some { dst := some 23, op := .fieldAddr 24 (.tmp 1) 1, type := 0, pos := "law.go:37", after := #[], guard := none } := rfl
theorem g5_6 : ops5[6]? = some { dst := some 24, op := .load 22 (.tmp 23), type := 22, pos := "law.go:37", after := #[{ on := 5, ground := .data }], guard := none } := rfl
theorem g5_7 : ops5[7]? = some { dst := some 25, op := .call { callee := .builtin .append, args := #[.tmp 22, .tmp 24], argTypes := #[22, 22] }, type := 22, pos := "law.go:37", after := #[{ on := 4, ground := .data }, { on := 6, ground := .data }, { on := 3, ground := .chain }], guard := none } := rfl
theorem g5_8 : ops5[8]? = some { dst := some 26, op := .buildSlice 22 0 #[], type := 22, pos := "law.go:37", after := #[], guard := none } := rfl
theorem g5_9 : ops5[9]? = some { dst := some 27, op := .fieldAddr 24 (.tmp 1) 2, type := 0, pos := "law.go:37", after := #[], guard := none } := rfl
theorem g5_10 : ops5[10]? = some { dst := some 28, op := .load 22 (.tmp 27), type := 22, pos := "law.go:37", after := #[{ on := 9, ground := .data }], guard := none } := rfl
theorem g5_11 : ops5[11]? = some { dst := some 29, op := .call { callee := .builtin .append, args := #[.tmp 26, .tmp 28], argTypes := #[22, 22] }, type := 22, pos := "law.go:37", after := #[{ on := 8, ground := .data }, { on := 10, ground := .data }, { on := 7, ground := .chain }], guard := none } := rfl
theorem g5_12 : ops5[12]? = some { dst := some 30, op := .build 24 #[(0, .tmp 21), (1, .tmp 25), (2, .tmp 29)], type := 24, pos := "law.go:37", after := #[{ on := 3, ground := .data }, { on := 7, ground := .data }, { on := 11, ground := .data }], guard := none } := rfl
theorem g5_13 : ops5[13]? = some { dst := some 3, op := .alloc 24, type := 0, pos := "law.go:37", after := #[], guard := none } := rfl
theorem g5_14 : ops5[14]? = some { dst := none, op := .store 24 (.tmp 3) (.tmp 30), type := 0, pos := "law.go:37", after := #[{ on := 13, ground := .data }, { on := 12, ground := .data }, { on := 11, ground := .chain }, { on := 0, ground := .phase }, { on := 1, ground := .phase }, { on := 2, ground := .phase }, { on := 3, ground := .phase }, { on := 4, ground := .phase }, { on := 5, ground := .phase }, { on := 6, ground := .phase }, { on := 7, ground := .phase }, { on := 8, ground := .phase }, { on := 9, ground := .phase }, { on := 10, ground := .phase }, { on := 11, ground := .phase }, { on := 12, ground := .phase }, { on := 13, ground := .phase }], guard := none } := rfl
set_option maxRecDepth 100000 in
theorem region5_any {T : Act} {W : World} {Q : Exit → Act → World → Prop} (c : C5) (hW : c.W = W.drew) (hs : 31 ≤ T.tmps.size) (h1 : T.tmps.getD 1 undef = .pointer (some ⟨c.bx, 0, none⟩))
    (hBx : Blk W c.bx 24 #[.slice c.po c.no c.co, .slice c.pa c.na c.ca, .slice c.pb c.nb c.cb]) (hA : Args3 W c.po c.pa c.pb c.no c.na c.nb c.co c.ca c.cb c.o c.a c.b) (bo : c.no ≤ 60) (ba : c.na ≤ 60) (bb : c.nb ≤ 60)
    (hQ : ∀ (V : Nat → Value) (w' : World) (g : Nat) (q1 q2 q3 : Addr) (d1 d2 d3 : Nat), V 3 = .pointer (some ⟨g, 0, none⟩) → Off [] W w' → Blk w' g 24 #[.slice (some q1) c.no d1, .slice (some q2) c.na d2, .slice (some q3) c.nb d3] → Args3 w' (some q1) (some q2) (some q3) c.no c.na c.nb d1 d2 d3 c.o c.a c.b → Q .normal (slotV T V) w') :
    (Code.region 5 ops5 true).wp Tryz.prog Q T W := by
  have hw0 : Off [] W W.drew := (Off.refl [] W).drew
  have hoW : ∀ {l : Nat → Bool} {V : Nat → Value} {w : World}, RG c l V w → Off [] W w := fun h => hw0.trans_nil (by rw [← hW]; exact h.off)
  refine wp_region_any (by rfl) (wpAny_inv (fun L A w => L.size = 15 ∧ ∃ V, A = slotV T V ∧ RG c (fun j => L.getD j false) V w) ?hend ?hstep 15 _ _ _ ⟨by simp [ops5], fun k => T.tmps.getD k undef, (slotV_start T).symm, ?hst⟩ (by simp [ops5]))
  case hst =>
    refine RG.start (fun j => ?_) (by rw [hW]; exact Off.refl _ _)
    show (Array.replicate ops5.size false).getD j false = false
    rw [Array.getD_eq_getD_getElem?, Array.getElem?_replicate]
    split <;> rfl
  case hend =>
    rintro L A w ⟨hsz, V, rfl, hR⟩ hr
    have l0 : L.getD 0 false = true := listed_of hr (by omega) g5_0 (by intro e he; simp at he)
    have l1 : L.getD 1 false = true := listed_of hr (by omega) g5_1 (by intro e he; simp at he)
    have l2 : L.getD 2 false = true := listed_of hr (by omega) g5_2 (by intro e he; simp at he; subst he; assumption)
    have l3 : L.getD 3 false = true := listed_of hr (by omega) g5_3 (by intro e he; simp at he; rcases he with rfl | rfl <;> assumption)
    have l4 : L.getD 4 false = true := listed_of hr (by omega) g5_4 (by intro e he; simp at he)
    have l5 : L.getD 5 false = true := listed_of hr (by omega) g5_5 (by intro e he; simp at he)
    have l6 : L.getD 6 false = true := listed_of hr (by omega) g5_6 (by intro e he; simp at he; subst he; assumption)
    have l7 : L.getD 7 false = true := listed_of hr (by omega) g5_7 (by intro e he; simp at he; rcases he with rfl | rfl | rfl <;> assumption)
    have l8 : L.getD 8 false = true := listed_of hr (by omega) g5_8 (by intro e he; simp at he)
    have l9 : L.getD 9 false = true := listed_of hr (by omega) g5_9 (by intro e he; simp at he)
    have l10 : L.getD 10 false = true := listed_of hr (by omega) g5_10 (by intro e he; simp at he; subst he; assumption)
    have l11 : L.getD 11 false = true := listed_of hr (by omega) g5_11 (by intro e he; simp at he; rcases he with rfl | rfl | rfl <;> assumption)
    have l12 : L.getD 12 false = true := listed_of hr (by omega) g5_12 (by intro e he; simp at he; rcases he with rfl | rfl | rfl <;> assumption)
    have l13 : L.getD 13 false = true := listed_of hr (by omega) g5_13 (by intro e he; simp at he)
    have l14 : L.getD 14 false = true := listed_of hr (by omega) g5_14 (by intro e he; simp at he; rcases he with rfl | rfl | rfl | rfl | rfl | rfl | rfl | rfl | rfl | rfl | rfl | rfl | rfl | rfl | rfl | rfl | rfl <;> assumption)
    obtain ⟨q1, d1, e1, a1, _⟩ := hR.r3 l3
    obtain ⟨q2, d2, e2, a2, _⟩ := hR.r7 l7
    obtain ⟨q3, d3, e3, a3, _⟩ := hR.r11 l11
    obtain ⟨g, hg, _, hB⟩ := hR.r13 l13
    have hB' : Blk w g 24 #[V 21, V 25, V 29] := by rw [if_pos (show L.getD 14 false = true from l14)] at hB; exact hB
    rw [e1, e2, e3] at hB'
    exact hQ V w g q1 q2 q3 d1 d2 d3 hg (hoW hR) hB' ⟨a1, a2, a3⟩
  case hstep =>
    rintro L A w i ⟨hsz, V, rfl, hR⟩ hi
    have hl := getD_tf (mem_ready.1 hi).1
    have hi15 : i < 15 := by
      obtain ⟨_, o, ho, _⟩ := mem_ready.1 hi
      have := (Array.getElem?_eq_some_iff.1 ho).1
      simpa [ops5] using this
    have hcase : i = 0 ∨ i = 1 ∨ i = 2 ∨ i = 3 ∨ i = 4 ∨ i = 5 ∨ i = 6 ∨ i = 7 ∨ i = 8 ∨ i = 9 ∨ i = 10 ∨ i = 11 ∨ i = 12 ∨ i = 13 ∨ i = 14 := by omega
    rcases hcase with rfl | rfl | rfl | rfl | rfl | rfl | rfl | rfl | rfl | rfl | rfl | rfl | rfl | rfl | rfl
    · exact wpOp_go g5_0 rfl (x0 ⟨by simpa using hsz, _, slotV_put rfl, by rw [getD_up (by omega)]; exact (hR.s0 _).keep ((Off.refl [] _).alloc _)⟩)
    · exact wpOp_go g5_1 rfl (x1 ((slotV_get' rfl).trans h1) ⟨by simpa using hsz, _, slotV_put rfl, by rw [getD_up (by omega)]; exact hR.s1⟩)
    · have dep := dep_of hi g5_2
      have j1 := hR.r1 (dep _ (show ({ on := 1, ground := .data } : Edge) ∈ _ by simp) rfl)
      exact wpOp_go g5_2 rfl (x2 ((slotV_get rfl (by omega)).trans j1) (((hBx.off (hoW hR) (by simp)).cell 0).trans rfl) ⟨by simpa using hsz, _, slotV_put rfl, by rw [getD_up (by omega)]; exact hR.s2⟩)
    · have dep := dep_of hi g5_3
      obtain ⟨g, j1⟩ := hR.r0 (dep _ (show ({ on := 0, ground := .data } : Edge) ∈ _ by simp) rfl)
      have j2 := hR.r2 (dep _ (show ({ on := 2, ground := .data } : Edge) ∈ _ by simp) rfl)
      refine wpOp_go g5_3 rfl (x3 ((slotV_get rfl (by omega)).trans j1) ((slotV_get rfl (by omega)).trans j2) (hA.o.off (hoW hR)) bo (fun q d w' i1 i2 i3 => ⟨by simpa using hsz, _, slotV_put rfl, ?_⟩))
      rw [getD_up (by omega)]
      exact (hR.keep i2).s3 hl ⟨q, d, rfl, i1, fun h13 hne g hg => by rw [i3 hne]; exact Ne.symm (Nat.ne_of_lt (hR.fresh h13 hg))⟩
    · exact wpOp_go g5_4 rfl (x4 ⟨by simpa using hsz, _, slotV_put rfl, by rw [getD_up (by omega)]; exact (hR.s4 _).keep ((Off.refl [] _).alloc _)⟩)
    · exact wpOp_go g5_5 rfl (x5 ((slotV_get' rfl).trans h1) ⟨by simpa using hsz, _, slotV_put rfl, by rw [getD_up (by omega)]; exact hR.s5⟩)
    · have dep := dep_of hi g5_6
      have j1 := hR.r5 (dep _ (show ({ on := 5, ground := .data } : Edge) ∈ _ by simp) rfl)
      exact wpOp_go g5_6 rfl (x6 ((slotV_get rfl (by omega)).trans j1) (((hBx.off (hoW hR) (by simp)).cell 1).trans rfl) ⟨by simpa using hsz, _, slotV_put rfl, by rw [getD_up (by omega)]; exact hR.s6⟩)
    · have dep := dep_of hi g5_7
      obtain ⟨g, j1⟩ := hR.r4 (dep _ (show ({ on := 4, ground := .data } : Edge) ∈ _ by simp) rfl)
      have j2 := hR.r6 (dep _ (show ({ on := 6, ground := .data } : Edge) ∈ _ by simp) rfl)
      refine wpOp_go g5_7 rfl (x7 ((slotV_get rfl (by omega)).trans j1) ((slotV_get rfl (by omega)).trans j2) (hA.a.off (hoW hR)) ba (fun q d w' i1 i2 i3 => ⟨by simpa using hsz, _, slotV_put rfl, ?_⟩))
      rw [getD_up (by omega)]
      exact (hR.keep i2).s7 hl ⟨q, d, rfl, i1, fun h13 hne g hg => by rw [i3 hne]; exact Ne.symm (Nat.ne_of_lt (hR.fresh h13 hg))⟩
    · exact wpOp_go g5_8 rfl (x8 ⟨by simpa using hsz, _, slotV_put rfl, by rw [getD_up (by omega)]; exact (hR.s8 _).keep ((Off.refl [] _).alloc _)⟩)
    · exact wpOp_go g5_9 rfl (x9 ((slotV_get' rfl).trans h1) ⟨by simpa using hsz, _, slotV_put rfl, by rw [getD_up (by omega)]; exact hR.s9⟩)
    · have dep := dep_of hi g5_10
      have j1 := hR.r9 (dep _ (show ({ on := 9, ground := .data } : Edge) ∈ _ by simp) rfl)
      exact wpOp_go g5_10 rfl (x10 ((slotV_get rfl (by omega)).trans j1) (((hBx.off (hoW hR) (by simp)).cell 2).trans rfl) ⟨by simpa using hsz, _, slotV_put rfl, by rw [getD_up (by omega)]; exact hR.s10⟩)
    · have dep := dep_of hi g5_11
      obtain ⟨g, j1⟩ := hR.r8 (dep _ (show ({ on := 8, ground := .data } : Edge) ∈ _ by simp) rfl)
      have j2 := hR.r10 (dep _ (show ({ on := 10, ground := .data } : Edge) ∈ _ by simp) rfl)
      refine wpOp_go g5_11 rfl (x11 ((slotV_get rfl (by omega)).trans j1) ((slotV_get rfl (by omega)).trans j2) (hA.b.off (hoW hR)) bb (fun q d w' i1 i2 i3 => ⟨by simpa using hsz, _, slotV_put rfl, ?_⟩))
      rw [getD_up (by omega)]
      exact (hR.keep i2).s11 hl ⟨q, d, rfl, i1, fun h13 hne g hg => by rw [i3 hne]; exact Ne.symm (Nat.ne_of_lt (hR.fresh h13 hg))⟩
    · have dep := dep_of hi g5_12
      have l3 := (dep _ (show ({ on := 3, ground := .data } : Edge) ∈ _ by simp) rfl)
      have l7 := (dep _ (show ({ on := 7, ground := .data } : Edge) ∈ _ by simp) rfl)
      have l11 := (dep _ (show ({ on := 11, ground := .data } : Edge) ∈ _ by simp) rfl)
      obtain ⟨q1, d1, e1, a1, _⟩ := hR.r3 l3
      obtain ⟨q2, d2, e2, a2, _⟩ := hR.r7 l7
      obtain ⟨q3, d3, e3, a3, _⟩ := hR.r11 l11
      have hN := hR.s12 l3 l7 l11
      rw [e1, e2, e3] at hN
      exact wpOp_go g5_12 rfl (x12 ((slotV_get rfl (by omega)).trans e1) ((slotV_get rfl (by omega)).trans e2) ((slotV_get rfl (by omega)).trans e3) ⟨by simpa using hsz, _, slotV_put rfl, by rw [getD_up (by omega)]; exact hN⟩)
    · exact wpOp_go g5_13 rfl (x13 ⟨by simpa using hsz, _, slotV_put rfl, by rw [getD_up (by omega)]; exact hR.s13 hl⟩)
    · have dep := dep_of hi g5_14
      have l12 := (dep _ (show ({ on := 12, ground := .data } : Edge) ∈ _ by simp) rfl)
      have l13 := (dep _ (show ({ on := 13, ground := .data } : Edge) ∈ _ by simp) rfl)
      have hd := hR.d12 l12
      obtain ⟨q1, d1, e1, a1, _⟩ := hR.r3 hd.1
      obtain ⟨q2, d2, e2, a2, _⟩ := hR.r7 hd.2.1
      obtain ⟨q3, d3, e3, a3, _⟩ := hR.r11 hd.2.2
      obtain ⟨g, hg, hge, hB⟩ := hR.r13 l13
      have hB' : Blk w g 24 #[.slice none 0 0, .slice none 0 0, .slice none 0 0] := by rw [if_neg (by rw [hl]; decide)] at hB; exact hB
      have hN := hR.s14 l12 l13 hg hge hB'
      have j := hR.r12 l12
      rw [e1, e2, e3] at hN j
      exact wpOp_go g5_14 rfl (x14 ((slotV_get rfl (by omega)).trans hg) ((slotV_get rfl (by omega)).trans j) hB' ⟨by simpa using hsz, V, rfl, by rw [getD_up (by omega)]; exact hN⟩)
/-! ### Agree's list is the call's own -/
def AgreeB (L : List Node) (code : Int) (w : World) (e : Ending) (w' : World) : Prop :=
  ∃ v, e = .returned (.tuple #[v, .int .i64 code]) ∧ Sl w' v L ∧ Off [] w w' ∧ (v = .slice none 0 0 ∨ ∃ g off m c, v = .slice (some ⟨g, off, none⟩) m c ∧ w.heap.size ≤ g ∧ ∃ cur, Blk w' g 40 cur ∧ off + m * 4 ≤ cur.size)
set_option maxRecDepth 100000 in
set_option maxHeartbeats 8000000 in
theorem recAgreeB_bad (po pa pb : Option Addr) (no na nb co ca cb : Nat) (o a b : List Node) (w : World) (hO : Arg w po no co o) (hA : Arg w pa na ca a) (hB : Arg w pb nb cb b) (hT : Tabs w) (hk : okThree o a b = false) :
    Calls Tryz.prog 9 #[.slice po no co, .slice pa na ca, .slice pb nb cb] w (AgreeB [] 60 w) := by
  have HR := Lib.hid (root_any po pa pb no na nb co ca cb o a b w hO hA hB hT)
  have HK := Lib.hid hk
  clear hO hA hB hk
  go_enter Tryz.func9, Tryz.ntmps9
  go_wp2_with fail
  refine HR.out.mono ?_
  rintro e w1 ⟨vo, va, vb, rfl, ho, -, h2⟩
  obtain ⟨rfl, rfl, rfl⟩ := h2 HK.out
  rw [HK.out]
  clear h2 HR
  go_wp2_with fail
  go_ret2
  exact ⟨_, rfl, Sl.none, ho.alloc _, .inl rfl⟩
set_option maxRecDepth 100000 in
set_option maxHeartbeats 8000000 in
theorem recAgreeB_ok (po pa pb : Option Addr) (no na nb co ca cb : Nat) (o a b : List Node) (w : World) (hO : Arg w po no co o) (hA : Arg w pa na ca a) (hB : Arg w pb nb cb b) (hT : Tabs w) (hk : okThree o a b = true) (f : Nat) (hf : a.length + 1 < f) (hlen : (agreedV f (rootV o a b)).length ≤ 1000000000) :
    Calls Tryz.prog 9 #[.slice po no co, .slice pa na ca, .slice pb nb cb] w (AgreeB (agreedV f (rootV o a b)).tail 0 w) := by
  have HR := Lib.hid (root_any po pa pb no na nb co ca cb o a b w hO hA hB hT)
  have HK := Lib.hid hk
  have hk' : okTree o = true ∧ okTree a = true ∧ okTree b = true := by
    unfold okThree at hk
    simpa [Bool.and_eq_true] using hk
  have HF := Lib.hid (root_fine hk'.1 hk'.2.1 hk'.2.2)
  have HLEN := Lib.hid hlen
  clear hO hA hB hk hk' hlen
  go_enter Tryz.func9, Tryz.ntmps9
  go_wp2_with fail
  refine HR.out.mono ?_
  rintro e w1 ⟨vo, va, vb, rfl, ho, h1, -⟩
  have h1 := h1 HK.out
  rw [if_pos HK.out]
  have HIT := Lib.hid (fun (W : World) (hw : Off [] w1 W) => agreed_any f _ (rootV o a b) vo va vb W (show (rootN :: a).length < f by rw [List.length_cons]; omega) (h1.1.off hw) (h1.2.1.off hw) (h1.2.2.off hw) HF.out.1 HF.out.2 HLEN.out (hT.off (ho.trans_nil hw)))
  obtain ⟨⟨q1, c1, rfl, -⟩, ⟨q2, c2, rfl, -⟩, q3, c3, rfl, -⟩ := h1
  obtain ⟨l1, hl1⟩ : ∃ l1, (rootN :: o).length = l1 := ⟨_, rfl⟩
  obtain ⟨l2, hl2⟩ : ∃ l2, (rootN :: a).length = l2 := ⟨_, rfl⟩
  obtain ⟨l3, hl3⟩ : ∃ l3, (rootN :: b).length = l3 := ⟨_, rfl⟩
  rw [hl1, hl2, hl3] at HIT ⊢
  clear hl1 hl2 hl3 HR
  obtain ⟨y, r, hyr⟩ := agreed_cons (f := f) (o := o) (a := a) (b := b) (by omega)
  have HYR := Lib.hid hyr
  rw [hyr] at HIT
  clear hyr
  go_wp2_with fail
  refine (HIT.out _ ((Off.refl _ _).alloc _)).mono ?_
  rintro e w2 ⟨v, rfl, hown, ho2⟩
  have hal := ho.alloc (.cells #[.string ⟨#[]⟩, .slice q1 l1 c1, .slice q2 l2 c2, .slice q3 l3 c3] 50)
  have ho := hal.trans_nil ho2
  obtain ⟨p, c, rfl, hr, hc, hm, hn⟩ := own_all hown
  cases p with
  | none => cases (hn rfl).1
  | some q =>
    obtain ⟨g, rfl, hblk⟩ : ∃ g, q = ⟨g, 0, none⟩ ∧ w.heap.size ≤ g ∧ ∃ cur, Blk w2 g 40 cur ∧ cur.size = c * 4 := by
      rcases hown.2 with ⟨h0, _⟩ | ⟨g', cap', cur, hv, hb, hh, _, _, hs, _⟩
      · cases h0
      · injection hv with e1 e2 e3
        injection e1 with e1
        subst e1; subst e3
        exact ⟨g', rfl, Nat.le_trans hal.size hb, cur, hh, hs⟩
    have HBK := Lib.hid hblk
    have hsl := rest_sl hr rfl hc hm
    have hl1 : (y :: r).length = r.length + 1 := rfl
    obtain ⟨n, hn2⟩ : ∃ n, (y :: r).length = n := ⟨_, rfl⟩
    rw [hn2] at hsl hc ⊢
    have hpos : 1 ≤ n := by rw [← hn2, hl1]; omega
    have HSL := Lib.hid hsl
    clear hal ho2 hown hr hm hn hsl hl1 hn2 hblk
    by_cases hc1 : c = 1
    · subst hc1
      obtain rfl : n = 1 := by omega
      go_wp2_with fail
      go_ret2
      refine ⟨_, rfl, ?_, ho, .inr ?_⟩
      · rw [HYR.out]
        have := HSL.out
        rw [if_pos trivial] at this
        exact this
      · obtain ⟨h1, cur, h3, h4⟩ := HBK.out
        exact ⟨g, 0, 0, 0, rfl, h1, cur, h3, by omega⟩
    · go_wp2_with fail
      go_ret2
      refine ⟨_, rfl, ?_, ho, .inr ?_⟩
      · rw [HYR.out]
        have := HSL.out
        rw [if_neg hc1] at this
        exact this
      · obtain ⟨h1, cur, h3, h4⟩ := HBK.out
        exact ⟨g, 4, n - 1, c - 1, rfl, h1, cur, h3, by omega⟩
set_option maxRecDepth 100000 in
set_option maxHeartbeats 16000000 in
theorem rtells_walk (po pa pb : Option Addr) (no na nb co ca cb : Nat) (o a b : List Node) (L : List It) (T : List Node) (code : Int) (w : World) (hT : Tabs w) (hA3 : Args3 w po pa pb no na nb co ca cb o a b) (hl : L.length ≤ 1000000000) (ht : T.length ≤ 1000000000)
    (bo : no ≤ 60) (ba : na ≤ 60) (bb : nb ≤ 60)
    (h1 : ∀ (W : World) (qo qa qb : Option Addr) (d1 d2 d3 : Nat), Args3 W qo qa qb no na nb d1 d2 d3 o a b → Tabs W → Calls Tryz.prog 7 #[.slice qo no d1, .slice qa na d2, .slice qb nb d3] W (ItemsE L code W))
    (h2 : ∀ W : World, Off [] w W → Calls Tryz.prog 8 #[.slice po no co, .slice pa na ca, .slice pb nb cb] W (ItemsE L code W))
    (h3 : ∀ (W : World) (qo qa qb : Option Addr) (d1 d2 d3 : Nat), Args3 W qo qa qb no na nb d1 d2 d3 o a b → Tabs W → Calls Tryz.prog 9 #[.slice qo no d1, .slice qa na d2, .slice qb nb d3] W (AgreeB T code W))
    (h4 : ∀ W : World, Off [] w W → Calls Tryz.prog 10 #[.slice po no co, .slice pa na ca, .slice pb nb cb] W (AgreeE T code W)) :
    Calls Tryz.prog 3 #[.agg #[.slice po no co, .slice pa na ca, .slice pb nb cb]] w fun e w' => e = .returned (.bool true) ∧ Off [] w w' := by
  have H1 := Lib.hid h1
  have H2 := Lib.hid h2
  have H3 := Lib.hid h3
  have H4 := Lib.hid h4
  have HSM := Lib.hid (show (decide (no ≤ 60) && (decide (na ≤ 60) && decide (nb ≤ 60))) = true by rw [decide_eq_true bo, decide_eq_true ba, decide_eq_true bb]; rfl)
  have HA3 := Lib.hid hA3
  clear h1 h2 h3 h4 hA3
  obtain ⟨l, hll⟩ : ∃ l, L.length = l := ⟨_, rfl⟩
  obtain ⟨k, htk⟩ : ∃ k, T.length = k := ⟨_, rfl⟩
  rw [hll] at hl
  rw [htk] at ht
  have HL := Lib.hid hll
  have HK := Lib.hid htk
  clear hll htk
  go_enter Tryz.func3, Tryz.ntmps3
  go_wp2_with fail
  have hof := (Off.refl [] w).alloc (.cells #[.slice po no co, .slice pa na ca, .slice pb nb cb] 24)
  refine (awake12_any _ (hT.off hof)).mono ?_
  rintro e w1 ⟨rfl, ho1⟩
  have hB := (Blk.new w 24 #[.slice po no co, .slice pa na ca, .slice pb nb cb]).off ho1 (by simp)
  have hof := hof.trans_nil ho1
  have hc := hB.cell
  have hlt := hB.lt
  clear ho1
  go_wp2_with fail
  refine (small12_any po pa pb no na nb co ca cb _ true HSM.out).mono ?_
  rintro e w2 ⟨rfl, ho⟩
  have hB := hB.off ho (by simp)
  have hof := hof.trans_nil ho
  clear hc hlt ho
  have hc := hB.cell
  have hlt := hB.lt
  go_upto_region 5 with fail
  go_cut [3] from 18 to 30 (fun s3 wx => ∃ (g : Nat) (q1 q2 q3 : Option Addr) (d1 d2 d3 : Nat), s3 = .pointer (some ⟨g, 0, none⟩) ∧ Off [] w2 wx ∧ Blk wx g 24 #[.slice q1 no d1, .slice q2 na d2, .slice q3 nb d3] ∧ Args3 wx q1 q2 q3 no na nb d1 d2 d3 o a b)
  case first =>
    have HA := HA3.out.off hof
    refine region5_any ⟨po, pa, pb, no, na, nb, co, ca, cb, o, a, b, w2.drew, w.heap.size⟩ ?_ ?_ ?_ ?_ ?_ bo ba bb ?_
    · rfl
    · show 31 ≤ 120; decide
    · rfl
    · exact hB
    · exact HA
    intro V w' g q1 q2 q3 d1 d2 d3 hv hox hbx hax
    rw [slotV_lit]
    simp only [Act.put, List.setIfInBounds_toArray, List.set_cons_zero, List.set_cons_succ, hv]
    go_wp2_with fail
    go_meet
    exact ⟨g, some q1, some q2, some q3, d1, d2, d3, rfl, hox, hbx, hax⟩
  case rest =>
  obtain ⟨g, q1, q2, q3, d1, d2, d3, rfl, hofx, hBx, hAx⟩ := hcut
  have hof := hof.trans_nil hofx
  have hB := hB.off hofx (by simp)
  clear hc hlt hofx
  have hc := hB.cell
  have hlt := hB.lt
  have hcx := hBx.cell
  have hltx := hBx.lt
  go_wp2_with fail
  refine (H1.out _ q1 q2 q3 d1 d2 d3 hAx (hT.off hof)).mono ?_
  rintro e w3 ⟨v, rfl, hown, ho⟩
  obtain ⟨p3, c3, rfl⟩ := own_slice hown
  rw [HL.out] at hown ⊢
  have HO1 := Lib.hid hown
  have hof := hof.trans_nil ho
  have hB := hB.off ho (by simp)
  have hBx := hBx.off ho (by simp)
  have hAx := hAx.off ho
  clear hc hlt hcx hltx ho hown
  have hc := hB.cell
  have hlt := hB.lt
  have hcx := hBx.cell
  have hltx := hBx.lt
  go_wp2_with fail
  refine (H2.out _ hof).mono ?_
  rintro e w4 ⟨v, rfl, hown, ho⟩
  obtain ⟨p4, c4, rfl⟩ := own_slice hown
  rw [HL.out] at hown ⊢
  have HO2 := Lib.hid hown
  have HO1 := Lib.hid (own_keepG HO1.out ho)
  have hof := hof.trans_nil ho
  have hB := hB.off ho (by simp)
  have hBx := hBx.off ho (by simp)
  have hAx := hAx.off ho
  clear hc hlt hcx hltx ho hown
  have hc := hB.cell
  have hlt := hB.lt
  have hcx := hBx.cell
  have hltx := hBx.lt
  go_wp2_with fail
  have HB4 := Lib.hid hB
  have HBX4 := Lib.hid hBx
  have HAX4 := Lib.hid hAx
  have HOF4 := Lib.hid hof
  refine (H3.out _ q1 q2 q3 d1 d2 d3 hAx (hT.off hof)).mono ?_
  rintro e w5 ⟨v, rfl, ⟨p5, c5, rfl, hr5, -⟩, ho, hfr⟩
  rw [HK.out] at hfr ⊢
  have HFR := Lib.hid hfr
  have HR5 := Lib.hid hr5
  have HO1 := Lib.hid (own_keepG HO1.out ho)
  have HO2 := Lib.hid (own_keepG HO2.out ho)
  have hB := hB.off ho (by simp)
  have hch := ho
  clear hc hlt hcx hltx ho hr5 hfr hof hBx hAx
  have hc := hB.cell
  have hlt := hB.lt
  go_wp2_with fail
  refine (H4.out _ (HOF4.out.trans_nil hch)).mono ?_
  rintro e w6 ⟨v, rfl, ⟨p6, c6, rfl, hr6, -⟩, ho⟩
  rw [HK.out]
  have HR6 := Lib.hid hr6
  have HR5 := Lib.hid (HR5.out.off ho)
  have HO1 := Lib.hid (own_keepG HO1.out ho)
  have HO2 := Lib.hid (own_keepG HO2.out ho)
  have h56 := ho
  clear hc hlt ho hr6 hB
  go_wp2_with fail
  refine (rsame12i_any L p3 p4 l c3 c4 _ _ w6 HL.out hl HO1.out HO2.out).mono ?_
  rintro e w7 ⟨rfl, ho⟩
  have h56 := h56.trans_nil ho
  go_wp2_with fail
  refine (rsameT_v T p5 p6 k c5 c6 w7 HK.out (by omega) (HR5.out.off ho) (HR6.out.off ho)).mono ?_
  rintro e w8 ⟨rfl, ho2⟩
  have h58 := h56.trans_nil ho2
  have HR5 := Lib.hid ((HR5.out.off ho).off ho2)
  have h48 := hch.trans_nil h58
  clear ho ho2 h56 HR6 HO1 HO2 H1 H2 H3 H4
  go_wp2_with fail
  go_loopw [93] (fun y wr => ∃ i : Nat, y = .int .i64 i ∧ i ≤ k ∧ Off [] w4 wr ∧ Hid (∀ (g off m c : Nat), (Value.slice p5 k c5) = .slice (some ⟨g, off, none⟩) m c → w4.heap.size ≤ g ∧ ∃ cur, Blk wr g 40 cur ∧ off + m * 4 ≤ cur.size)) (fun y _ => k - (intOf y).toNat)
  case atStart =>
    refine ⟨0, rfl, by omega, h48, Lib.hid (fun g off m c h => ?_)⟩
    rcases HFR.out with h0 | ⟨g', off', m', c', h0, h1, cur, h2, h3⟩
    · rw [h0] at h; cases h
    · rw [h0] at h
      injection h with e1 e2 e3
      injection e1 with e1
      injection e1 with e1 e4
      subst e1; subst e2; subst e4
      exact ⟨h1, cur, h2.off h58 (by simp), h3⟩
  case round =>
    clear h48 h58 hch
    obtain ⟨i, rfl, hi, ho, hw⟩ := hrel
    by_cases hlt : i < k
    · obtain ⟨g, off, hp5⟩ : ∃ g off, p5 = some ⟨g, off, none⟩ := by
        rcases HFR.out with h0 | ⟨g', off', m', c', h0, -⟩
        · injection h0 with _ h0 _
          omega
        · injection h0 with h0 _ _
          exact ⟨g', off', h0⟩
      subst hp5
      obtain ⟨hg, cur, hbk, hsz⟩ := hw.out g off k c5 rfl
      have hcl := hbk.cell (off + i * 4 + 1)
      rw [Array.getElem?_eq_getElem (by omega)] at hcl
      have hfz := hbk.frozen (off + i * 4 + 1)
      have HST := Lib.hid (hbk.set_ (off + i * 4 + 1) (.int .i64 9))
      have HO9 := Lib.hid (ho.setCell (p := ⟨g, off + i * 4 + 1, none⟩) (.inl hg) (.int .i64 9))
      have hgl := hbk.lt
      generalize cur[off + i * 4 + 1] = cv at hcl
      clear hw ho
      go_wp2_with fail
      refine ⟨⟨i + 1, by congr 1, by omega, HO9.out, Lib.hid (fun g1 o1 m1 c1 h => ?_)⟩, by simp only [intOf]; omega⟩
      injection h with e1 e2 e3
      injection e1 with e1
      injection e1 with e1 e4
      subst e1; subst e2; subst e4
      exact ⟨hg, _, HST.out, by rw [Array.size_setIfInBounds]; exact hsz⟩
    · obtain rfl : i = k := by omega
      have hB := HB4.out.off ho (by simp)
      have hBx := HBX4.out.off ho (by simp)
      have hAx := HAX4.out.off ho
      have hA := HA3.out.off (HOF4.out.trans_nil ho)
      have hof := HOF4.out.trans_nil ho
      have hc := hB.cell
      have hlt := hB.lt
      have hcx := hBx.cell
      have hltx := hBx.lt
      clear hw
      go_wp2_with fail
      refine (rsameT_v o q1 po no d1 co _ hAx.o.len (by omega) hAx.o.row hA.o.row).mono ?_
      rintro e w9 ⟨rfl, ho9⟩
      have hB := hB.off ho9 (by simp)
      have hBx := hBx.off ho9 (by simp)
      have hAx := hAx.off ho9
      have hA := hA.off ho9
      have hof := hof.trans_nil ho9
      clear hc hlt hcx hltx ho9
      have hc := hB.cell
      have hlt := hB.lt
      have hcx := hBx.cell
      have hltx := hBx.lt
      go_wp2_with fail
      refine (rsameT_v a q2 pa na d2 ca _ hAx.a.len (by omega) hAx.a.row hA.a.row).mono ?_
      rintro e w10 ⟨rfl, ho9⟩
      have hB := hB.off ho9 (by simp)
      have hBx := hBx.off ho9 (by simp)
      have hAx := hAx.off ho9
      have hA := hA.off ho9
      have hof := hof.trans_nil ho9
      clear hc hlt hcx hltx ho9
      have hc := hB.cell
      have hlt := hB.lt
      have hcx := hBx.cell
      have hltx := hBx.lt
      go_wp2_with fail
      refine (rsameT_v b q3 pb nb d3 cb _ hAx.b.len (by omega) hAx.b.row hA.b.row).mono ?_
      rintro e w11 ⟨rfl, ho9⟩
      go_wp2_with fail
      go_ret
      exact ⟨rfl, hof.trans_nil ho9⟩
/-- too great for the plain way -/
theorem rtells_big (po pa pb : Option Addr) (no na nb co ca cb : Nat) (w : World) (hT : Tabs w) (hs : (decide (no ≤ 60) && (decide (na ≤ 60) && decide (nb ≤ 60))) = false) :
    Calls Tryz.prog 3 #[.agg #[.slice po no co, .slice pa na ca, .slice pb nb cb]] w fun e w' => e = .returned (.bool true) ∧ Off [] w w' := by
  have HSM := Lib.hid hs
  clear hs
  go_enter Tryz.func3, Tryz.ntmps3
  go_wp2_with fail
  have hof := (Off.refl [] w).alloc (.cells #[.slice po no co, .slice pa na ca, .slice pb nb cb] 24)
  refine (awake12_any _ (hT.off hof)).mono ?_
  rintro e w1 ⟨rfl, ho1⟩
  have hB := (Blk.new w 24 #[.slice po no co, .slice pa na ca, .slice pb nb cb]).off ho1 (by simp)
  have hof := hof.trans_nil ho1
  have hc := hB.cell
  have hlt := hB.lt
  clear ho1
  go_wp2_with fail
  refine (small12_any po pa pb no na nb co ca cb _ false HSM.out).mono ?_
  rintro e w2 ⟨rfl, ho⟩
  have hof := hof.trans_nil ho
  clear hc hlt ho
  go_wp2_with fail
  go_ret
  exact ⟨rfl, hof⟩
theorem rtells_any (po pa pb : Option Addr) (no na nb co ca cb : Nat) (o a b : List Node) (w : World) (hA3 : Args3 w po pa pb no na nb co ca cb o a b) (hF : Fit3 o a b) (hT : Tabs w) :
    Calls Tryz.prog 3 #[.agg #[.slice po no co, .slice pa na ca, .slice pb nb cb]] w fun e w' => e = .returned (.bool true) ∧ Off [] w w' := by
  cases hs : (decide (no ≤ 60) && (decide (na ≤ 60) && decide (nb ≤ 60)))
  · exact rtells_big po pa pb no na nb co ca cb w hT hs
  · simp only [Bool.and_eq_true, decide_eq_true_eq] at hs
    obtain ⟨bo, ba, bb⟩ := hs
    cases hk : okThree o a b
    · exact rtells_walk po pa pb no na nb co ca cb o a b [] [] 60 w hT hA3 (by simp) (by simp) bo ba bb
        (fun W qo qa qb d1 d2 d3 h hT' => recItems_bad qo qa qb no na nb d1 d2 d3 o a b W h.o h.a h.b hT' hk)
        (fun W ho => ritems_any po pa pb no na nb co ca cb o a b W (hA3.off ho) hF (by omega) (by omega) (by omega) [] 60 (.inr ⟨hk, rfl, rfl⟩))
        (fun W qo qa qb d1 d2 d3 h hT' => recAgreeB_bad qo qa qb no na nb d1 d2 d3 o a b W h.o h.a h.b hT' hk)
        (fun W ho => ragree_any po pa pb no na nb co ca cb o a b W (hA3.off ho) hF (by omega) (by omega) (by omega) [] 60 (.inr ⟨hk, rfl, rfl⟩))
    · have hb := items_bound hk
      have ht := hk
      unfold okThree at ht
      simp only [Bool.and_eq_true] at ht
      have l2 := okTree_len ht.2.1
      exact rtells_walk po pa pb no na nb co ca cb o a b (itemsV 2000 (rootV o a b)) (agreedV 2000 (rootV o a b)).tail 0 w hT hA3 hb.1 (by rw [List.length_tail]; omega) bo ba bb
        (fun W qo qa qb d1 d2 d3 h hT' => recItems_ok qo qa qb no na nb d1 d2 d3 o a b W h.o h.a h.b hT' hk 2000 (by omega) hb.1)
        (fun W ho => ritems_any po pa pb no na nb co ca cb o a b W (hA3.off ho) hF (by omega) (by omega) (by omega) _ 0 (.inl ⟨hk, rfl, rfl⟩))
        (fun W qo qa qb d1 d2 d3 h hT' => recAgreeB_ok qo qa qb no na nb d1 d2 d3 o a b W h.o h.a h.b hT' hk 2000 (by omega) hb.2)
        (fun W ho => ragree_any po pa pb no na nb co ca cb o a b W (hA3.off ho) hF (by omega) (by omega) (by omega) _ 0 (.inl ⟨hk, rfl, rfl⟩))
end Go.Proofs.YtpaeihdkggbeoaaGreatDoor
