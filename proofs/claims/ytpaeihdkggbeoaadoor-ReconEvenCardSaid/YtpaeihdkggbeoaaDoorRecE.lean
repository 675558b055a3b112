/- recon with both replicas exchanged, in plain words; how many items there can be; hawserlaw12.ReconEven: the walk. (Merged by merge.py.) Conditions: what each lemma states; the tables of unicode/utf8 are laid. -/
import Derived.Test.YtpaeihdkggbeoaaDoorAgreed
import Derived.Test.YtpaeihdkggbeoaaDoorRecC
namespace Go.Proofs.YtpaeihdkggbeoaaDoor
open Go.RowKit Go.Op
theorem sort_perm {l m : List ByteArray} (h : l.Perm m) : sortS l = sortS m := by
  unfold sortS
  congr 1
  have tr : ∀ a b c : Str, decide (a ≤ b) = true → decide (b ≤ c) = true → decide (a ≤ c) = true := fun a b c h1 h2 => by
    rw [decide_eq_true_eq] at *; exact List.le_trans h1 h2
  have tot : ∀ a b : Str, (decide (a ≤ b) || decide (b ≤ a)) = true := fun a b => by
    rw [Bool.or_eq_true, decide_eq_true_eq, decide_eq_true_eq]; exact List.le_total a b
  refine List.Perm.eq_of_pairwise (le := fun a b => decide (a ≤ b) = true) (fun a b _ _ h1 h2 => ?_) (List.pairwise_mergeSort tr tot _) (List.pairwise_mergeSort tr tot _) ?_
  · rw [decide_eq_true_eq] at h1 h2; exact List.le_antisymm h1 h2
  · exact ((List.mergeSort_perm _ _).trans (h.map str)).trans (List.mergeSort_perm _ _).symm
def Vw.swap (w : Vw) : Vw := ⟨w.path, w.o, w.b, w.a⟩
theorem names_swap (w : Vw) : namesV w.swap = namesV w := by
  unfold namesV
  congr 1
  exact sort_perm (List.Perm.append_left _ List.perm_append_comm)
theorem below_swap (w : Vw) : belowV w.swap = (belowV w).map Vw.swap := by
  unfold belowV
  rw [names_swap, List.map_map]
  rfl
def swapK (k : Int) : Int := if k = 2 then 3 else if k = 3 then 2 else k
def It.swap (i : It) : It := ⟨i.path, swapK i.what⟩
theorem items_swap : ∀ (f : Nat) (w : Vw), itemsV f w.swap = (itemsV f w).map It.swap
  | 0, _ => rfl
  | f + 1, w => by
    show (if w.b = w.a then (if w.o = w.b then [] else [It.mk w.path 1]) else if (dirV w.b && dirV w.a) = true then (belowV w.swap).flatMap (itemsV f) else if w.o = w.a then [It.mk w.path 2] else if w.o = w.b then [It.mk w.path 3] else [It.mk w.path 4]) = (if w.a = w.b then (if w.o = w.a then [] else [It.mk w.path 1]) else if (dirV w.a && dirV w.b) = true then (belowV w).flatMap (itemsV f) else if w.o = w.b then [It.mk w.path 2] else if w.o = w.a then [It.mk w.path 3] else [It.mk w.path 4]).map It.swap
    by_cases hab : w.a = w.b
    · rw [if_pos hab, if_pos hab.symm, hab]
      by_cases h : w.o = w.b
      · rw [if_pos h]; rfl
      · rw [if_neg h]; rfl
    · rw [if_neg hab, if_neg (fun e => hab e.symm)]
      cases ha : dirV w.a <;> cases hb : dirV w.b <;> simp only [Bool.and_self, Bool.and_false, Bool.and_true, if_true, Bool.false_eq_true, if_false]
      case true.true =>
        rw [below_swap, List.flatMap_map, List.map_flatMap]
        exact congrArg (fun g => (belowV w).flatMap g) (funext fun y => items_swap f y)
      all_goals
        by_cases h1 : w.o = w.b
        · have h2 : ¬ w.o = w.a := fun e => hab (by rw [← e, h1])
          rw [if_pos h1, if_neg h2, if_pos h1]; rfl
        · by_cases h2 : w.o = w.a
          · simp only [if_neg h1, if_pos h2]; rfl
          · simp only [if_neg h1, if_neg h2]; rfl
theorem agreed_swap : ∀ (f : Nat) (w : Vw), agreedV f w.swap = agreedV f w
  | 0, _ => rfl
  | f + 1, w => by
    show (if w.b = w.a then laidV w.path w.b else if (dirV w.b && dirV w.a) = true then ⟨w.path, 2, ⟨#[]⟩, 0⟩ :: (belowV w.swap).flatMap (agreedV f) else laidV w.path w.o) = (if w.a = w.b then laidV w.path w.a else if (dirV w.a && dirV w.b) = true then ⟨w.path, 2, ⟨#[]⟩, 0⟩ :: (belowV w).flatMap (agreedV f) else laidV w.path w.o)
    by_cases hab : w.a = w.b
    · rw [if_pos hab, if_pos hab.symm, hab]
    · rw [if_neg hab, if_neg (fun e => hab e.symm), Bool.and_comm, below_swap, List.flatMap_map]
      have : (belowV w).flatMap (fun y => agreedV f y.swap) = (belowV w).flatMap (agreedV f) := congrArg (fun g => (belowV w).flatMap g) (funext fun y => agreed_swap f y)
      rw [this]
theorem okName_parts {s : Str} (h : okName s = true) : parts s = [s] := by
  refine parts_clean s fun hm => ?_
  unfold okName at h
  simp only [Bool.and_eq_true] at h
  have h1 := h.2
  unfold noSep at h1
  rw [List.all_eq_true] at h1
  have := h1 47 hm
  simp at this
/-- a name has a part that is not empty -/
theorem part_ne {v : List Node} {x : ByteArray} (h : x ∈ inV v) : partV v x ≠ [] := by
  unfold inV at h
  split at h
  · rename_i hd
    have ht : okTree v.tail = true := by
      cases hk : okTree v.tail
      · unfold namesR at h; rw [hk] at h; cases h
      · rfl
    obtain ⟨m, hm, hp⟩ := names_found ht h
    rw [if_pos rfl] at hp
    have hk : okPath (str x) = true := by rw [← hp]; exact okTree_path ht hm
    unfold partV
    rw [if_pos hd, atR_path ht hk]
    have : m ∈ inAt v.tail (str x) := mem_inAt.2 ⟨hm, by rw [hp]; exact within_self hk⟩
    intro e
    rw [List.map_eq_nil_iff] at e
    rw [e] at this
    cases this
  · cases h
def inX (x : ByteArray) (n : Node) : Bool := okPath (str x) && within n.p (str x)
theorem atR_le {t : List Node} {x : ByteArray} (hx : str x ≠ []) : (atR t (str x)).length ≤ (t.filter (inX x)).length := by
  unfold atR
  rw [if_neg hx]
  split
  · split
    · rename_i hk
      rw [List.length_map]
      unfold inAt
      have : inX x = fun n : Node => within n.p (str x) := by funext n; unfold inX; rw [hk, Bool.true_and]
      rw [this]
      exact Nat.le_refl _
    · simp
  · simp
theorem one_name {N : List ByteArray} (hN : N.Nodup) (hok : ∀ x ∈ N, okName (str x) = true) (n : Node) : (N.filter fun x => inX x n).length ≤ 1 := by
  have hd : (N.filter fun x => inX x n).Nodup := hN.filter _
  have hall : ∀ a ∈ N.filter (fun x => inX x n), ∀ b ∈ N.filter (fun x => inX x n), a = b := fun a ha b hb => by
    obtain ⟨ha1, ha2⟩ := List.mem_filter.1 ha
    obtain ⟨hb1, hb2⟩ := List.mem_filter.1 hb
    unfold inX at ha2 hb2
    rw [Bool.and_eq_true] at ha2 hb2
    obtain ⟨_, r1, e1⟩ := within_pre ha2.1 ha2.2
    obtain ⟨_, r2, e2⟩ := within_pre hb2.1 hb2.2
    rw [okName_parts (hok a ha1)] at e1
    rw [okName_parts (hok b hb1)] at e2
    rw [← e2] at e1
    exact str_inj (List.cons.inj e1).1
  match hl : N.filter (fun x => inX x n), hd, hall with
  | [], _, _ => simp
  | [a], _, _ => simp
  | a :: b :: l, hd, hall =>
    exfalso
    have := hall a (by simp) b (by simp)
    subst this
    simp at hd
theorem sum_inX (N : List ByteArray) (t : List Node) : (N.map fun x => (t.filter (inX x)).length).sum = (t.map fun n => (N.filter fun x => inX x n).length).sum := by
  induction t with
  | nil =>
    induction N with
    | nil => rfl
    | cons x N ih => simpa using ih
  | cons n t ih =>
    rw [List.map_cons, List.sum_cons, ← ih]
    clear ih
    induction N with
    | nil => simp
    | cons x N ih2 =>
      simp only [List.map_cons, List.sum_cons, List.filter_cons] at ih2 ⊢
      by_cases h : inX x n = true
      · simp only [h, if_true, List.length_cons] at ih2 ⊢; omega
      · simp only [Bool.not_eq_true] at h
        simp only [h, Bool.false_eq_true, if_false] at ih2 ⊢; omega
/-- the parts of different names are apart -/
theorem parts_sum {N : List ByteArray} (hN : N.Nodup) (hok : ∀ x ∈ N, okName (str x) = true) (v : List Node) : (N.map fun x => (partV v x).length).sum ≤ v.length - 1 := by
  have h1 : ∀ M : List ByteArray, (∀ x ∈ M, okName (str x) = true) → (M.map fun x => (partV v x).length).sum ≤ (M.map fun x => (v.tail.filter (inX x)).length).sum := fun M => by
    induction M with
    | nil => intro _; simp
    | cons x M ih =>
      intro hM
      have h2 := ih (fun y hy => hM y (List.mem_cons_of_mem _ hy))
      have h3 : (partV v x).length ≤ (v.tail.filter (inX x)).length := by
        unfold partV
        split
        · exact atR_le (okName_ne (hM x (by simp)))
        · simp
      simp only [List.map_cons, List.sum_cons]
      omega
  refine Nat.le_trans (h1 N hok) ?_
  rw [sum_inX]
  have h4 : ∀ t : List Node, (t.map fun n => (N.filter fun x => inX x n).length).sum ≤ t.length := fun t => by
    induction t with
    | nil => simp
    | cons n t ih =>
      have := one_name hN hok n
      simp only [List.map_cons, List.sum_cons, List.length_cons]
      omega
  have := h4 v.tail
  rw [List.length_tail] at this
  exact this
def sizeV (w : Vw) : Nat := w.o.length + w.a.length + w.b.length
theorem below_sum {w : Vw} (hN : (namesV w).Nodup) : ((belowV w).map sizeV).sum ≤ (w.o.length - 1) + (w.a.length - 1) + (w.b.length - 1) := by
  have hok : ∀ x ∈ namesV w, okName (str x) = true := fun x hx => namesV_mem hx
  have h1 := parts_sum hN hok w.o
  have h2 := parts_sum hN hok w.a
  have h3 := parts_sum hN hok w.b
  have h4 : ∀ M : List ByteArray, ((M.map (subV w)).map sizeV).sum = (M.map fun x => (partV w.o x).length).sum + (M.map fun x => (partV w.a x).length).sum + (M.map fun x => (partV w.b x).length).sum := fun M => by
    induction M with
    | nil => rfl
    | cons x M ih =>
      simp only [List.map_cons, List.sum_cons]
      rw [ih]
      show (partV w.o x).length + (partV w.a x).length + (partV w.b x).length + _ = _
      omega
  have h5 := h4 (namesV w)
  unfold belowV
  omega
theorem below_one {w y : Vw} (hy : y ∈ belowV w) : 1 ≤ sizeV y := by
  unfold belowV at hy
  obtain ⟨x, hx, rfl⟩ := List.mem_map.1 hy
  have h1 := sortS_mem (compS_mem hx)
  show 1 ≤ (partV w.o x).length + (partV w.a x).length + (partV w.b x).length
  rcases List.mem_append.1 h1 with h2 | h2
  · have := List.length_pos_iff.2 (part_ne h2); omega
  · rcases List.mem_append.1 h2 with h3 | h3
    · have := List.length_pos_iff.2 (part_ne h3); omega
    · have := List.length_pos_iff.2 (part_ne h3); omega
theorem flat_sum {α : Type} (g : Vw → List α) (L : List Vw) (h : ∀ y ∈ L, (g y).length ≤ sizeV y) : (L.flatMap g).length ≤ (L.map sizeV).sum := by
  induction L with
  | nil => simp
  | cons y L ih =>
    have h1 := h y (by simp)
    have h2 := ih fun z hz => h z (List.mem_cons_of_mem _ hz)
    rw [List.flatMap_cons, List.length_append, List.map_cons, List.sum_cons]
    omega
theorem items_len (hnd : ∀ w, (namesV w).Nodup) : ∀ (f : Nat) (w : Vw), 1 ≤ sizeV w → (itemsV f w).length ≤ sizeV w
  | 0, _, _ => by unfold itemsV; simp
  | f + 1, w, hw => by
    have h1 : ∀ l : List It, l.length ≤ 1 → l.length ≤ sizeV w := fun l h => by omega
    unfold itemsV
    split
    · exact h1 _ (by split <;> simp)
    · split
      · refine Nat.le_trans (flat_sum _ _ fun y hy => items_len hnd f y (below_one hy)) (Nat.le_trans (below_sum (hnd w)) ?_)
        unfold sizeV; omega
      · exact h1 _ (by split; simp; split <;> simp)
theorem agreed_len (hnd : ∀ w, (namesV w).Nodup) : ∀ (f : Nat) (w : Vw), (agreedV f w).length ≤ sizeV w
  | 0, _ => by unfold agreedV; simp
  | f + 1, w => by
    have hl : ∀ (p : ByteArray) (v : List Node), (laidV p v).length = v.length := fun p v => by unfold laidV genAll; rw [List.length_mapIdx]
    unfold agreedV
    split
    · rw [hl]; unfold sizeV; omega
    · split
      · rename_i hd
        rw [Bool.and_eq_true] at hd
        have ha : 1 ≤ w.a.length := List.length_pos_iff.2 fun e => by rw [e] at hd; cases hd.1
        have h2 := flat_sum (agreedV f) (belowV w) fun y _ => agreed_len hnd f y
        have h3 := below_sum (hnd w)
        rw [List.length_cons]
        unfold sizeV
        omega
      · rw [hl]; unfold sizeV; omega
theorem compact_nodup {zs : List Str} (h : zs.Pairwise fun a b => a ≤ b) : (Lib.compact zs).Nodup := by
  unfold Lib.compact Lib.compactUpTo
  have hp : ((List.range zs.length).filter (Lib.keeps zs.toArray)).Pairwise (fun i j => i < j) := (List.pairwise_lt_range).filter _
  unfold List.Nodup
  rw [List.pairwise_map, List.pairwise_iff_getElem]
  intro i j hi hj hij e
  have hlt := List.pairwise_iff_getElem.1 hp i j hi hj hij
  have mj := List.mem_filter.1 (List.getElem_mem hj)
  generalize ((List.range zs.length).filter (Lib.keeps zs.toArray))[i] = a at *
  generalize ((List.range zs.length).filter (Lib.keeps zs.toArray))[j] = b at *
  have hb := List.mem_range.1 mj.1
  have g : ∀ k, k < zs.length → zs.toArray[k]! = zs[k]! := fun k hk => by
    rw [getElem!_pos zs.toArray k (by simpa using hk), getElem!_pos zs k hk]; simp
  rw [g a (by omega), g b hb] at e
  have hk := mj.2
  unfold Lib.keeps at hk
  rw [decide_eq_true_eq] at hk
  rcases hk with h0 | h0
  · omega
  · rw [g b hb, g (b - 1) (by omega)] at h0
    have hne : zs[b]! ≠ zs[b - 1]! := h0
    have hle : ∀ p q, p < q → q < zs.length → zs[p]! ≤ zs[q]! := fun p q h1 h2 => by
      rw [getElem!_pos zs p (by omega), getElem!_pos zs q h2]
      exact List.pairwise_iff_getElem.1 h p q (by omega) h2 h1
    have h1 : zs[b - 1]! ≤ zs[b]! := hle _ _ (by omega) hb
    have h2 : zs[b]! ≤ zs[b - 1]! := by
      rcases Nat.lt_or_ge a (b - 1) with h3 | h3
      · rw [← e]; exact hle _ _ h3 (by omega)
      · have : a = b - 1 := by omega
        rw [← e, this]; exact List.le_refl _
    exact hne (List.le_antisymm h2 h1)
theorem names_nodup (w : Vw) : (namesV w).Nodup := by
  unfold namesV compS sortS
  rw [List.map_map]
  have hm : ∀ l : List Str, l.map (str ∘ bs) = l := fun l => by
    rw [show (str ∘ bs : Str → Str) = id from by funext x; exact str_bs x, List.map_id]
  rw [hm]
  unfold List.Nodup
  rw [List.pairwise_map]
  refine (compact_nodup ?_).imp fun {a b} h e => h (by rw [← str_bs a, e, str_bs])
  refine (List.pairwise_mergeSort (fun a b c h1 h2 => ?_) (fun a b => ?_) _).imp fun {a b} h => by simpa using h
  · rw [decide_eq_true_eq] at *; exact List.le_trans h1 h2
  · rw [Bool.or_eq_true, decide_eq_true_eq, decide_eq_true_eq]; exact List.le_total a b
theorem itCells_get : ∀ {L : List It} {i : Nat} {x : It}, L[i]? = some x → (itCells L)[i * 2]? = some (.string x.path) ∧ (itCells L)[i * 2 + 1]? = some (.int .i64 x.what)
  | [], _, _, h => by simp at h
  | y :: L, 0, x, h => by
    simp only [List.getElem?_cons_zero, Option.some.injEq] at h
    subst h
    exact ⟨rfl, rfl⟩
  | y :: L, i + 1, x, h => by
    have h' : L[i]? = some x := by simpa using h
    have r := itCells_get h'
    have e : itCells (y :: L) = .string y.path :: .int .i64 y.what :: itCells L := rfl
    rw [e, show (i + 1) * 2 = i * 2 + 1 + 1 by omega]
    exact r
theorem own_it {W : World} {base n c : Nat} {p : Option Addr} {L : List It} (h : W.ownsRow base 52 2 (.slice p n c) n (itCells L)) {i : Nat} {x : It} (hi : L[i]? = some x) (hn : L.length = n) :
    ∃ a : Addr, p = some a ∧ a.block < W.heap.size ∧ W.cell? (a.add (i * 2)) = some (.string x.path) ∧ W.cell? ⟨(a.add (i * 2)).block, (a.add (i * 2)).off + 1, none⟩ = some (.int .i64 x.what) := by
  have hil : i < L.length := (List.getElem?_eq_some_iff.1 hi).1
  obtain ⟨k, rfl⟩ : ∃ k, n = k + 1 := ⟨n - 1, by omega⟩
  obtain ⟨g, cap, e⟩ := ownsRow_succ h
  injection e with e1 e2 e3
  subst e1; subst e3
  obtain ⟨c1, c2⟩ := itCells_get hi
  have d1 := h.cells (g := g) rfl _ _ c1
  have d2 := h.cells (g := g) rfl _ _ c2
  refine ⟨⟨g, 0, none⟩, rfl, (h.lt g rfl).2, d1, ?_⟩
  rw [addr_add] at d2 ⊢
  exact d2
theorem rsameT_v (T : List Node) (p q : Option Addr) (n c d : Nat) (w : World) (hn : T.length = n) (hl : n ≤ 1099511627776) (hp : Row w p T) (hq : Row w q T) :
    Calls Tryd.prog 15 #[.slice p n c, .slice q n d] w fun e w' => e = .returned (.bool true) ∧ Off [] w w' := by
  subst hn
  have := rsame_any T T p q c d w hl hl hp hq
  rw [decide_eq_true rfl] at this
  exact this
theorem swap_path (x : It) : x.swap.path = x.path := rfl
theorem swap3 {x : It} (h : x.what = 3) : x.swap = ⟨x.path, 2⟩ := by unfold It.swap swapK; rw [h]; rfl
theorem swap2 {x : It} (h : x.what = 2) : x.swap = ⟨x.path, 3⟩ := by unfold It.swap swapK; rw [h]; rfl
theorem swap0 {x : It} (h : ¬ x.what = 3) (h' : ¬ x.what = 2) : x.swap = ⟨x.path, x.what⟩ := by unfold It.swap swapK; rw [if_neg h', if_neg h]
theorem eqIt_same (x y : It) (h : x = y) (w : World) : (Op.equalIn 10000 52 (.agg #[.string x.path, .int .i64 x.what]) (.agg #[.string y.path, .int .i64 y.what])).run Tryd.prog w = .ok true w := by
  rw [eqItem x y w, decide_eq_true ⟨by rw [h], by rw [h]⟩]
set_option maxRecDepth 100000 in
set_option maxHeartbeats 8000000 in
theorem reven_walk (po pa pb : Option Addr) (no na nb co ca cb : Nat) (L : List It) (T : List Node) (code : Int) (w : World) (hT : Tabs w) (hl : L.length ≤ 1000000000) (ht : T.length ≤ 1000000000)
    (h1 : ∀ W : World, Off [] w W → Calls Tryd.prog 26 #[.slice po no co, .slice pa na ca, .slice pb nb cb] W (ItemsE L code W))
    (h2 : ∀ W : World, Off [] w W → Calls Tryd.prog 26 #[.slice po no co, .slice pb nb cb, .slice pa na ca] W (ItemsE (L.map It.swap) code W))
    (h3 : ∀ W : World, Off [] w W → Calls Tryd.prog 27 #[.slice po no co, .slice pa na ca, .slice pb nb cb] W (AgreeE T code W))
    (h4 : ∀ W : World, Off [] w W → Calls Tryd.prog 27 #[.slice po no co, .slice pb nb cb, .slice pa na ca] W (AgreeE T code W)) :
    Calls Tryd.prog 8 #[.agg #[.slice po no co, .slice pa na ca, .slice pb nb cb]] w fun e w' => e = .returned (.bool true) ∧ Off [] w w' := by
  have H1 := Lib.hid h1
  have H2 := Lib.hid h2
  have H3 := Lib.hid h3
  have H4 := Lib.hid h4
  clear h1 h2 h3 h4
  obtain ⟨l, hll⟩ : ∃ l, L.length = l := ⟨_, rfl⟩
  obtain ⟨k, htk⟩ : ∃ k, T.length = k := ⟨_, rfl⟩
  rw [hll] at hl
  rw [htk] at ht
  have HL := Lib.hid hll
  have HK := Lib.hid htk
  have HM := Lib.hid (show (L.map It.swap).length = l by rw [List.length_map, hll])
  clear hll htk
  go_enter Tryd.func8, Tryd.ntmps8
  go_wp2_with fail
  have hof := (Off.refl [] w).alloc (.cells #[.slice po no co, .slice pa na ca, .slice pb nb cb] 46)
  refine (awake12_any _ (hT.off hof)).mono ?_
  rintro e w1 ⟨rfl, ho1⟩
  have hB1 := (Blk.new w 46 #[.slice po no co, .slice pa na ca, .slice pb nb cb]).off ho1 (by simp)
  have hof := hof.trans_nil ho1
  have hc := hB1.cell
  have hlt := hB1.lt
  clear ho1
  go_wp2_with fail
  refine (H1.out _ hof).mono ?_
  rintro e w2 ⟨v, rfl, hown, ho⟩
  obtain ⟨p2, c2, rfl⟩ := own_slice hown
  rw [HL.out] at hown ⊢
  have HO1 := Lib.hid hown
  have hB2 := hB1.off ho (by simp)
  have hof := hof.trans_nil ho
  clear hc hlt hB1 ho hown
  have hc := hB2.cell
  have hlt := hB2.lt
  go_wp2_with fail
  refine (H2.out _ hof).mono ?_
  rintro e w3 ⟨v, rfl, hown, ho⟩
  obtain ⟨p3, c3, rfl⟩ := own_slice hown
  rw [HM.out] at hown ⊢
  have HO2 := Lib.hid hown
  have HO1 := Lib.hid (own_keepG HO1.out ho)
  have hB3 := hB2.off ho (by simp)
  have hof := hof.trans_nil ho
  clear hc hlt hB2 ho hown
  have hc := hB3.cell
  have hlt := hB3.lt
  go_wp2_with fail
  refine (H3.out _ hof).mono ?_
  rintro e w4 ⟨v, rfl, ⟨p4, c4, rfl, hr4, -⟩, ho⟩
  have HR4 := Lib.hid hr4
  have HO2 := Lib.hid (own_keepG HO2.out ho)
  have HO1 := Lib.hid (own_keepG HO1.out ho)
  have hB4 := hB3.off ho (by simp)
  have hof := hof.trans_nil ho
  clear hc hlt hB3 ho hr4
  rw [HK.out]
  have hc := hB4.cell
  have hlt := hB4.lt
  go_wp2_with fail
  refine (H4.out _ hof).mono ?_
  rintro e w5 ⟨v, rfl, ⟨p5, c5, rfl, hr5, -⟩, ho⟩
  have HR5 := Lib.hid hr5
  have HR4 := Lib.hid (HR4.out.off ho)
  have HO2 := Lib.hid (own_keepG HO2.out ho)
  have HO1 := Lib.hid (own_keepG HO1.out ho)
  have hof := hof.trans_nil ho
  clear hc hlt hB4 ho hr5
  rw [HK.out]
  go_wp2_with fail
  refine (rsameT_v T p4 p5 k c4 c5 _ HK.out (by omega) HR4.out HR5.out).mono ?_
  rintro e w6 ⟨rfl, ho⟩
  have HO2 := Lib.hid (own_keepG HO2.out ho)
  have HO1 := Lib.hid (own_keepG HO1.out ho)
  have HOF := Lib.hid (hof.trans_nil ho)
  clear hof ho HR4 HR5 H1 H2 H3 H4
  go_wp2_with fail
  go_loopw [83] (fun y wr => ∃ i : Nat, y = .int .i64 i ∧ i ≤ l ∧ Off [] w6 wr) (fun y _ => l - (intOf y).toNat)
  case atStart => exact ⟨0, rfl, by omega, Off.refl _ _⟩
  case round =>
    obtain ⟨i, rfl, hi, ho⟩ := hrel
    by_cases hlt : i < l
    · obtain ⟨x, hx⟩ : ∃ x, L[i]? = some x := ⟨_, List.getElem?_eq_getElem (show i < L.length by rw [HL.out]; exact hlt)⟩
      have hy : (L.map It.swap)[i]? = some x.swap := by rw [List.getElem?_map, hx]; rfl
      obtain ⟨g, rfl, hgl, e1, e2⟩ := own_it (own_keepG HO1.out ho) hx HL.out
      obtain ⟨g', rfl, hgl', e3, e4⟩ := own_it (own_keepG HO2.out ho) hy HM.out
      have hgd : Tryd.prog.eqGuardType Tryd.prog.depth 52 = false := by kernel_rfl
      clear hx hy
      rcases (show x.what = 3 ∨ x.what = 2 ∨ (¬ x.what = 3 ∧ ¬ x.what = 2) by omega) with h3 | h3 | ⟨h3, h2⟩
      · have heq := eqIt_same x.swap ⟨x.path, 2⟩ (swap3 h3)
        rw [h3] at e2
        rw [swap3 h3] at e3 e4 heq
        clear h3
        go_wp2_with fail
        go_quiet (fail)
        go_wp2_with fail
        refine ⟨⟨i + 1, by congr 1, by omega, ho.drewN _⟩, by simp only [intOf]; omega⟩
      · have heq := eqIt_same x.swap ⟨x.path, 3⟩ (swap2 h3)
        rw [h3] at e2
        rw [swap2 h3] at e3 e4 heq
        clear h3
        go_wp2_with fail
        go_quiet (fail)
        go_wp2_with fail
        refine ⟨⟨i + 1, by congr 1, by omega, ho.drewN _⟩, by simp only [intOf]; omega⟩
      · have heq := eqIt_same x.swap ⟨x.path, x.what⟩ (swap0 h3 h2)
        rw [swap0 h3 h2] at e3 e4 heq
        have k3 : (x.what == 3) = false := beq_eq_false_iff_ne.2 h3
        have k2 : (x.what == 2) = false := beq_eq_false_iff_ne.2 h2
        clear h3 h2
        go_wp2_with fail
        go_quiet (fail)
        go_wp2_with fail
        refine ⟨⟨i + 1, by congr 1, by omega, ho.drewN _⟩, by simp only [intOf]; omega⟩
    · obtain rfl : i = l := by omega
      go_wp2_with fail
      go_ret
      exact ⟨rfl, HOF.out.trans_nil ho⟩
theorem three_swap (o a b : List Node) : okThree o b a = okThree o a b := by
  unfold okThree
  rw [Bool.and_comm (okTree b)]
theorem items_bound {o a b : List Node} (h : okThree o a b = true) : (itemsV 2000 (rootV o a b)).length ≤ 1000000000 ∧ (agreedV 2000 (rootV o a b)).length ≤ 1000000000 := by
  unfold okThree at h
  simp only [Bool.and_eq_true] at h
  have l1 := okTree_len h.1
  have l2 := okTree_len h.2.1
  have l3 := okTree_len h.2.2
  have hs : sizeV (rootV o a b) = (o.length + 1) + (a.length + 1) + (b.length + 1) := rfl
  have h1 := items_len names_nodup 2000 (rootV o a b) (by omega)
  have h2 := agreed_len names_nodup 2000 (rootV o a b)
  omega
theorem reven_any (po pa pb : Option Addr) (no na nb co ca cb : Nat) (o a b : List Node) (w : World) (hO : Arg w po no co o) (hA : Arg w pa na ca a) (hB : Arg w pb nb cb b) (hT : Tabs w) :
    Calls Tryd.prog 8 #[.agg #[.slice po no co, .slice pa na ca, .slice pb nb cb]] w fun e w' => e = .returned (.bool true) ∧ Off [] w w' := by
  cases hk : okThree o a b
  · have hk' : okThree o b a = false := by rw [three_swap]; exact hk
    exact reven_walk po pa pb no na nb co ca cb [] [] 60 w hT (by simp) (by simp)
      (fun W ho => recItems_bad po pa pb no na nb co ca cb o a b W (hO.off ho) (hA.off ho) (hB.off ho) (hT.off ho) hk)
      (fun W ho => recItems_bad po pb pa no nb na co cb ca o b a W (hO.off ho) (hB.off ho) (hA.off ho) (hT.off ho) hk')
      (fun W ho => recAgree_bad po pa pb no na nb co ca cb o a b W (hO.off ho) (hA.off ho) (hB.off ho) (hT.off ho) hk)
      (fun W ho => recAgree_bad po pb pa no nb na co cb ca o b a W (hO.off ho) (hB.off ho) (hA.off ho) (hT.off ho) hk')
  · have hk' : okThree o b a = true := by rw [three_swap]; exact hk
    have hb := items_bound hk
    have hb' := items_bound hk'
    have ht := hk
    unfold okThree at ht
    simp only [Bool.and_eq_true] at ht
    have l2 := okTree_len ht.2.1
    have l3 := okTree_len ht.2.2
    have e1 : itemsV 2000 (rootV o b a) = (itemsV 2000 (rootV o a b)).map It.swap := items_swap 2000 (rootV o a b)
    have e2 : agreedV 2000 (rootV o b a) = agreedV 2000 (rootV o a b) := agreed_swap 2000 (rootV o a b)
    refine reven_walk po pa pb no na nb co ca cb (itemsV 2000 (rootV o a b)) (agreedV 2000 (rootV o a b)).tail 0 w hT hb.1 (by rw [List.length_tail]; omega)
      (fun W ho => recItems_ok po pa pb no na nb co ca cb o a b W (hO.off ho) (hA.off ho) (hB.off ho) (hT.off ho) hk 2000 (by omega) hb.1)
      (fun W ho => ?_)
      (fun W ho => recAgree_ok po pa pb no na nb co ca cb o a b W (hO.off ho) (hA.off ho) (hB.off ho) (hT.off ho) hk 2000 (by omega) hb.2)
      (fun W ho => ?_)
    · have := recItems_ok po pb pa no nb na co cb ca o b a W (hO.off ho) (hB.off ho) (hA.off ho) (hT.off ho) hk' 2000 (by omega) hb'.1
      rw [e1] at this
      exact this
    · have := recAgree_ok po pb pa no nb na co cb ca o b a W (hO.off ho) (hB.off ho) (hA.off ho) (hT.off ho) hk' 2000 (by omega) hb'.2
      rw [e2] at this
      exact this
end Go.Proofs.YtpaeihdkggbeoaaDoor
