/- The plain law of TreeNames: in a tree each node is named once, by its parent; the names of a directory rise. Conditions: what each lemma states. -/
import Derived.Test.YtpaeihdkggbeoaaGreatDoorNames
namespace Go.Proofs.YtpaeihdkggbeoaaGreatDoor
open Go.RowKit

theorem okName_ne {s : Str} (h : okName s = true) : s ≠ [] := by
  unfold okName at h
  simp only [Bool.and_eq_true, decide_eq_true_eq] at h
  exact h.1.1.1.1.1
theorem okPath_names {p : Str} (h : okPath p = true) : ∀ x ∈ parts p, okName x = true := by
  unfold okPath at h
  simp only [Bool.and_eq_true, List.all_eq_true] at h
  exact h.2
theorem okPath_ne {p : Str} (h : okPath p = true) : p ≠ [] := fun e => by
  subst e
  exact okName_ne (okPath_names h [] (by simp [parts])) rfl
theorem joinP_ne {l : List Str} (hl : l ≠ []) (h : ∀ x ∈ l, x ≠ []) : joinP l ≠ [] := by
  match l, hl, h with
  | [x], _, h => exact h x (by simp)
  | x :: y :: l, _, h =>
    rw [joinP_cons x (by simp)]
    simp
theorem joinP_snoc (b : Str) : ∀ {l : List Str}, l ≠ [] → joinP (l ++ [b]) = joinP l ++ 47 :: b
  | [], h => absurd rfl h
  | [x], _ => by simp [joinP]
  | x :: y :: l, _ => by
    have ih := joinP_snoc b (l := y :: l) (by simp)
    rw [List.cons_append, joinP_cons x (by simp), ih, joinP_cons x (by simp)]
    simp
theorem parts_split {p : Str} (h : okPath p = true) : parts p = (parts p).dropLast ++ [base p] := by
  unfold base
  rw [if_pos h]
  exact (List.dropLast_concat_getLast (parts_ne p)).symm
theorem parent_eq {p : Str} (h : okPath p = true) : parent p = joinP (parts p).dropLast := by unfold parent; rw [if_pos h]
theorem drop_names {p : Str} (h : okPath p = true) : ∀ x ∈ (parts p).dropLast, x ≠ [] := fun x hx => okName_ne (okPath_names h x (List.dropLast_subset _ hx))
theorem drop_clean {p : Str} : ∀ x ∈ (parts p).dropLast, 47 ∉ x := fun x hx => parts_mem p x (List.dropLast_subset _ hx)
/-- a path is its parent's, a slash and its last name -/
theorem path_whole {p : Str} (h : okPath p = true) : p = if parent p = [] then base p else parent p ++ 47 :: base p := by
  have h1 := parts_split h
  have h2 := joinP_parts p
  by_cases hd : (parts p).dropLast = []
  · have : parent p = [] := by rw [parent_eq h, hd]; rfl
    rw [if_pos this]
    rw [hd, List.nil_append] at h1
    rw [h1] at h2
    exact h2.symm
  · have hne := joinP_ne hd (drop_names h)
    rw [← parent_eq h] at hne
    rw [if_neg hne, parent_eq h, ← joinP_snoc _ hd, ← h1, h2]
theorem drop_eq {p q : Str} (hp : okPath p = true) (hq : okPath q = true) (h : parent p = parent q) : (parts p).dropLast = (parts q).dropLast := by
  rw [parent_eq hp, parent_eq hq] at h
  by_cases h1 : (parts p).dropLast = []
  · by_cases h2 : (parts q).dropLast = []
    · rw [h1, h2]
    · rw [h1] at h
      exact absurd h.symm (joinP_ne h2 (drop_names hq))
  · by_cases h2 : (parts q).dropLast = []
    · rw [h2] at h
      exact absurd h (joinP_ne h1 (drop_names hp))
    · rw [← parts_joinP _ h1 drop_clean, h, parts_joinP _ h2 drop_clean]
theorem cmpN_last (x y : Str) : ∀ l : List Str, cmpN (l ++ [x]) (l ++ [y]) = Lib.compareBytes x y
  | [] => by
    simp only [List.nil_append, cmpN]
    split
    · rename_i h; exact h.symm
    · rfl
  | a :: l => by
    simp only [List.cons_append, cmpN, cmpB_self, if_true]
    exact cmpN_last x y l
/-- of two that stand in one directory the names stand as the paths do -/
theorem base_order {p q : Str} (hp : okPath p = true) (hq : okPath q = true) (h : parent p = parent q) : order p q = Lib.compareBytes (base p) (base q) := by
  unfold order
  rw [parts_split hp, parts_split hq, drop_eq hp hq h, cmpN_last]

variable {t : List Node}
theorem isDir_mono {done : List Node} {p : Str} (hs : ∀ n ∈ done, n ∈ t) (h : isDir done p = true) : isDir t p = true := by
  unfold isDir at *
  rw [Bool.or_eq_true] at *
  rcases h with h | h
  · exact .inl h
  · rw [List.any_eq_true] at *
    obtain ⟨n, hn, hp⟩ := h
    exact .inr ⟨n, hs n hn, hp⟩
theorem parent_dir (h : okTree t = true) {n : Node} (hn : n ∈ t) : isDir t (parent n.p) = true := by
  obtain ⟨i, hi, rfl⟩ := List.getElem_of_mem hn
  have := okTree_next h i hi
  rw [okNext_eq] at this
  simp only [Bool.and_eq_true] at this
  exact isDir_mono (fun m hm => List.mem_of_mem_take hm) this.2
theorem namesR_eq (h : okTree t = true) (d : Str) : namesR t d = namesOf t d := by
  unfold namesR
  rw [h, Bool.true_and]
  split
  · rfl
  · rename_i hd
    symm
    unfold namesOf
    rw [List.map_eq_nil_iff, List.filter_eq_nil_iff]
    intro n hn hp
    rw [decide_eq_true_eq] at hp
    exact hd (hp ▸ parent_dir h hn)
/-- what is no directory has no names -/
theorem names_file (h : okTree t = true) {d : Node} (hd : d ∈ t) (hk : d.kind ≠ 2) : namesR t d.p = [] := by
  have hf : isDir t d.p = false := by
    unfold isDir
    rw [Bool.or_eq_false_iff]
    refine ⟨decide_eq_false (okPath_ne (okTree_path h hd)), ?_⟩
    rw [List.any_eq_false]
    intro m hm hp
    simp only [Bool.and_eq_true, decide_eq_true_eq] at hp
    have := (okTree_sorted h).unique hm hd hp.1
    subst this
    exact hk hp.2
  unfold namesR
  rw [hf, Bool.and_false]
  rfl
/-- each name is a node's -/
theorem names_found (h : okTree t = true) {d : Str} {x : ByteArray} (hx : x ∈ namesR t d) : ∃ m ∈ t, m.p = if d = [] then str x else d ++ 47 :: str x := by
  rw [namesR_eq h] at hx
  unfold namesOf at hx
  rw [List.mem_map] at hx
  obtain ⟨n, hn, rfl⟩ := hx
  rw [List.mem_filter, decide_eq_true_eq] at hn
  refine ⟨n, hn.1, ?_⟩
  have := path_whole (okTree_path h hn.1)
  rw [hn.2] at this
  rw [str_bs]
  exact this
theorem names_small (h : okTree t = true) {d : Str} {x : ByteArray} (hx : x ∈ namesR t d) : x.size ≤ 400 := by
  obtain ⟨m, hm, e⟩ := names_found h hx
  have := okTree_small h hm
  have hl : m.p.length = m.path.size := str_size _
  rw [← str_size]
  split at e
  · rw [← e, hl]; exact this
  · rw [e] at hl; simp at hl; omega
/-- the names rise -/
theorem names_rise (h : okTree t = true) (d : Str) : (namesR t d).Pairwise fun a b => Lib.compareBytes (str a) (str b) < 0 := by
  rw [namesR_eq h]
  unfold namesOf
  rw [List.pairwise_map]
  have hs : (t.filter fun n => decide (parent n.p = d)).Pairwise fun a b => order a.p b.p < 0 := (okTree_sorted h).sublist List.filter_sublist
  refine hs.imp_of_mem fun {a b} ha hb hab => ?_
  rw [List.mem_filter, decide_eq_true_eq] at ha hb
  rw [str_bs, str_bs, ← base_order (okTree_path h ha.1) (okTree_path h hb.1) (ha.2.trans hb.2.symm)]
  exact hab
/-- the sum over the directories -/
theorem sum_filter {α β : Type} [DecidableEq β] (f : α → β) (P : List β) (hP : P.Nodup) : ∀ (l : List α), (∀ a ∈ l, f a ∈ P) → (P.map fun q => (l.filter fun a => decide (f a = q)).length).sum = l.length
  | [], _ => by
    induction P with
    | nil => rfl
    | cons q P ih => simpa using ih (List.nodup_cons.1 hP).2
  | a :: l, h => by
    have ih := sum_filter f P hP l (fun b hb => h b (List.mem_cons_of_mem _ hb))
    have hm := h a (by simp)
    have key : ∀ (Q : List β), (Q.map fun q => ((a :: l).filter fun a => decide (f a = q)).length).sum = (Q.map fun q => (l.filter fun a => decide (f a = q)).length).sum + Q.count (f a) := by
      intro Q
      induction Q with
      | nil => rfl
      | cons q Q ihQ =>
        simp only [List.map_cons, List.sum_cons, ihQ, List.count_cons]
        by_cases e : f a = q
        · subst e; simp; omega
        · have e' : ¬ q = f a := fun h => e h.symm
          simp [e, e']; omega
    rw [key P, ih, hP.count, if_pos hm, List.length_cons]
def rootN : Node := ⟨⟨#[]⟩, 2, ⟨#[]⟩, 0⟩
theorem names_count (h : okTree t = true) : ((rootN :: t).map fun d => (namesR t d.p).length).sum = t.length := by
  have e : ((rootN :: t).map fun d => (namesR t d.p).length) = (((rootN :: t).map Node.p).map fun q => (t.filter fun a => decide (parent a.p = q)).length) := by
    rw [List.map_map]
    refine List.map_congr_left fun d _ => ?_
    simp only [Function.comp, namesR_eq h]
    unfold namesOf
    rw [List.length_map]
  rw [e]
  refine sum_filter (fun n : Node => parent n.p) _ ?_ t (fun n hn => ?_)
  · rw [List.map_cons, List.nodup_cons]
    refine ⟨fun hm => ?_, ?_⟩
    · obtain ⟨n, hn, hp⟩ := List.mem_map.1 hm
      exact okPath_ne (okTree_path h hn) hp
    · rw [List.nodup_iff_pairwise_ne, List.pairwise_map]
      exact (okTree_sorted h).imp fun {a b} hab e => by rw [e, order_self] at hab; omega
  · have hd := parent_dir h hn
    unfold isDir at hd
    rw [Bool.or_eq_true] at hd
    rcases hd with hd | hd
    · rw [decide_eq_true_eq] at hd
      rw [hd]; exact List.mem_cons_self
    · rw [List.any_eq_true] at hd
      obtain ⟨m, hm, hp⟩ := hd
      simp only [Bool.and_eq_true, decide_eq_true_eq] at hp
      rw [← hp.1]
      exact List.mem_cons_of_mem _ (List.mem_map_of_mem hm)
end Go.Proofs.YtpaeihdkggbeoaaGreatDoor
