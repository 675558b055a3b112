/- What was there, put again, gives the tree as it was; a value put elsewhere and taken away where it was: in plain words. Conditions: none beyond what each lemma states. -/
import Derived.Test.YtpaeihdkggbeoaaGreatDoorBackLaw
namespace Go.Proofs.YtpaeihdkggbeoaaGreatDoor
open Go.RowKit

theorem filter_sorted {t : List Node} (hs : Sorted t) (P : Node → Bool) : Sorted (t.filter P) := List.Pairwise.filter _ hs
/-- ahead, within, behind: that is all -/
theorem split3 {q : Str} (hq : okPath q = true) : ∀ {t : List Node}, Sorted t → (∀ n ∈ t, okPath n.p = true) → lower t q ++ inAt t q ++ upper t q = t ∧ lower t q ++ upper t q = t.filter fun n => !within n.p q
  | [], _, _ => ⟨rfl, rfl⟩
  | n :: t, hs, hk => by
    have hs' := List.pairwise_cons.1 hs
    obtain ⟨ih1, ih2⟩ := split3 hq hs'.2 (fun m hm => hk m (List.mem_cons_of_mem _ hm))
    have hlow : 0 ≤ order n.p q → lower t q = [] := fun h => by
      unfold lower
      rw [List.filter_eq_nil_iff]
      intro m hm
      rw [decide_eq_true_eq]
      intro h1
      have := order_trans (hs'.1 m hm) h1
      omega
    by_cases h1 : order n.p q < 0
    · have h2 : within n.p q = false := by
        cases hw : within n.p q
        · rfl
        · have := within_order hq hw; omega
      have e1 : lower (n :: t) q = n :: lower t q := by unfold lower; rw [List.filter_cons, if_pos (by simpa using h1)]
      have e2 : inAt (n :: t) q = inAt t q := by unfold inAt; rw [List.filter_cons, if_neg (by simp [h2])]
      have e3 : upper (n :: t) q = upper t q := by unfold upper; rw [List.filter_cons, if_neg (by simp; omega)]
      rw [e1, e2, e3, List.filter_cons, if_pos (by simp [h2]), ← ih2]
      exact ⟨by rw [List.cons_append, List.cons_append, ih1], rfl⟩
    · have h0 : 0 ≤ order n.p q := by omega
      have hl := hlow h0
      have e1 : lower (n :: t) q = [] := by rw [← hl]; unfold lower; rw [List.filter_cons, if_neg (by simpa using h0)]
      rw [hl] at ih1 ih2
      rw [e1]
      simp only [List.nil_append] at ih1 ih2 ⊢
      cases h2 : within n.p q
      · have e2 : inAt (n :: t) q = [] := by
          unfold inAt
          rw [List.filter_eq_nil_iff]
          intro m hm
          rcases List.mem_cons.1 hm with rfl | hm
          · simp [h2]
          · intro hw
            have := within_between (hk n (by simp)) hq h0 (hs'.1 m hm) hw
            rw [h2] at this; cases this
        have e3 : inAt t q = [] := by
          unfold inAt at e2 ⊢
          rw [List.filter_cons, if_neg (by simp [h2])] at e2
          exact e2
        have e4 : upper (n :: t) q = n :: upper t q := by unfold upper; rw [List.filter_cons, if_pos (by simp [h2, h0])]
        rw [e3, List.nil_append] at ih1
        rw [e2, e4, List.filter_cons, if_pos (by simp [h2]), ← ih2]
        exact ⟨by rw [List.nil_append, ih1], rfl⟩
      · have e2 : inAt (n :: t) q = n :: inAt t q := by unfold inAt; rw [List.filter_cons, if_pos h2]
        have e4 : upper (n :: t) q = upper t q := by unfold upper; rw [List.filter_cons, if_neg (by simp [h2])]
        rw [e2, e4, List.filter_cons, if_neg (by simp [h2]), ← ih2]
        exact ⟨by rw [List.cons_append, ih1], rfl⟩
/-- what is above a node is there -/
theorem above {t : List Node} {q : Str} (ht : okTree t = true) (hq : okPath q = true) : ∀ (k : Nat) {n : Node}, n ∈ t → (parts n.p).length ≤ k → within n.p q = true → ∃ m ∈ t, m.p = q ∧ (n.p ≠ q → m.kind = 2)
  | 0, n, _, hk, _ => absurd (List.length_eq_zero_iff.1 (Nat.le_zero.1 hk)) (parts_ne n.p)
  | k + 1, n, hn, hk, hw => by
    by_cases e : n.p = q
    · exact ⟨n, hn, e, fun h => absurd e h⟩
    · have hnk := okTree_path ht hn
      obtain ⟨_, r, hr⟩ := within_pre hq hw
      have hr0 : r ≠ [] := fun e2 => by subst e2; rw [List.append_nil] at hr; exact e (parts_inj hr).symm
      have hd : (parts n.p).dropLast = parts q ++ r.dropLast := by rw [← hr, List.dropLast_append_of_ne_nil hr0]
      have hdn : (parts n.p).dropLast ≠ [] := by rw [hd]; simp [parts_ne]
      have hpn : parent n.p ≠ [] := by rw [parent_eq hnk]; exact joinP_ne hdn (drop_names hnk)
      have hpp := parent_parts hnk hpn
      rcases isDir_iff.1 (parent_dir ht hn) with h | ⟨d, hd1, hd2, hd3⟩
      · exact absurd h hpn
      · have hdk := okTree_path ht hd1
        have hdw : within d.p q = true := by
          unfold within
          rw [hdk, hq, hd2, hpp, hd, List.isPrefixOf_iff_prefix.2 (List.prefix_append _ _)]; simp
        by_cases e2 : d.p = q
        · exact ⟨d, hd1, e2, fun _ => hd3⟩
        · obtain ⟨m, hm1, hm2, hm3⟩ := above ht hq k hd1 (by rw [hd2, hpp, List.length_dropLast]; omega) hdw
          exact ⟨m, hm1, hm2, fun _ => hm3 e2⟩
theorem mem_inAt {t : List Node} {q : Str} {n : Node} : n ∈ inAt t q ↔ n ∈ t ∧ within n.p q = true := by unfold inAt; rw [List.mem_filter]
theorem inAt_shape {t : List Node} {q : Str} (ht : okTree t = true) (hq : okPath q = true) : inAt t q = [] ∨ ∃ f G, inAt t q = f :: G ∧ f.p = q ∧ (G ≠ [] → f.kind = 2) ∧ ∀ g ∈ G, ∃ s, g.p = q ++ 47 :: s := by
  cases e : inAt t q with
  | nil => exact .inl rfl
  | cons f G =>
    right
    have hs := filter_sorted (okTree_sorted ht) (fun n => within n.p q)
    have hs : Sorted (f :: G) := by rw [← e]; exact hs
    have hs' := List.pairwise_cons.1 hs
    have hin : ∀ x, x ∈ f :: G ↔ x ∈ t ∧ within x.p q = true := fun x => by rw [← e]; exact mem_inAt
    obtain ⟨hf1, hf2⟩ := (hin f).1 (by simp)
    have hfp : f.p = q := by
      obtain ⟨m, hm, hmp, _⟩ := above ht hq _ hf1 (Nat.le_refl _) hf2
      rcases List.mem_cons.1 ((hin m).2 ⟨hm, by rw [hmp]; exact within_self hq⟩) with h | h
      · rw [← h]; exact hmp
      · have h1 := hs'.1 m h
        rw [hmp] at h1
        have := within_order hq hf2
        omega
    have hne : ∀ g ∈ G, g.p ≠ q := fun g hg h => by
      have := hs'.1 g hg
      rw [h, hfp, order_self] at this
      omega
    refine ⟨f, G, rfl, hfp, fun hG => ?_, fun g hg => ?_⟩
    · obtain ⟨g, hg⟩ := List.exists_mem_of_ne_nil G hG
      obtain ⟨hg1, hg2⟩ := (hin g).1 (List.mem_cons_of_mem _ hg)
      obtain ⟨m, hm, hmp, hmk⟩ := above ht hq _ hg1 (Nat.le_refl _) hg2
      have : m = f := (okTree_sorted ht).unique hm hf1 (by rw [hmp, hfp])
      rw [← this]; exact hmk (hne g hg)
    · obtain ⟨hg1, hg2⟩ := (hin g).1 (List.mem_cons_of_mem _ hg)
      rcases (within_iff (okTree_path ht hg1) hq).1 hg2 with h | h
      · exact absurd h (hne g hg)
      · exact h
theorem trim_p {q s : Str} {g : Node} (h : g.p = q ++ 47 :: s) : (trimN q g).p = s := by
  show str (bs (g.p.drop (q.length + 1))) = s
  rw [str_bs, h, List.drop_append]; simp
theorem trim_p0 {q : Str} {g : Node} (h : g.p = q) : (trimN q g).p = [] := by
  show str (bs (g.p.drop (q.length + 1))) = []
  rw [str_bs, h, List.drop_eq_nil_of_le (by omega)]
theorem okPath_tail {q s : Str} (h : okPath (q ++ 47 :: s) = true) : okPath s = true := by
  unfold okPath at h ⊢
  simp only [Bool.and_eq_true, decide_eq_true_eq, parts_append, List.all_append, List.length_append, List.length_cons, List.count_append, List.count_cons] at h ⊢
  obtain ⟨⟨h1, h2⟩, h3, h4⟩ := h
  exact ⟨⟨by omega, by omega⟩, h4⟩
theorem filter_len (t : List Node) (P : Node → Bool) : (t.filter P).length ≤ t.length := List.length_filter_le _ _
/-- what stands at a path is a value -/
theorem okVal_at {t : List Node} {q : Str} (ht : okTree t = true) (hq : okPath q = true) : okVal ((inAt t q).map (trimN q)) = true := by
  have hlen := filter_len t (fun n => within n.p q)
  have hl := okTree_len ht
  rcases inAt_shape ht hq with h | ⟨f, G, h, hf, hk, hG⟩
  · rw [h]; rfl
  · have hin : ∀ x, x ∈ f :: G ↔ x ∈ t ∧ within x.p q = true := fun x => by rw [← h]; exact mem_inAt
    have hs : Sorted (f :: G) := by rw [← h]; exact filter_sorted (okTree_sorted ht) _
    have hs' := List.pairwise_cons.1 hs
    have hlen : (f :: G).length ≤ t.length := by rw [← h]; exact hlen
    simp only [List.length_cons] at hlen
    rw [h, List.map_cons]
    refine okVal_mk (by rw [List.length_map]; omega) (trim_p0 hf) (show rightN f = true from okTree_right ht ((hin f).1 (by simp)).1) ?_
    by_cases hG0 : G = []
    · left; rw [hG0]; rfl
    · right
      refine ⟨hk hG0, tree_of (by rw [List.length_map]; omega) ?_ fun n hn => ?_⟩
      · refine List.pairwise_iff_getElem.2 fun i j hi hj hij => ?_
        rw [List.length_map] at hi hj
        rw [List.getElem_map, List.getElem_map]
        obtain ⟨s1, e1⟩ := hG _ (List.getElem_mem hi)
        obtain ⟨s2, e2⟩ := hG _ (List.getElem_mem hj)
        have := List.pairwise_iff_getElem.1 hs'.2 i j hi hj hij
        rw [trim_p e1, trim_p e2, ← order_sub q, ← e1, ← e2]
        exact this
      · obtain ⟨g, hg, rfl⟩ := List.mem_map.1 hn
        obtain ⟨s, es⟩ := hG g hg
        have hgt := ((hin g).1 (List.mem_cons_of_mem _ hg)).1
        have hgk := okTree_path ht hgt
        rw [es] at hgk
        have hsk := okPath_tail hgk
        rw [trim_p es]
        refine ⟨hsk, (show rightN g = true from okTree_right ht hgt), ?_⟩
        rw [isDir_iff]
        by_cases hps : parent s = []
        · exact .inl hps
        · right
          have h1 := parent_dir ht hgt
          rw [es, parent_sub hq hsk hgk, if_neg hps] at h1
          rcases isDir_iff.1 h1 with h2 | ⟨d, hd1, hd2, hd3⟩
          · simp at h2
          · have hdk := okTree_path ht hd1
            rw [hd2] at hdk
            rcases List.mem_cons.1 ((hin d).2 ⟨hd1, by rw [hd2]; exact within_sub hq hdk⟩) with h3 | h3
            · subst h3
              have := order_own q (parent s)
              rw [← hd2, hf, order_self] at this
              omega
            · exact ⟨_, List.mem_map.2 ⟨d, h3, rfl⟩, trim_p hd2, hd3⟩
theorem moved_at {t : List Node} {path : ByteArray} (ht : okTree t = true) (hq : okPath (str path) = true) : moved path ((inAt t (str path)).map (trimN (str path))) = inAt t (str path) := by
  rcases inAt_shape ht hq with h | ⟨f, G, h, hf, _, hG⟩
  · rw [h]; rfl
  · rw [h, List.map_cons, moved_cons, List.map_map]
    have e1 : ({ trimN (str path) f with path := path } : Node) = f := by
      obtain ⟨fp, fk, fd, fm⟩ := f
      have : fp = path := str_inj hf
      subst this; rfl
    rw [e1]
    congr 1
    conv => rhs; rw [← List.map_id G]
    refine List.map_congr_left fun g hg => ?_
    obtain ⟨s, es⟩ := hG g hg
    obtain ⟨gp, gk, gd, gm⟩ := g
    show Node.mk _ gk gd gm = Node.mk gp gk gd gm
    congr 1
    apply str_inj
    rw [str_slash]
    have := trim_p es
    show str path ++ 47 :: (trimN (str path) ⟨gp, gk, gd, gm⟩).p = str gp
    rw [this]; exact es.symm
theorem atR_path {t : List Node} {q : Str} (ht : okTree t = true) (hq : okPath q = true) : atR t q = (inAt t q).map (trimN q) := by
  unfold atR; rw [if_pos ht, if_neg (okPath_ne hq), if_pos hq]
theorem putR_ok {t : List Node} {path : ByteArray} {v : List Node} (h1 : okTree t = true) (h2 : okVal v = true) (h3 : okPath (str path) = true) (h4 : (v.isEmpty || isDir t (parent (str path))) = true) (h5 : (moved path v).all (fun n => okPath n.p) = true) (h6 : (putOut t path v).length ≤ 1000) : putR t path v = (putOut t path v, 0) := by
  unfold putR; rw [if_pos (by rw [h1, h2]; rfl), if_pos h3, if_pos h4, if_pos h5, if_pos h6]
/-- what came of a value put in well -/
structure PutWell (t : List Node) (path : ByteArray) (v x : List Node) : Prop where
  tree : okTree t = true
  val : okVal v = true
  okp : okPath (str path) = true
  dir : (v.isEmpty || isDir t (parent (str path))) = true
  all : (moved path v).all (fun n => okPath n.p) = true
  len : (putOut t path v).length ≤ 1000
  out : x = putOut t path v
theorem putR_cases (t : List Node) (path : ByteArray) (v : List Node) : ((putR t path v).2 ≠ 0 ∧ (putR t path v).1 = []) ∨ ((putR t path v).2 = 0 ∧ PutWell t path v (putR t path v).1) := by
  by_cases h1 : (okTree t && okVal v) = true
  · by_cases h2 : okPath (str path) = true
    · by_cases h3 : (v.isEmpty || isDir t (parent (str path))) = true
      · by_cases h4 : (moved path v).all (fun n => okPath n.p) = true
        · by_cases h5 : (putOut t path v).length ≤ 1000
          · have h6 := Bool.and_eq_true _ _ ▸ h1
            rw [putR_ok h6.1 h6.2 h2 h3 h4 h5]
            exact .inr ⟨rfl, h6.1, h6.2, h2, h3, h4, h5, rfl⟩
          · left; unfold putR; rw [if_pos h1, if_pos h2, if_pos h3, if_pos h4, if_neg h5]; exact ⟨by decide, rfl⟩
        · left; unfold putR; rw [if_pos h1, if_pos h2, if_pos h3, if_neg h4]; exact ⟨by decide, rfl⟩
      · left; unfold putR; rw [if_pos h1, if_pos h2, if_neg h3]; exact ⟨by decide, rfl⟩
    · left; unfold putR; rw [if_pos h1, if_neg h2]; exact ⟨by decide, rfl⟩
  · left; unfold putR; rw [if_neg h1]; exact ⟨by decide, rfl⟩
section
variable {t : List Node} {path : ByteArray} {v x : List Node}
theorem PutWell.okx (h : PutWell t path v x) : okTree x = true := by rw [h.out]; exact putOut_tree h.tree h.val h.okp h.dir h.all h.len
theorem PutWell.at_ (h : PutWell t path v x) : atR x (str path) = v := by
  have := h.okx
  rw [h.out] at this ⊢; exact at_put h.val h.okp h.all this
theorem PutWell.dif (h : PutWell t path v x) {s : ByteArray} (hs : s ∈ differ t x) : within (str s) (str path) = true := by
  have := h.okx
  rw [h.out] at this hs
  exact put_differ h.tree h.okp h.all this hs
theorem inAt_all (ht : okTree t = true) (hq : okPath (str path) = true) : (moved path ((inAt t (str path)).map (trimN (str path)))).all (fun n => okPath n.p) = true := by
  rw [moved_at ht hq, List.all_eq_true]
  exact fun n hn => okTree_path ht (mem_inAt.1 hn).1
theorem inAt_dir (ht : okTree t = true) (hq : okPath (str path) = true) : (((inAt t (str path)).map (trimN (str path))).isEmpty || isDir t (parent (str path))) = true := by
  rcases inAt_shape ht hq with h | ⟨f, G, h, hf, _, _⟩
  · rw [h]; rfl
  · have hf1 : f ∈ t := (mem_inAt.1 (show f ∈ inAt t (str path) by rw [h]; simp)).1
    have := parent_dir ht hf1
    rw [hf] at this
    rw [this]; simp
theorem put_same (ht : okTree t = true) (hq : okPath (str path) = true) : putR t path (atR t (str path)) = (t, 0) := by
  have h3 := (split3 hq (okTree_sorted ht) (fun n hn => okTree_path ht hn)).1
  have e : putOut t path (atR t (str path)) = t := by
    rw [atR_path ht hq]; unfold putOut; rw [moved_at ht hq]; exact h3
  have h := putR_ok (v := atR t (str path)) ht (by rw [atR_path ht hq]; exact okVal_at ht hq) hq (by rw [atR_path ht hq]; exact inAt_dir ht hq) (by rw [atR_path ht hq]; exact inAt_all ht hq) (by rw [e]; exact okTree_len ht)
  rw [h, e]
theorem PutWell.lower_ (h : PutWell t path v x) : lower x (str path) = lower t (str path) := by
  have e1 : (lower t (str path)).filter (fun n => decide (order n.p (str path) < 0)) = lower t (str path) := List.filter_eq_self.2 fun n hn => decide_eq_true (mem_lower.1 hn).2
  have e2 : (moved path v).filter (fun n => decide (order n.p (str path) < 0)) = [] := List.filter_eq_nil_iff.2 fun n hn => by
    have := within_order h.okp (moved_in h.okp h.all hn)
    rw [decide_eq_false (by omega)]; simp
  have e3 : (upper t (str path)).filter (fun n => decide (order n.p (str path) < 0)) = [] := List.filter_eq_nil_iff.2 fun n hn => by
    have := (mem_upper.1 hn).2.1
    rw [decide_eq_false (by omega)]; simp
  rw [h.out]
  unfold putOut
  show List.filter _ _ = _
  rw [List.filter_append, List.filter_append, e1, e2, e3, List.append_nil, List.append_nil]
theorem PutWell.upper_ (h : PutWell t path v x) : upper x (str path) = upper t (str path) := by
  have e1 : (lower t (str path)).filter (fun n => decide (0 ≤ order n.p (str path)) && !within n.p (str path)) = [] := List.filter_eq_nil_iff.2 fun n hn => by
    have := (mem_lower.1 hn).2
    rw [decide_eq_false (by omega)]; simp
  have e2 : (moved path v).filter (fun n => decide (0 ≤ order n.p (str path)) && !within n.p (str path)) = [] := List.filter_eq_nil_iff.2 fun n hn => by
    rw [moved_in h.okp h.all hn]; simp
  have e3 : (upper t (str path)).filter (fun n => decide (0 ≤ order n.p (str path)) && !within n.p (str path)) = upper t (str path) := List.filter_eq_self.2 fun n hn => by
    obtain ⟨_, h1, h2⟩ := mem_upper.1 hn
    rw [h2, decide_eq_true h1]; rfl
  rw [h.out]
  unfold putOut
  show List.filter _ _ = _
  rw [List.filter_append, List.filter_append, e1, e2, e3, List.nil_append, List.nil_append]
theorem PutWell.back (h : PutWell t path v x) : putR x path (atR t (str path)) = (t, 0) := by
  have ht := h.tree
  have hq := h.okp
  have h3 := (split3 hq (okTree_sorted ht) (fun n hn => okTree_path ht hn)).1
  have e : putOut x path (atR t (str path)) = t := by
    rw [atR_path ht hq]; unfold putOut; rw [moved_at ht hq, h.lower_, h.upper_]; exact h3
  have hdir : ((atR t (str path)).isEmpty || isDir x (parent (str path))) = true := by
    rw [atR_path ht hq]
    have h1 := inAt_dir ht hq
    rw [Bool.or_eq_true] at h1 ⊢
    rcases h1 with h1 | h1
    · exact .inl h1
    · right; rw [h.out]; exact stays_dir ht h1 fun h5 h6 => parent_own hq h5 h6
  have h := putR_ok (v := atR t (str path)) h.okx (by rw [atR_path ht hq]; exact okVal_at ht hq) hq hdir (by rw [atR_path ht hq]; exact inAt_all ht hq) (by rw [e]; exact okTree_len ht)
  rw [h, e]
end
/-! ### a value put elsewhere -/
def outAt (t : List Node) (q : Str) : List Node := t.filter fun n => !within n.p q
theorem putOut_nil {t : List Node} {path : ByteArray} (ht : okTree t = true) (hq : okPath (str path) = true) : putOut t path [] = outAt t (str path) := by
  have h3 := (split3 hq (okTree_sorted ht) (fun n hn => okTree_path ht hn)).2
  unfold putOut outAt
  rw [moved_nil, List.append_nil, h3]
theorem put_nil {t : List Node} {path : ByteArray} (ht : okTree t = true) (hq : okPath (str path) = true) : putR t path [] = (outAt t (str path), 0) := by
  have e := putOut_nil ht hq
  have hl : (outAt t (str path)).length ≤ 1000 := Nat.le_trans (filter_len _ _) (okTree_len ht)
  rw [putR_ok ht rfl hq rfl rfl (by rw [e]; exact hl), e]
theorem both_in {m p q : Str} (hp : okPath p = true) (hq : okPath q = true) (h1 : within m p = true) (h2 : within m q = true) : within p q = true ∨ within q p = true := by
  obtain ⟨_, a⟩ := within_pre hp h1
  obtain ⟨_, b⟩ := within_pre hq h2
  rcases Nat.le_total (parts q).length (parts p).length with h | h
  · left
    unfold within
    rw [hp, hq, List.isPrefixOf_iff_prefix.2 (List.prefix_of_prefix_length_le b a h)]; simp
  · right
    unfold within
    rw [hp, hq, List.isPrefixOf_iff_prefix.2 (List.prefix_of_prefix_length_le a b h)]; simp
theorem moves {t : List Node} {from_ dst : ByteArray} (hv : atR t (str from_) ≠ []) (hf : str from_ ≠ []) (h1 : within (str dst) (str from_) = false) (h2 : within (str from_) (str dst) = false) (he : (putR t dst (atR t (str from_))).2 = 0) :
    (putR t from_ []).2 = 0 ∧ (putR (putR t dst (atR t (str from_))).1 from_ []).2 = 0 ∧ (putR (putR t from_ []).1 dst (atR t (str from_))).2 = 0 ∧
    (putR (putR t dst (atR t (str from_))).1 from_ []).1 = (putR (putR t from_ []).1 dst (atR t (str from_))).1 ∧
    atR (putR (putR t dst (atR t (str from_))).1 from_ []).1 (str from_) = [] ∧ atR (putR (putR t dst (atR t (str from_))).1 from_ []).1 (str dst) = atR t (str from_) := by
  have ht : okTree t = true := by
    cases h : okTree t
    · unfold atR at hv; rw [h] at hv; exact absurd rfl hv
    · rfl
  have hq : okPath (str from_) = true := by
    cases h : okPath (str from_)
    · unfold atR at hv; rw [if_pos ht, if_neg hf, h] at hv; exact absurd rfl hv
    · rfl
  obtain ⟨v, hvv⟩ : ∃ v, atR t (str from_) = v := ⟨_, rfl⟩
  rw [hvv] at he hv ⊢
  rcases putR_cases t dst v with ⟨h3, _⟩ | ⟨_, hA⟩
  · exact absurd he h3
  have hAeq := hA.out
  generalize (putR t dst v).1 = a at *
  have hakx := hA.okx
  have ha : putR a from_ [] = (outAt a (str from_), 0) := put_nil hakx hq
  have hb := put_nil (path := from_) ht hq
  rw [ha, hb]
  have hbw : PutWell t from_ [] (outAt t (str from_)) := ⟨ht, rfl, hq, rfl, rfl, by rw [putOut_nil ht hq]; exact Nat.le_trans (filter_len _ _) (okTree_len ht), (putOut_nil ht hq).symm⟩
  have hbk := hbw.okx
  have hcd : outAt a (str from_) = putOut (outAt t (str from_)) dst v := by
    rw [hAeq]
    unfold putOut outAt lower upper
    rw [List.filter_append, List.filter_append, List.filter_filter, List.filter_filter, List.filter_filter, List.filter_filter]
    have hm : (moved dst v).filter (fun n => !within n.p (str from_)) = moved dst v := by
      rw [List.filter_eq_self]
      intro n hn
      have h3 := moved_in hA.okp hA.all hn
      cases h4 : within n.p (str from_)
      · rfl
      · rcases both_in hA.okp hq h3 h4 with h5 | h5
        · rw [h1] at h5; cases h5
        · rw [h2] at h5; cases h5
    rw [hm]
    congr 1
    · congr 1
      exact List.filter_congr fun n _ => Bool.and_comm _ _
    · exact List.filter_congr fun n _ => Bool.and_comm _ _
  have hdir : (v.isEmpty || isDir (outAt t (str from_)) (parent (str dst))) = true := by
    have h3 := hA.dir
    rw [Bool.or_eq_true] at h3 ⊢
    rcases h3 with h3 | h3
    · exact .inl h3
    · right
      rw [hbw.out]
      exact stays_dir ht h3 fun h5 h6 => parent_out hA.okp hq h5 h6 h1
  have hl : (putOut (outAt t (str from_)) dst v).length ≤ 1000 := by
    rw [← hcd]; exact Nat.le_trans (filter_len _ _) (okTree_len hakx)
  have hd := putR_ok hbk hA.val hA.okp hdir hA.all hl
  have hdw : PutWell (outAt t (str from_)) dst v (putOut (outAt t (str from_)) dst v) := ⟨hbk, hA.val, hA.okp, hdir, hA.all, hl, rfl⟩
  rw [hd]
  refine ⟨rfl, rfl, rfl, hcd, ?_, ?_⟩
  · show atR (outAt a (str from_)) (str from_) = []
    have : okTree (outAt a (str from_)) = true := by rw [hcd]; exact hdw.okx
    rw [atR_path this hq]
    have e : inAt (outAt a (str from_)) (str from_) = [] := by
      unfold inAt outAt
      rw [List.filter_filter, List.filter_eq_nil_iff]
      intro n _
      cases within n.p (str from_) <;> simp
    rw [e]; rfl
  · show atR (outAt a (str from_)) (str dst) = v
    rw [hcd]; exact hdw.at_
end Go.Proofs.YtpaeihdkggbeoaaGreatDoor
