/- Trees with a value put in them are trees; what was put is there, and all else is as it was: in plain words. Conditions: none beyond what each lemma states. -/
import Derived.Test.YtpaeihdkggbeoaaGreatDoorPutLaw
import Derived.Test.YtpaeihdkggbeoaaGreatDoorDifLaw
namespace Go.Proofs.YtpaeihdkggbeoaaGreatDoor
open Go.RowKit

/-! ### trees, by their nodes -/
theorem sorted_last {x : List Node} (hs : Sorted x) {j : Nat} (hj : j < x.length) : lastOk (x.take j) x[j] = true := by
  cases hl : (x.take j).getLast? with
  | none => exact lastOk_none hl
  | some m =>
    rw [lastOk_some hl, decide_eq_true_eq]
    rw [List.getLast?_eq_getElem?] at hl
    obtain ⟨h1, rfl⟩ := List.getElem?_eq_some_iff.1 hl
    rw [List.getElem_take]
    have h2 := List.length_take (i := j) (l := x)
    exact List.pairwise_iff_getElem.1 hs _ j (by omega) hj (by omega)
theorem tree_of {x : List Node} (hl : x.length ≤ 1000) (hs : Sorted x) (h : ∀ n ∈ x, okPath n.p = true ∧ rightN n = true ∧ isDir x (parent n.p) = true) : okTree x = true :=
  RokTo.tree hl fun j hj _ => by
    obtain ⟨h1, h2, h3⟩ := h _ (List.getElem_mem hj)
    unfold rok
    rw [h1, h2, dir_rdir hs h3, sorted_last hs hj]; rfl
theorem okTree_right {t : List Node} (h : okTree t = true) {n : Node} (hn : n ∈ t) : rightN n = true := by
  obtain ⟨i, hi, rfl⟩ := List.getElem_of_mem hn
  have := okTree_next h i hi
  rw [okNext_eq] at this
  simp only [Bool.and_eq_true] at this
  exact this.1.1.2
theorem isDir_iff {t : List Node} {p : Str} : isDir t p = true ↔ p = [] ∨ ∃ n ∈ t, n.p = p ∧ n.kind = 2 := by
  unfold isDir
  rw [Bool.or_eq_true, decide_eq_true_eq, List.any_eq_true]
  simp only [Bool.and_eq_true, decide_eq_true_eq]

/-! ### orders of what is within one path -/
theorem cmpN_append : ∀ (l a b : List Str), cmpN (l ++ a) (l ++ b) = cmpN a b
  | [], _, _ => rfl
  | x :: l, a, b => by simp only [List.cons_append, cmpN, cmpB_self, if_true]; exact cmpN_append l a b
theorem order_sub (q a b : Str) : order (q ++ 47 :: a) (q ++ 47 :: b) = order a b := by
  unfold order; rw [parts_append, parts_append, cmpN_append]
theorem cmpN_own : ∀ (l b : List Str), b ≠ [] → cmpN l (l ++ b) < 0
  | [], [], h => absurd rfl h
  | [], _ :: _, _ => by simp [cmpN]
  | x :: l, b, h => by simp only [List.cons_append, cmpN, cmpB_self, if_true]; exact cmpN_own l b h
theorem order_own (q a : Str) : order q (q ++ 47 :: a) < 0 := by
  unfold order; rw [parts_append]; exact cmpN_own _ _ (parts_ne a)
theorem order_lt_le {a b c : Str} (h : order a b < 0) (k : 0 ≤ order c b) : order a c < 0 := by
  rcases Int.lt_trichotomy (order c b) 0 with h1 | h1 | h1
  · omega
  · rw [order_eq h1]; exact h
  · have h2 := order_swap c b
    exact order_trans h (by omega)
theorem order_tri (a b : Str) : order a b < 0 ∨ a = b ∨ order b a < 0 := by
  rcases Int.lt_trichotomy (order a b) 0 with h1 | h1 | h1
  · exact .inl h1
  · exact .inr (.inl (order_eq h1))
  · exact .inr (.inr (by have := order_swap a b; omega))

/-! ### a value, put at a path -/
theorem str_slash (a b : ByteArray) : str (a ++ (⟨#[47]⟩ : ByteArray) ++ b) = str a ++ 47 :: str b := by
  rw [str_append, str_append]; simp [str]
def under (path : ByteArray) (n : Node) : Node := { n with path := path ++ (⟨#[47]⟩ : ByteArray) ++ n.path }
theorem under_p (path : ByteArray) (n : Node) : (under path n).p = str path ++ 47 :: n.p := str_slash _ _
theorem moved_cons (path : ByteArray) (n : Node) (r : List Node) : moved path (n :: r) = { n with path := path } :: r.map (under path) := by
  unfold moved
  rw [List.mapIdx_cons]
  congr 1
  apply List.ext_getElem?
  intro i
  rw [List.getElem?_mapIdx, List.getElem?_map]
  rfl
theorem okVal_cons {n : Node} {r : List Node} (h : okVal (n :: r) = true) : r.length + 1 ≤ 1000 ∧ n.p = [] ∧ rightN n = true ∧ (r = [] ∨ n.kind = 2 ∧ okTree r = true) := by
  unfold okVal at h
  simp only [Bool.and_eq_true, Bool.or_eq_true, decide_eq_true_eq, List.length_cons] at h
  exact h
theorem okVal_mk {n : Node} {r : List Node} (h1 : r.length + 1 ≤ 1000) (h2 : n.p = []) (h3 : rightN n = true) (h4 : r = [] ∨ n.kind = 2 ∧ okTree r = true) : okVal (n :: r) = true := by
  unfold okVal
  simp only [Bool.and_eq_true, Bool.or_eq_true, decide_eq_true_eq, List.length_cons]
  exact ⟨h1, h2, h3, h4⟩
theorem within_self {p : Str} (h : okPath p = true) : within p p = true := (within_iff h h).2 (.inl rfl)
theorem within_sub {q s : Str} (hq : okPath q = true) (h : okPath (q ++ 47 :: s) = true) : within (q ++ 47 :: s) q = true := (within_iff h hq).2 (.inr ⟨s, rfl⟩)
/-- what is put is within the path -/
theorem moved_in {path : ByteArray} {v : List Node} (hp : okPath (str path) = true) (ha : (moved path v).all (fun n => okPath n.p) = true) {m : Node} (hm : m ∈ moved path v) : within m.p (str path) = true := by
  rw [List.all_eq_true] at ha
  have hk := ha m hm
  cases v with
  | nil => cases hm
  | cons n r =>
    rw [moved_cons] at hm
    rcases List.mem_cons.1 hm with rfl | hm
    · exact within_self hp
    · obtain ⟨x, _, rfl⟩ := List.mem_map.1 hm
      rw [under_p] at hk ⊢
      exact within_sub hp hk
theorem moved_sorted {path : ByteArray} {v : List Node} (hv : okVal v = true) : Sorted (moved path v) := by
  cases v with
  | nil => exact List.Pairwise.nil
  | cons n r =>
    obtain ⟨_, _, _, h4⟩ := okVal_cons hv
    rw [moved_cons]
    refine List.pairwise_cons.2 ⟨fun m hm => ?_, ?_⟩
    · obtain ⟨x, _, rfl⟩ := List.mem_map.1 hm
      rw [under_p]; exact order_own _ _
    · rcases h4 with rfl | ⟨_, h4⟩
      · exact List.Pairwise.nil
      · rw [List.pairwise_map]
        refine (okTree_sorted h4).imp fun {a b} hab => ?_
        rw [under_p, under_p, order_sub]; exact hab
theorem mem_lower {t : List Node} {p : Str} {n : Node} : n ∈ lower t p ↔ n ∈ t ∧ order n.p p < 0 := by
  unfold lower; rw [List.mem_filter, decide_eq_true_eq]
theorem mem_upper {t : List Node} {p : Str} {n : Node} : n ∈ upper t p ↔ n ∈ t ∧ 0 ≤ order n.p p ∧ within n.p p = false := by
  unfold upper; rw [List.mem_filter, Bool.and_eq_true, decide_eq_true_eq, Bool.not_eq_true']
/-- all but what is within stays -/
theorem mem_stay {t : List Node} {path : ByteArray} {v : List Node} {n : Node} (hn : n ∈ t) (hw : within n.p (str path) = false) : n ∈ putOut t path v := by
  unfold putOut
  rcases Int.lt_or_le (order n.p (str path)) 0 with h | h
  · exact List.mem_append_left _ (List.mem_append_left _ (mem_lower.2 ⟨hn, h⟩))
  · exact List.mem_append_right _ (mem_upper.2 ⟨hn, h, hw⟩)
theorem lower_out {t : List Node} {p : Str} (hp : okPath p = true) {n : Node} (h : n ∈ lower t p) : within n.p p = false := by
  cases hw : within n.p p
  · rfl
  · have := within_order hp hw
    have := (mem_lower.1 h).2
    omega
theorem upper_behind {t : List Node} {p m : Str} (ht : okTree t = true) (hp : okPath p = true) (hm : within m p = true) {u : Node} (hu : u ∈ upper t p) : order m u.p < 0 := by
  obtain ⟨h1, h2, h3⟩ := mem_upper.1 hu
  rcases order_tri m u.p with h | h | h
  · exact h
  · rw [← h, hm] at h3; cases h3
  · rw [within_between (okTree_path ht h1) hp h2 h hm] at h3; cases h3
theorem putOut_sorted {t : List Node} {path : ByteArray} {v : List Node} (ht : okTree t = true) (hv : okVal v = true) (hp : okPath (str path) = true) (ha : (moved path v).all (fun n => okPath n.p) = true) : Sorted (putOut t path v) := by
  have hs := okTree_sorted ht
  unfold putOut Sorted
  rw [List.pairwise_append, List.pairwise_append]
  refine ⟨⟨List.Pairwise.filter _ hs, moved_sorted hv, fun a hla b hb => ?_⟩, List.Pairwise.filter _ hs, fun a hla b hb => ?_⟩
  · exact order_lt_le (mem_lower.1 hla).2 (within_order hp (moved_in hp ha hb))
  · rcases List.mem_append.1 hla with h | h
    · exact order_lt_le (mem_lower.1 h).2 (mem_upper.1 hb).2.1
    · exact upper_behind ht hp (moved_in hp ha h) hb
theorem parent_parts {p : Str} (h : okPath p = true) (hp : parent p ≠ []) : parts (parent p) = (parts p).dropLast := by
  have hd : (parts p).dropLast ≠ [] := fun e => by rw [parent_eq h, e] at hp; exact hp rfl
  rw [parent_eq h]; exact parts_joinP _ hd drop_clean
theorem parent_out {p q : Str} (h : okPath p = true) (hq : okPath q = true) (hp : parent p ≠ []) (_ : okPath (parent p) = true) (hw : within p q = false) : within (parent p) q = false := by
  cases hw2 : within (parent p) q
  · rfl
  · obtain ⟨_, h1⟩ := within_pre hq hw2
    rw [parent_parts h hp] at h1
    have h2 := h1.trans (List.dropLast_prefix (parts p))
    have : within p q = true := by
      unfold within
      rw [h, hq, List.isPrefixOf_iff_prefix.2 h2]; simp
    rw [this] at hw; cases hw
theorem parent_own {q : Str} (hq : okPath q = true) (hp : parent q ≠ []) (_ : okPath (parent q) = true) : within (parent q) q = false := by
  cases hw2 : within (parent q) q
  · rfl
  · obtain ⟨_, h1⟩ := within_pre hq hw2
    rw [parent_parts hq hp] at h1
    have h2 := h1.length_le
    rw [List.length_dropLast] at h2
    have h3 : 0 < (parts q).length := List.length_pos_iff.2 (parts_ne q)
    omega
theorem parent_sub {q s : Str} (_ : okPath q = true) (hs : okPath s = true) (h : okPath (q ++ 47 :: s) = true) : parent (q ++ 47 :: s) = if parent s = [] then q else q ++ 47 :: parent s := by
  have e1 : (parts (q ++ 47 :: s)).dropLast = parts q ++ (parts s).dropLast := by
    rw [parts_append, List.dropLast_append_of_ne_nil (parts_ne s)]
  rw [parent_eq h, e1]
  by_cases hp : parent s = []
  · have hd : (parts s).dropLast = [] := by
      by_cases hd : (parts s).dropLast = []
      · exact hd
      · rw [parent_eq hs] at hp
        exact absurd hp (joinP_ne hd (drop_names hs))
    rw [if_pos hp, hd, List.append_nil, joinP_parts]
  · rw [if_neg hp]
    have hd : (parts s).dropLast ≠ [] := fun e => by rw [parent_eq hs, e] at hp; exact hp rfl
    apply parts_inj
    rw [parts_joinP _ (by simp [parts_ne]) (fun x hx => ?_), parts_append, parent_parts hs hp]
    rcases List.mem_append.1 hx with h1 | h1
    · exact parts_mem _ _ h1
    · exact drop_clean _ h1
theorem stays_dir {t : List Node} {path : ByteArray} {v : List Node} {p : Str} (ht : okTree t = true) (h : isDir t p = true) (ho : p ≠ [] → okPath p = true → within p (str path) = false) : isDir (putOut t path v) p = true := by
  rw [isDir_iff] at h ⊢
  rcases h with h | ⟨m, hm, rfl, hk⟩
  · exact .inl h
  · have := okTree_path ht hm
    exact .inr ⟨m, mem_stay hm (ho (okPath_ne this) this), rfl, hk⟩
/-- a tree with a value put in it is one -/
theorem putOut_tree {t : List Node} {path : ByteArray} {v : List Node} (ht : okTree t = true) (hv : okVal v = true) (hp : okPath (str path) = true) (hd : (v.isEmpty || isDir t (parent (str path))) = true) (ha : (moved path v).all (fun n => okPath n.p) = true) (hl : (putOut t path v).length ≤ 1000) : okTree (putOut t path v) = true := by
  refine tree_of hl (putOut_sorted ht hv hp ha) fun n hn => ?_
  have hstay : n ∈ t → within n.p (str path) = false → okPath n.p = true ∧ rightN n = true ∧ isDir (putOut t path v) (parent n.p) = true := fun h1 h2 =>
    ⟨okTree_path ht h1, okTree_right ht h1, stays_dir ht (parent_dir ht h1) fun h3 h4 => parent_out (okTree_path ht h1) hp h3 h4 h2⟩
  have hn0 := hn
  unfold putOut at hn
  rcases List.mem_append.1 hn with hn | hn
  · rcases List.mem_append.1 hn with hn | hn
    · exact hstay (mem_lower.1 hn).1 (lower_out hp hn)
    · have hok : okPath n.p = true := by rw [List.all_eq_true] at ha; exact ha n hn
      refine ⟨hok, ?_⟩
      cases v with
      | nil => cases hn
      | cons x r =>
        obtain ⟨h1, h2, h3, h4⟩ := okVal_cons hv
        rw [moved_cons] at hn
        have hsub : ∀ y ∈ moved path (x :: r), y ∈ putOut t path (x :: r) := fun y hy => by unfold putOut; exact List.mem_append_left _ (List.mem_append_right _ hy)
        rw [moved_cons] at hsub
        rcases List.mem_cons.1 hn with rfl | hn
        · refine ⟨h3, stays_dir ht ?_ fun h5 h6 => parent_own hp h5 h6⟩
          have hd' : isDir t (parent (str path)) = true := by simpa using hd
          exact hd'
        · obtain ⟨m, hm, rfl⟩ := List.mem_map.1 hn
          rcases h4 with rfl | ⟨h4, h5⟩
          · cases hm
          refine ⟨(okTree_right h5 hm : rightN m = true), ?_⟩
          rw [under_p] at hok ⊢
          rw [parent_sub hp (okTree_path h5 hm) hok]
          rw [isDir_iff]
          right
          rcases isDir_iff.1 (parent_dir h5 hm) with h6 | ⟨d, hd1, hd2, hd3⟩
          · rw [if_pos h6]
            exact ⟨_, hsub _ (List.mem_cons_self ..), rfl, h4⟩
          · rw [if_neg (by rw [← hd2]; exact okPath_ne (okTree_path h5 hd1)), ← hd2]
            exact ⟨_, hsub _ (List.mem_cons_of_mem _ (List.mem_map.2 ⟨d, hd1, rfl⟩)), under_p _ _, hd3⟩
  · exact hstay (mem_upper.1 hn).1 (mem_upper.1 hn).2.2

/-! ### the value at a path -/
def trimN (p : Str) (n : Node) : Node := { n with path := bs (n.p.drop (p.length + 1)) }

def inAt (t : List Node) (p : Str) : List Node := t.filter fun n => within n.p p
def atR (t : List Node) (p : Str) : List Node :=
  if okTree t = true then if p = [] then rootN :: t else if okPath p = true then (inAt t p).map (trimN p) else [] else []
theorem trim_under {path : ByteArray} (n : Node) : trimN (str path) (under path n) = n := by
  unfold trimN
  rw [under_p]
  have : (str path ++ 47 :: n.p).drop ((str path).length + 1) = n.p := by
    rw [List.drop_append]; simp
  rw [this]
  unfold Node.p
  rw [bs_str]; rfl
theorem trim_own {path : ByteArray} {n : Node} (h : n.p = []) : trimN (str path) { n with path := path } = n := by
  unfold trimN
  have e1 : ({ n with path := path } : Node).p = str path := rfl
  rw [e1, List.drop_eq_nil_of_le (by omega)]
  have e2 : bs [] = n.path := str_inj (by rw [str_bs]; exact h.symm)
  rw [e2]
theorem inAt_put {t : List Node} {path : ByteArray} {v : List Node} (hp : okPath (str path) = true) (ha : (moved path v).all (fun n => okPath n.p) = true) : inAt (putOut t path v) (str path) = moved path v := by
  unfold inAt putOut
  rw [List.filter_append, List.filter_append, List.filter_eq_nil_iff.2 (fun n hn => ?_), List.filter_eq_self.2 (fun n hn => ?_), List.filter_eq_nil_iff.2 (fun n hn => ?_)]
  · simp
  · rw [(mem_upper.1 hn).2.2]; simp
  · exact moved_in hp ha hn
  · rw [lower_out hp hn]; simp
theorem at_put {t : List Node} {path : ByteArray} {v : List Node} (hv : okVal v = true) (hp : okPath (str path) = true) (ha : (moved path v).all (fun n => okPath n.p) = true) (hx : okTree (putOut t path v) = true) : atR (putOut t path v) (str path) = v := by
  unfold atR
  rw [if_pos hx, if_neg (okPath_ne hp), if_pos hp, inAt_put hp ha]
  cases v with
  | nil => rfl
  | cons n r =>
    obtain ⟨_, h2, _, _⟩ := okVal_cons hv
    rw [moved_cons, List.map_cons, trim_own h2, List.map_map]
    congr 1
    conv => rhs; rw [← List.map_id r]
    exact List.map_congr_left fun x _ => trim_under x

/-! ### where they differ -/
theorem differ_mem : ∀ (k : Nat) (A B : List Node), A.length + B.length ≤ k → Sorted A → Sorted B → ∀ s ∈ differ A B, (∃ n ∈ A, n.path = s ∧ n ∉ B) ∨ (∃ n ∈ B, n.path = s ∧ n ∉ A)
  | k, [], B, _, _, _, s, h => by
    rw [differ_nil] at h
    obtain ⟨n, hn, rfl⟩ := List.mem_map.1 h
    exact .inr ⟨n, hn, rfl, by simp⟩
  | k, x :: A, [], _, _, _, s, h => by
    rw [differ_nil2] at h
    obtain ⟨n, hn, rfl⟩ := List.mem_map.1 h
    exact .inl ⟨n, hn, rfl, by simp⟩
  | 0, x :: A, y :: B, hk, _, _, s, h => by simp at hk
  | k + 1, x :: A, y :: B, hk, hA, hB, s, h => by
    simp only [List.length_cons] at hk
    have hA' := List.pairwise_cons.1 hA
    have hB' := List.pairwise_cons.1 hB
    have ne_of : ∀ {a b : Node}, order a.p b.p < 0 → a ≠ b := fun h e => by subst e; rw [order_self] at h; omega
    rcases Int.lt_trichotomy (order x.p y.p) 0 with h1 | h1 | h1
    · rw [differ_lt h1] at h
      have hx : x ∉ y :: B := fun hm => by
        rcases List.mem_cons.1 hm with e | hm
        · exact ne_of h1 e
        · exact ne_of (order_trans h1 (hB'.1 x hm)) rfl
      rcases List.mem_cons.1 h with rfl | h
      · exact .inl ⟨x, by simp, rfl, hx⟩
      · rcases differ_mem k A (y :: B) (by simp only [List.length_cons]; omega) hA'.2 hB s h with ⟨n, hn, hs, ho⟩ | ⟨n, hn, hs, ho⟩
        · exact .inl ⟨n, List.mem_cons_of_mem _ hn, hs, ho⟩
        · refine .inr ⟨n, hn, hs, fun hm => ?_⟩
          rcases List.mem_cons.1 hm with e | hm
          · subst e; exact hx hn
          · exact ho hm
    · rw [differ_eq h1] at h
      have hxy := order_eq h1
      have hx : ∀ b ∈ B, x ≠ b := fun b hb => ne_of (by rw [hxy]; exact hB'.1 b hb)
      have hy : ∀ a ∈ A, y ≠ a := fun a ha => ne_of (by rw [← hxy]; exact hA'.1 a ha)
      rcases List.mem_append.1 h with h | h
      · unfold oneDif at h
        split at h
        · cases h
        · rename_i hne
          rw [List.mem_singleton] at h
          refine .inl ⟨x, by simp, h.symm, fun hm => ?_⟩
          rcases List.mem_cons.1 hm with e | hm
          · exact hne e
          · exact hx x hm rfl
      · rcases differ_mem k A B (by omega) hA'.2 hB'.2 s h with ⟨n, hn, hs, ho⟩ | ⟨n, hn, hs, ho⟩
        · refine .inl ⟨n, List.mem_cons_of_mem _ hn, hs, fun hm => ?_⟩
          rcases List.mem_cons.1 hm with e | hm
          · exact hy n hn e.symm
          · exact ho hm
        · refine .inr ⟨n, List.mem_cons_of_mem _ hn, hs, fun hm => ?_⟩
          rcases List.mem_cons.1 hm with e | hm
          · exact hx n hn e.symm
          · exact ho hm
    · rw [differ_gt h1] at h
      have h1' : order y.p x.p < 0 := by have := order_swap x.p y.p; omega
      have hy : y ∉ x :: A := fun hm => by
        rcases List.mem_cons.1 hm with e | hm
        · exact ne_of h1' e
        · exact ne_of (order_trans h1' (hA'.1 y hm)) rfl
      rcases List.mem_cons.1 h with rfl | h
      · exact .inr ⟨y, by simp, rfl, hy⟩
      · rcases differ_mem k (x :: A) B (by simp only [List.length_cons]; omega) hA hB'.2 s h with ⟨n, hn, hs, ho⟩ | ⟨n, hn, hs, ho⟩
        · refine .inl ⟨n, hn, hs, fun hm => ?_⟩
          rcases List.mem_cons.1 hm with e | hm
          · subst e; exact hy hn
          · exact ho hm
        · exact .inr ⟨n, List.mem_cons_of_mem _ hn, hs, ho⟩
theorem put_differ {t : List Node} {path : ByteArray} {v : List Node} (ht : okTree t = true) (hp : okPath (str path) = true) (ha : (moved path v).all (fun n => okPath n.p) = true) (hx : okTree (putOut t path v) = true) {s : ByteArray} (h : s ∈ differ t (putOut t path v)) : within (str s) (str path) = true := by
  rcases differ_mem _ _ _ (Nat.le_refl _) (okTree_sorted ht) (okTree_sorted hx) s h with ⟨n, hn, rfl, ho⟩ | ⟨n, hn, rfl, ho⟩
  · cases hw : within (str n.path) (str path)
    · exact absurd (mem_stay hn hw) ho
    · rfl
  · unfold putOut at hn
    rcases List.mem_append.1 hn with hn | hn
    · rcases List.mem_append.1 hn with hn | hn
      · exact absurd (mem_lower.1 hn).1 ho
      · exact moved_in hp ha hn
    · exact absurd (mem_upper.1 hn).1 ho
end Go.Proofs.YtpaeihdkggbeoaaGreatDoor
