/- Texts of this claim, one behind the other: PutLaw BackLaw TDif With Right ConcatT Put Put2 Back2. Conditions: what each lemma states. -/
import Derived.Test.YthciejabapdbgaaGreatDoorKc
import Derived.Lib.Strings
import Derived.Lib.SliceRun
import Derived.StillTailTactics
set_option linter.unusedVariables false
set_option linter.unusedSimpArgs false
namespace Go.Proofs.YthciejabapdbgaaGreatDoor
section
open Go.RowKit
theorem pre_parts (p q : Str) : (parts q).isPrefixOf (parts p) = true ↔ p = q ∨ ∃ s, p = q ++ 47 :: s := by
  rw [List.isPrefixOf_iff_prefix]
  constructor
  · rintro ⟨r, hr⟩
    by_cases h0 : r = []
    · subst h0; left; rw [List.append_nil] at hr; exact (parts_inj hr).symm
    right
    refine ⟨joinP r, ?_⟩
    apply parts_inj
    rw [parts_append, parts_joinP r h0 (fun x hx => parts_mem p x (by rw [← hr]; exact List.mem_append_right _ hx)), hr]
  rintro (rfl | ⟨s, rfl⟩)
  · exact List.prefix_refl _
  rw [parts_append]; exact List.prefix_append _ _
theorem within_iff {p q : Str} (hp : okPath p = true) (hq : okPath q = true) : within p q = true ↔ p = q ∨ ∃ s, p = q ++ 47 :: s := by
  unfold within; rw [hp, hq, Bool.true_and, Bool.true_and, Bool.or_eq_true, decide_eq_true_eq, pre_parts]
  constructor
  · rintro (h | h)
    · subst h; exact absurd hq (by decide)
    exact h
  exact .inr
theorem within_pre {p q : Str} (hq : okPath q = true) (h : within p q = true) : okPath p = true ∧ (parts q) <+: (parts p) := by
  unfold within at h; rw [hq, Bool.true_and, Bool.and_eq_true, Bool.or_eq_true, decide_eq_true_eq, List.isPrefixOf_iff_prefix] at h; refine ⟨h.1, ?_⟩
  rcases h.2 with h | h
  · subst h; exact absurd hq (by decide)
  exact h
theorem cmpN_pre : ∀ (q r : List Str), 0 ≤ cmpN (q ++ r) q
  | [], [] => by decide
  | [], _ :: _ => by simp [cmpN]
  | x :: q, r => by simp only [List.cons_append, cmpN, cmpB_self, if_true]; exact cmpN_pre q r
theorem within_order {p q : Str} (hq : okPath q = true) (h : within p q = true) : 0 ≤ order p q := by
  obtain ⟨_, r, hr⟩ := within_pre hq h; unfold order; rw [← hr]; exact cmpN_pre _ _
theorem cmpN_between : ∀ {q a r : List Str}, 0 ≤ cmpN a q → cmpN a (q ++ r) < 0 → q <+: a
  | [], a, r, _, _ => List.nil_prefix
  | x :: q, [], r, h, _ => by simp [cmpN] at h
  | x :: q, y :: a, r, h, k => by
    simp only [List.cons_append, cmpN] at h k
    by_cases e : Lib.compareBytes y x = 0
    · rw [if_pos e] at h k
      obtain rfl := cmpB_eq e; obtain ⟨s, hs⟩ := cmpN_between h k; exact ⟨s, by rw [← hs]; rfl⟩
    rw [if_neg e] at h k; omega
theorem within_between {a b q : Str} (ha : okPath a = true) (hq : okPath q = true) (h0 : 0 ≤ order a q) (hab : order a b < 0) (hb : within b q = true) : within a q = true := by
  obtain ⟨_, r, hr⟩ := within_pre hq hb; unfold order at h0 hab; rw [← hr] at hab; have := cmpN_between h0 hab; unfold within; rw [ha, hq, List.isPrefixOf_iff_prefix.2 this]; simp
def lower (t : List Node) (p : Str) : List Node := t.filter fun n => decide (order n.p p < 0)
def upper (t : List Node) (p : Str) : List Node := t.filter fun n => decide (0 ≤ order n.p p) && !within n.p p
def newPath (path : ByteArray) (k : Nat) (x : ByteArray) : ByteArray := if k = 0 then path else path ++ (⟨#[47]⟩ : ByteArray) ++ x
def moved (path : ByteArray) (v : List Node) : List Node := v.mapIdx fun k n => { n with path := newPath path k n.path }
def putOut (t : List Node) (path : ByteArray) (v : List Node) : List Node := lower t (str path) ++ moved path v ++ upper t (str path)
def okVal (v : List Node) : Bool :=
  match v with
  | [] => true
  | n :: r => decide (v.length ≤ 1000) && (decide (n.p = []) && (rightN n && (decide (r = []) || decide (n.kind = 2) && okTree r)))
def putR (t : List Node) (path : ByteArray) (v : List Node) : List Node × Int :=
  if (okTree t && okVal v) = true then
    if okPath (str path) = true then
      if (v.isEmpty || isDir t (parent (str path))) = true then
        if (moved path v).all (fun n => okPath n.p) = true then
          if (putOut t path v).length ≤ 1000 then (putOut t path v, 0) else ([], 32)
        else ([], 11)
      else ([], 62)
    else ([], 11)
  else ([], 60)
theorem filter_take {α : Type} (P : α → Bool) (t : List α) (i : Nat) (h1 : ∀ (j : Nat) (n : α), j < i → t[j]? = some n → P n = true) (h2 : ∀ (j : Nat) (n : α), i ≤ j → t[j]? = some n → P n = false) : t.filter P = t.take i := by
  conv => lhs; rw [← List.take_append_drop i t]
  rw [List.filter_append, List.filter_eq_self.2 (fun a ha => ?_), List.filter_eq_nil_iff.2 (fun a ha => ?_), List.append_nil]
  · obtain ⟨j, hj, rfl⟩ := List.getElem_of_mem ha
    have := h2 (i + j) _ (by omega) (by rw [← List.getElem?_drop]; exact List.getElem?_eq_getElem hj); rw [this]; simp
  obtain ⟨j, hj, rfl⟩ := List.getElem_of_mem ha; have hj' := hj; rw [List.length_take] at hj'; exact h1 j _ (by omega) (by rw [List.getElem_take]; exact List.getElem?_eq_getElem (by omega))
theorem filter_drop {α : Type} (P : α → Bool) (t : List α) (i : Nat) (h1 : ∀ (j : Nat) (n : α), j < i → t[j]? = some n → P n = false) (h2 : ∀ (j : Nat) (n : α), i ≤ j → t[j]? = some n → P n = true) : t.filter P = t.drop i := by
  conv => lhs; rw [← List.take_append_drop i t]
  rw [List.filter_append, List.filter_eq_nil_iff.2 (fun a ha => ?_), List.filter_eq_self.2 (fun a ha => ?_), List.nil_append]
  · obtain ⟨j, hj, rfl⟩ := List.getElem_of_mem ha
    exact h2 (i + j) _ (by omega) (by rw [← List.getElem?_drop]; exact List.getElem?_eq_getElem hj)
  obtain ⟨j, hj, rfl⟩ := List.getElem_of_mem ha; have hj' := hj; rw [List.length_take] at hj'; have := h1 j _ (by omega) (List.getElem?_eq_getElem (by omega)); rw [List.getElem_take, this]; simp
structure SpanAt (t : List Node) (p : Str) (i j : Nat) : Prop where
  ij : i ≤ j
  le : j ≤ t.length
  lo : ∀ (k : Nat) (n : Node), k < i → t[k]? = some n → order n.p p < 0
  hi : ∀ (k : Nat) (n : Node), i ≤ k → t[k]? = some n → 0 ≤ order n.p p
  in_ : ∀ (k : Nat) (n : Node), i ≤ k → k < j → t[k]? = some n → within n.p p = true
  out : ∀ n, t[j]? = some n → within n.p p = false
theorem SpanAt.lower {t : List Node} {p : Str} {i j : Nat} (h : SpanAt t p i j) : t.take i = lower t p := by
  unfold Go.Proofs.YthciejabapdbgaaGreatDoor.lower; rw [filter_take _ t i (fun k n hk hn => decide_eq_true (h.lo k n hk hn)) (fun k n hk hn => decide_eq_false (by have := h.hi k n hk hn; omega))]
theorem SpanAt.far {t : List Node} {p : Str} {i j : Nat} (h : SpanAt t p i j) (hk : okTree t = true) (hp : okPath p = true) (k : Nat) (n : Node) (hjk : j ≤ k) (hn : t[k]? = some n) : within n.p p = false := by
  rcases Nat.lt_or_ge j k with h1 | h1
  · obtain ⟨hkl, rfl⟩ := List.getElem?_eq_some_iff.1 hn
    have hjl : j < t.length := by omega
    cases hw : within (t[k]).p p
    · rfl
    have h2 := List.pairwise_iff_getElem.1 (okTree_sorted hk) j k hjl hkl h1; have h3 := within_between (okTree_path hk (List.getElem_mem hjl)) hp (h.hi j _ h.ij (List.getElem?_eq_getElem hjl)) h2 hw; have h4 := h.out _ (List.getElem?_eq_getElem hjl); rw [h3] at h4
    cases h4
  obtain rfl : j = k := by omega
  exact h.out n hn
theorem SpanAt.upper {t : List Node} {p : Str} {i j : Nat} (h : SpanAt t p i j) (hk : okTree t = true) (hp : okPath p = true) : t.drop j = upper t p := by
  unfold Go.Proofs.YthciejabapdbgaaGreatDoor.upper; rw [filter_drop _ t j (fun k n hkj hn => ?_) (fun k n hjk hn => ?_)]
  · rcases Nat.lt_or_ge k i with h1 | h1
    · have := h.lo k n h1 hn
      rw [decide_eq_false (by omega)]; rfl
    rw [h.in_ k n h1 hkj hn]; simp
  rw [h.far hk hp k n hjk hn, decide_eq_true (h.hi k n (by have := h.ij; omega) hn)]; rfl
theorem moved_len (path : ByteArray) (v : List Node) : (moved path v).length = v.length := by unfold moved; simp
theorem moved_get {path : ByteArray} {v : List Node} {k : Nat} {n : Node} (h : v[k]? = some n) : (moved path v)[k]? = some { n with path := newPath path k n.path } := by
  unfold moved; simp [h]
end
section
open Go.RowKit
theorem sorted_last {x : List Node} (hs : Sorted x) {j : Nat} (hj : j < x.length) : lastOk (x.take j) x[j] = true := by
  cases hl : (x.take j).getLast? with
  | none => exact lastOk_none hl
  | some m =>
    rw [lastOk_some hl, decide_eq_true_eq]; rw [List.getLast?_eq_getElem?] at hl; obtain ⟨h1, rfl⟩ := List.getElem?_eq_some_iff.1 hl; rw [List.getElem_take]; have h2 := List.length_take (i := j) (l := x); exact List.pairwise_iff_getElem.1 hs _ j (by omega) hj (by omega)
theorem tree_of {x : List Node} (hl : x.length ≤ 1000) (hs : Sorted x) (h : ∀ n ∈ x, okPath n.p = true ∧ rightN n = true ∧ isDir x (parent n.p) = true) : okTree x = true :=
  RokTo.tree hl fun j hj _ => by
    obtain ⟨h1, h2, h3⟩ := h _ (List.getElem_mem hj); unfold rok; rw [h1, h2, dir_rdir hs h3, sorted_last hs hj]; rfl
theorem okTree_right {t : List Node} (h : okTree t = true) {n : Node} (hn : n ∈ t) : rightN n = true := by
  obtain ⟨i, hi, rfl⟩ := List.getElem_of_mem hn; have := okTree_next h i hi; rw [okNext_eq] at this; simp only [Bool.and_eq_true] at this; exact this.1.1.2
theorem isDir_iff {t : List Node} {p : Str} : isDir t p = true ↔ p = [] ∨ ∃ n ∈ t, n.p = p ∧ n.kind = 2 := by
  unfold isDir; rw [Bool.or_eq_true, decide_eq_true_eq, List.any_eq_true]; simp only [Bool.and_eq_true, decide_eq_true_eq]
theorem cmpN_append : ∀ (l a b : List Str), cmpN (l ++ a) (l ++ b) = cmpN a b
  | [], _, _ => rfl
  | x :: l, a, b => by simp only [List.cons_append, cmpN, cmpB_self, if_true]; exact cmpN_append l a b
theorem order_sub (q a b : Str) : order (q ++ 47 :: a) (q ++ 47 :: b) = order a b := by
  unfold order; rw [parts_append, parts_append, cmpN_append]
theorem cmpN_own : ∀ (l b : List Str), b ≠ [] → cmpN l (l ++ b) < 0
  | [], [], h => absurd rfl h
  | [], _ :: _, _ => by simp [cmpN]
  | x :: l, b, h => by simp only [List.cons_append, cmpN, cmpB_self, if_true]; exact cmpN_own l b h
theorem order_own (q a : Str) : order q (q ++ 47 :: a) < 0 := by
  unfold order; rw [parts_append]; exact cmpN_own _ _ (parts_ne a)
theorem order_lt_le {a b c : Str} (h : order a b < 0) (k : 0 ≤ order c b) : order a c < 0 := by
  rcases Int.lt_trichotomy (order c b) 0 with h1 | h1 | h1
  · omega
  · rw [order_eq h1]; exact h
  have h2 := order_swap c b; exact order_trans h (by omega)
theorem order_tri (a b : Str) : order a b < 0 ∨ a = b ∨ order b a < 0 := by
  rcases Int.lt_trichotomy (order a b) 0 with h1 | h1 | h1
  · exact .inl h1
  · exact .inr (.inl (order_eq h1))
  exact .inr (.inr (by have := order_swap a b; omega))
theorem str_slash (a b : ByteArray) : str (a ++ (⟨#[47]⟩ : ByteArray) ++ b) = str a ++ 47 :: str b := by
  rw [str_append, str_append]; simp [str]
def under (path : ByteArray) (n : Node) : Node := { n with path := path ++ (⟨#[47]⟩ : ByteArray) ++ n.path }
theorem under_p (path : ByteArray) (n : Node) : (under path n).p = str path ++ 47 :: n.p := str_slash _ _
theorem moved_cons (path : ByteArray) (n : Node) (r : List Node) : moved path (n :: r) = { n with path := path } :: r.map (under path) := by
  unfold moved; rw [List.mapIdx_cons]
  congr 1
  apply List.ext_getElem?
  intro i
  rw [List.getElem?_mapIdx, List.getElem?_map]
  rfl
theorem okVal_cons {n : Node} {r : List Node} (h : okVal (n :: r) = true) : r.length + 1 ≤ 1000 ∧ n.p = [] ∧ rightN n = true ∧ (r = [] ∨ n.kind = 2 ∧ okTree r = true) := by
  unfold okVal at h; simp only [Bool.and_eq_true, Bool.or_eq_true, decide_eq_true_eq, List.length_cons] at h; exact h
theorem within_self {p : Str} (h : okPath p = true) : within p p = true := (within_iff h h).2 (.inl rfl)
theorem within_sub {q s : Str} (hq : okPath q = true) (h : okPath (q ++ 47 :: s) = true) : within (q ++ 47 :: s) q = true := (within_iff h hq).2 (.inr ⟨s, rfl⟩)
theorem moved_in {path : ByteArray} {v : List Node} (hp : okPath (str path) = true) (ha : (moved path v).all (fun n => okPath n.p) = true) {m : Node} (hm : m ∈ moved path v) : within m.p (str path) = true := by
  rw [List.all_eq_true] at ha; have hk := ha m hm
  cases v with
  | nil => cases hm
  | cons n r =>
    rw [moved_cons] at hm
    rcases List.mem_cons.1 hm with rfl | hm
    · exact within_self hp
    obtain ⟨x, _, rfl⟩ := List.mem_map.1 hm; rw [under_p] at hk ⊢; exact within_sub hp hk
theorem moved_sorted {path : ByteArray} {v : List Node} (hv : okVal v = true) : Sorted (moved path v) := by
  cases v with
  | nil => exact List.Pairwise.nil
  | cons n r =>
    obtain ⟨_, _, _, h4⟩ := okVal_cons hv; rw [moved_cons]; refine List.pairwise_cons.2 ⟨fun m hm => ?_, ?_⟩
    · obtain ⟨x, _, rfl⟩ := List.mem_map.1 hm
      rw [under_p]; exact order_own _ _
    rcases h4 with rfl | ⟨_, h4⟩
    · exact List.Pairwise.nil
    rw [List.pairwise_map]; refine (okTree_sorted h4).imp fun {a b} hab => ?_
    rw [under_p, under_p, order_sub]; exact hab
theorem mem_lower {t : List Node} {p : Str} {n : Node} : n ∈ lower t p ↔ n ∈ t ∧ order n.p p < 0 := by
  unfold lower; rw [List.mem_filter, decide_eq_true_eq]
theorem mem_upper {t : List Node} {p : Str} {n : Node} : n ∈ upper t p ↔ n ∈ t ∧ 0 ≤ order n.p p ∧ within n.p p = false := by
  unfold upper; rw [List.mem_filter, Bool.and_eq_true, decide_eq_true_eq, Bool.not_eq_true']
theorem mem_stay {t : List Node} {path : ByteArray} {v : List Node} {n : Node} (hn : n ∈ t) (hw : within n.p (str path) = false) : n ∈ putOut t path v := by
  unfold putOut
  rcases Int.lt_or_le (order n.p (str path)) 0 with h | h
  · exact List.mem_append_left _ (List.mem_append_left _ (mem_lower.2 ⟨hn, h⟩))
  exact List.mem_append_right _ (mem_upper.2 ⟨hn, h, hw⟩)
theorem lower_out {t : List Node} {p : Str} (hp : okPath p = true) {n : Node} (h : n ∈ lower t p) : within n.p p = false := by
  cases hw : within n.p p
  · rfl
  have := within_order hp hw; have := (mem_lower.1 h).2; omega
theorem upper_behind {t : List Node} {p m : Str} (ht : okTree t = true) (hp : okPath p = true) (hm : within m p = true) {u : Node} (hu : u ∈ upper t p) : order m u.p < 0 := by
  obtain ⟨h1, h2, h3⟩ := mem_upper.1 hu
  rcases order_tri m u.p with h | h | h
  · exact h
  · rw [← h, hm] at h3; cases h3
  rw [within_between (okTree_path ht h1) hp h2 h hm] at h3; cases h3
theorem putOut_sorted {t : List Node} {path : ByteArray} {v : List Node} (ht : okTree t = true) (hv : okVal v = true) (hp : okPath (str path) = true) (ha : (moved path v).all (fun n => okPath n.p) = true) : Sorted (putOut t path v) := by
  have hs := okTree_sorted ht; unfold putOut Sorted; rw [List.pairwise_append, List.pairwise_append]; refine ⟨⟨List.Pairwise.filter _ hs, moved_sorted hv, fun a hla b hb => ?_⟩, List.Pairwise.filter _ hs, fun a hla b hb => ?_⟩
  · exact order_lt_le (mem_lower.1 hla).2 (within_order hp (moved_in hp ha hb))
  rcases List.mem_append.1 hla with h | h
  · exact order_lt_le (mem_lower.1 h).2 (mem_upper.1 hb).2.1
  exact upper_behind ht hp (moved_in hp ha h) hb
theorem parent_parts {p : Str} (h : okPath p = true) (hp : parent p ≠ []) : parts (parent p) = (parts p).dropLast := by
  have hd : (parts p).dropLast ≠ [] := fun e => by rw [parent_eq h, e] at hp; exact hp rfl
  rw [parent_eq h]; exact parts_joinP _ hd drop_clean
theorem parent_out {p q : Str} (h : okPath p = true) (hq : okPath q = true) (hp : parent p ≠ []) (_ : okPath (parent p) = true) (hw : within p q = false) : within (parent p) q = false := by
  cases hw2 : within (parent p) q
  · rfl
  obtain ⟨_, h1⟩ := within_pre hq hw2; rw [parent_parts h hp] at h1; have h2 := h1.trans (List.dropLast_prefix (parts p)); have : within p q = true := by
    unfold within; rw [h, hq, List.isPrefixOf_iff_prefix.2 h2]; simp
  rw [this] at hw; cases hw
theorem parent_own {q : Str} (hq : okPath q = true) (hp : parent q ≠ []) (_ : okPath (parent q) = true) : within (parent q) q = false := by
  cases hw2 : within (parent q) q
  · rfl
  obtain ⟨_, h1⟩ := within_pre hq hw2; rw [parent_parts hq hp] at h1; have h2 := h1.length_le; rw [List.length_dropLast] at h2; have h3 : 0 < (parts q).length := List.length_pos_iff.2 (parts_ne q)
  omega
theorem parent_sub {q s : Str} (_ : okPath q = true) (hs : okPath s = true) (h : okPath (q ++ 47 :: s) = true) : parent (q ++ 47 :: s) = if parent s = [] then q else q ++ 47 :: parent s := by
  have e1 : (parts (q ++ 47 :: s)).dropLast = parts q ++ (parts s).dropLast := by
    rw [parts_append, List.dropLast_append_of_ne_nil (parts_ne s)]
  rw [parent_eq h, e1]
  by_cases hp : parent s = []
  · have hd : (parts s).dropLast = [] := by
      by_cases hd : (parts s).dropLast = []
      · exact hd
      rw [parent_eq hs] at hp; exact absurd hp (joinP_ne hd (drop_names hs))
    rw [if_pos hp, hd, List.append_nil, joinP_parts]
  rw [if_neg hp]; have hd : (parts s).dropLast ≠ [] := fun e => by rw [parent_eq hs, e] at hp; exact hp rfl
  apply parts_inj
  rw [parts_joinP _ (by simp [parts_ne]) (fun x hx => ?_), parts_append, parent_parts hs hp]
  rcases List.mem_append.1 hx with h1 | h1
  · exact parts_mem _ _ h1
  exact drop_clean _ h1
theorem stays_dir {t : List Node} {path : ByteArray} {v : List Node} {p : Str} (ht : okTree t = true) (h : isDir t p = true) (ho : p ≠ [] → okPath p = true → within p (str path) = false) : isDir (putOut t path v) p = true := by
  rw [isDir_iff] at h ⊢
  rcases h with h | ⟨m, hm, rfl, hk⟩
  · exact .inl h
  have := okTree_path ht hm; exact .inr ⟨m, mem_stay hm (ho (okPath_ne this) this), rfl, hk⟩
theorem putOut_tree {t : List Node} {path : ByteArray} {v : List Node} (ht : okTree t = true) (hv : okVal v = true) (hp : okPath (str path) = true) (hd : (v.isEmpty || isDir t (parent (str path))) = true) (ha : (moved path v).all (fun n => okPath n.p) = true) (hl : (putOut t path v).length ≤ 1000) : okTree (putOut t path v) = true := by
  refine tree_of hl (putOut_sorted ht hv hp ha) fun n hn => ?_
  have hstay : n ∈ t → within n.p (str path) = false → okPath n.p = true ∧ rightN n = true ∧ isDir (putOut t path v) (parent n.p) = true := fun h1 h2 =>
    ⟨okTree_path ht h1, okTree_right ht h1, stays_dir ht (parent_dir ht h1) fun h3 h4 => parent_out (okTree_path ht h1) hp h3 h4 h2⟩
  have hn0 := hn; unfold putOut at hn
  rcases List.mem_append.1 hn with hn | hn
  · rcases List.mem_append.1 hn with hn | hn
    · exact hstay (mem_lower.1 hn).1 (lower_out hp hn)
    have hok : okPath n.p = true := by rw [List.all_eq_true] at ha; exact ha n hn
    refine ⟨hok, ?_⟩
    cases v with
    | nil => cases hn
    | cons x r =>
      obtain ⟨h1, h2, h3, h4⟩ := okVal_cons hv; rw [moved_cons] at hn; have hsub : ∀ y ∈ moved path (x :: r), y ∈ putOut t path (x :: r) := fun y hy => by unfold putOut; exact List.mem_append_left _ (List.mem_append_right _ hy)
      rw [moved_cons] at hsub
      rcases List.mem_cons.1 hn with rfl | hn
      · refine ⟨h3, stays_dir ht ?_ fun h5 h6 => parent_own hp h5 h6⟩
        have hd' : isDir t (parent (str path)) = true := by simpa using hd
        exact hd'
      obtain ⟨m, hm, rfl⟩ := List.mem_map.1 hn
      rcases h4 with rfl | ⟨h4, h5⟩
      · cases hm
      refine ⟨(okTree_right h5 hm : rightN m = true), ?_⟩
      rw [under_p] at hok ⊢; rw [parent_sub hp (okTree_path h5 hm) hok]; rw [isDir_iff]
      right
      rcases isDir_iff.1 (parent_dir h5 hm) with h6 | ⟨d, hd1, hd2, hd3⟩
      · rw [if_pos h6]
        exact ⟨_, hsub _ (List.mem_cons_self ..), rfl, h4⟩
      rw [if_neg (by rw [← hd2]; exact okPath_ne (okTree_path h5 hd1)), ← hd2]; exact ⟨_, hsub _ (List.mem_cons_of_mem _ (List.mem_map.2 ⟨d, hd1, rfl⟩)), under_p _ _, hd3⟩
  exact hstay (mem_upper.1 hn).1 (mem_upper.1 hn).2.2
def inAt (t : List Node) (p : Str) : List Node := t.filter fun n => within n.p p
end
section
open Go.RowKit Go.Op
theorem Row.tail {w : World} {a : Addr} {x : Node} {t : List Node} (h : Row w (some a) (x :: t)) : Row w (some (a.add 4)) t := fun hne => by
  obtain ⟨a', ha, hb, hn⟩ := h (by simp)
  cases ha
  refine ⟨a.add 4, rfl, by rw [add_block]; exact hb, fun i n hi => ?_⟩
  have := hn (i + 1) n (by simpa using hi); rw [Go.Deep.add_add, show 4 + i * 4 = (i + 1) * 4 by omega]; exact this
theorem Row.head {w : World} {p : Option Addr} {x : Node} {t : List Node} (h : Row w p (x :: t)) : ∃ a, p = some a ∧ NodeAt w a x ∧ a.block < w.heap.size := by
  obtain ⟨a, ha, hb, hn⟩ := h (by simp); have := hn 0 x (by simp); exact ⟨a, ha, this, hb⟩
theorem Fits.tail {x : Node} {t : List Node} (h : Fits (x :: t)) : Fits t := fun n hn => h n (List.mem_cons_of_mem _ hn)
def Sl (w : World) (v : Value) (t : List Node) : Prop := ∃ p c, v = .slice p t.length c ∧ Row w p t ∧ t.length ≤ c ∧ c ≤ maxLen ∧ (p = none → t = [] ∧ c = 0)
theorem Sl.off {w w' : World} {v : Value} {t : List Node} (h : Sl w v t) (ho : Off [] w w') : Sl w' v t := by
  obtain ⟨p, c, h1, h2, h3⟩ := h; exact ⟨p, c, h1, h2.off ho, h3⟩
end
section
open Go.RowKit Go.Op
theorem hasPre_eq {a b : ByteArray} (ha : okPath (str a) = true) (hb : okPath (str b) = true) (hne : a ≠ b) : Lib.hasPrefix a.data.toList (b ++ (⟨#[47]⟩ : ByteArray)).data.toList = within (str a) (str b) := by
  have e1 : (b ++ (⟨#[47]⟩ : ByteArray)).data.toList = str b ++ [47] := by
    show str (b ++ (⟨#[47]⟩ : ByteArray)) = _
    rw [str_append]; simp [str]
  rw [e1]
  show (str b ++ [47]).isPrefixOf (str a) = _
  rw [Bool.eq_iff_iff, within_iff ha hb, List.isPrefixOf_iff_prefix]
  constructor
  · rintro ⟨r, hr⟩
    exact .inr ⟨r, by rw [← hr]; simp⟩
  rintro (h | ⟨s, h⟩)
  · exact absurd (str_inj h) hne
  exact ⟨s, by rw [h]; simp⟩
set_option maxRecDepth 100000 in
set_option maxHeartbeats 4000000 in
theorem nwithin_any (a b : ByteArray) (w : World) (hT : Tabs w) :
    Calls Tryz.prog 88 #[.string a, .string b] w fun e w' => e = .returned (.bool (within (str a) (str b))) ∧ Off [] w w' := by
  have hE : b.toList = [] ↔ str b = [] := by rw [toList_str]
  cases hpa : okPath (str a)
  · have HW := Lib.hid (show within (str a) (str b) = false by unfold within; rw [hpa]; rfl)
    have HP := Lib.hid hpa; clear hpa hE
    go_enter Tryz.func88, Tryz.ntmps88
    go_wp2_with fail
    refine (path_v a _ hT false HP.out).mono ?_
    rintro e w1 ⟨rfl, ho⟩
    go_wp2_with fail
    go_ret
    exact ⟨by rw [HW.out]; rfl, ho⟩
  have HPA := Lib.hid hpa; clear hpa
  by_cases hb0 : str b = []
  · have HW := Lib.hid (show within (str a) (str b) = true by unfold within; rw [HPA.out, hb0]; rfl)
    have g := hE.2 hb0; have g' : b.toList.isEmpty = true := by simp [g]
    clear hE hb0
    go_enter Tryz.func88, Tryz.ntmps88
    go_wp2_with fail
    refine (path_v a _ hT true HPA.out).mono ?_
    rintro e w1 ⟨rfl, ho⟩
    go_wp2_with fail
    go_ret
    exact ⟨by rw [HW.out]; rfl, ho⟩
  have g : ¬ b.toList = [] := fun e => hb0 (hE.1 e)
  have g' : b.toList.isEmpty = false := by simpa using g
  cases hpb : okPath (str b)
  · have HW := Lib.hid (show within (str a) (str b) = false by unfold within; rw [HPA.out, hpb, decide_eq_false hb0]; rfl)
    have HP := Lib.hid hpb; clear hpb hE hb0
    go_enter Tryz.func88, Tryz.ntmps88
    go_wp2_with fail
    refine (path_v a _ hT true HPA.out).mono ?_
    rintro e w1 ⟨rfl, ho⟩
    go_wp2_with fail
    refine (path_v b _ (hT.off ho) false HP.out).mono ?_
    rintro e w2 ⟨rfl, ho2⟩
    go_wp2_with fail
    go_ret
    exact ⟨by rw [HW.out]; rfl, ho.trans_nil ho2⟩
  have HPB := Lib.hid hpb; clear hpb hE hb0
  by_cases hab : a = b
  · have HW := Lib.hid (show within (str a) (str b) = true by rw [hab]; exact within_self HPB.out)
    have hl : (a.toList == b.toList) = true := by rw [hab]; exact beq_self_eq_true _
    clear hab
    go_enter Tryz.func88, Tryz.ntmps88
    go_wp2_with fail
    refine (path_v a _ hT true HPA.out).mono ?_
    rintro e w1 ⟨rfl, ho⟩
    go_wp2_with fail
    refine (path_v b _ (hT.off ho) true HPB.out).mono ?_
    rintro e w2 ⟨rfl, ho2⟩
    go_wp2_with fail
    go_ret
    exact ⟨by rw [HW.out]; rfl, ho.trans_nil ho2⟩
  have HW := Lib.hid (hasPre_eq HPA.out HPB.out hab); have hl : (a.toList == b.toList) = false := beq_eq_false_iff_ne.2 (fun e => hab (toList_iff.1 e))
  have hsz : b.size ≤ 400 := by rw [← str_size]; exact okPath_size HPB.out
  have a1 : ∀ wx : World, (Op.stringOp .add b ⟨#[47]⟩).run Tryz.prog wx = .ok (.string (b ++ ⟨#[47]⟩)) wx := fun wx => run_string_add_sum wx _ _ (by show b.size + 1 ≤ _; omega)
  clear hab
  go_enter Tryz.func88, Tryz.ntmps88
  go_wp2_with fail
  refine (path_v a _ hT true HPA.out).mono ?_
  rintro e w1 ⟨rfl, ho⟩
  go_wp2_with fail
  refine (path_v b _ (hT.off ho) true HPB.out).mono ?_
  rintro e w2 ⟨rfl, ho2⟩
  go_wp2_with fail
  refine (Tryz.strings_HasPrefix a (b ++ (⟨#[47]⟩ : ByteArray)) _).mono ?_
  rintro e w3 ⟨rfl, e3⟩; subst e3; rw [HW.out]
  go_wp2_with fail
  go_ret
  exact ⟨rfl, ho.trans_nil ho2⟩
theorem nwithin_v (a b : ByteArray) (w : World) (hT : Tabs w) (v : Bool) (hv : within (str a) (str b) = v) :
    Calls Tryz.prog 88 #[.string a, .string b] w fun e w' => e = .returned (.bool v) ∧ Off [] w w' := hv ▸ nwithin_any a b w hT
def SpanP (t : List Node) (s : ByteArray) (w : World) (e : Ending) (w' : World) : Prop :=
  ∃ i j, e = .returned (.tuple #[.int .i64 (i : Nat), .int .i64 (j : Nat)]) ∧ SpanAt t (str s) i j ∧ Off [] w w'
def InTo (t : List Node) (q : Str) (i j : Nat) : Prop := ∀ (k : Nat) (m : Node), i ≤ k → k < j → t[k]? = some m → within m.p q = true
theorem InTo.succ {t : List Node} {q : Str} {i j : Nat} {x : Node} (h : InTo t q i j) (hx : t[j]? = some x) (hw : within x.p q = true) : InTo t q i (j + 1) := fun k m h1 h2 hm => by
  rcases Nat.lt_or_ge k j with h3 | h3
  · exact h k m h1 h3 hm
  obtain rfl : k = j := by omega
  rw [hx] at hm; cases hm; exact hw
set_option maxRecDepth 100000 in
set_option maxHeartbeats 4000000 in
theorem span_any (p : Option Addr) (t : List Node) (n cap : Nat) (s : ByteArray) (w : World) (hR : Row w p t) (hn : t.length = n) (hbig : n ≤ 1099511627776) (hs : Sorted t) (hF : Fits t) (hsz : s.size ≤ maxLen) (hT : Tabs w) :
    Calls Tryz.prog 370 #[.slice p n cap, .string s] w (SpanP t s w) := by
  have HN := Lib.hid hn; have HR := Lib.hid hR; have HF := Lib.hid hF; clear hn hR hF
  go_enter Tryz.func370, Tryz.ntmps370
  go_wp2_with fail
  refine (place_any p t n cap s w HR.out HN.out (by omega) hs HF.out hsz).mono ?_
  rintro e w1 ⟨i, f, rfl, hP, ho⟩; have hil : i ≤ n := by rw [← HN.out]; exact hP.le
  have HP := Lib.hid hP; clear hP
  go_wp2_with fail
  go_loopw [8] (fun x wr => ∃ j : Nat, x = .int .i64 j ∧ i ≤ j ∧ j ≤ n ∧ Off [] w wr ∧ Hid (InTo t (str s) i j)) (fun x _ => n - (intOf x).toNat)
  case atStart => exact ⟨i, rfl, by omega, hil, ho, Lib.hid (fun k m h1 h2 _ => by omega)⟩
  case round =>
    clear ho; obtain ⟨j, rfl, hij, hjn, ho, hin⟩ := hrel
    by_cases hlt : j < n
    · have hjl : j < t.length := by rw [HN.out]; exact hlt
      obtain ⟨a, rfl, hna, hab⟩ := (HR.out.off ho).get j hjl; have hxj := List.getElem?_eq_getElem hjl; generalize t[j] = x at *; have HX := Lib.hid hxj; have c0 := hna.path; clear hna hxj
      cases hw : within (str x.path) (str s)
      · have HW := Lib.hid hw
        clear hw
        go_wp2_with fail
        refine (nwithin_v x.path s _ (hT.off ho) false HW.out).mono ?_
        rintro e w2 ⟨rfl, ho2⟩
        go_wp2_with fail
        go_ret2
        refine ⟨i, j, rfl, ⟨hij, by rw [HN.out]; exact hjn, HP.out.lo, HP.out.hi, hin.out, fun m hm => ?_⟩, ho.trans_nil ho2⟩
        rw [HX.out] at hm
        cases hm
        exact HW.out
      have HW := Lib.hid hw; clear hw
      go_wp2_with fail
      refine (nwithin_v x.path s _ (hT.off ho) true HW.out).mono ?_
      rintro e w2 ⟨rfl, ho2⟩
      go_wp2_with fail
      refine ⟨⟨j + 1, by congr 1, by omega, by omega, ho.trans_nil ho2, Lib.hid (hin.out.succ HX.out HW.out)⟩, by simp only [intOf]; omega⟩
    obtain rfl : j = n := by omega
    go_wp2_with fail
    go_ret2
    refine ⟨i, j, rfl, ⟨hij, by rw [HN.out]; exact Nat.le_refl _, HP.out.lo, HP.out.hi, hin.out, fun m hm => ?_⟩, ho⟩
    have := (List.getElem?_eq_some_iff.1 hm).1; rw [HN.out] at this; omega
end
section
open Go.RowKit Go.Op
theorem okVal_bad_len {v : List Node} (h : 1000 < v.length) : okVal v = false := by
  cases v with
  | nil => simp at h
  | cons x r => unfold okVal; rw [decide_eq_false (by omega)]; rfl
theorem okVal_eq {x : Node} {r : List Node} (hl : (x :: r).length ≤ 1000) : okVal (x :: r) = (decide (x.p = []) && (rightN x && (decide (r = []) || decide (x.kind = 2) && okTree r))) := by
  unfold okVal; rw [decide_eq_true hl]; exact Bool.true_and _
set_option maxRecDepth 100000 in
set_option maxHeartbeats 4000000 in
theorem tright_any (p : Option Addr) (v : List Node) (n cap : Nat) (w : World) (hR : Row w p v) (hn : v.length = n) (hcap : n ≤ cap) (hcm : cap ≤ maxLen) (hF : Fits v) (hT : Tabs w) :
    Calls Tryz.prog 113 #[.slice p n cap] w fun e w' => e = .returned (.bool (okVal v)) ∧ Off [] w w' := by
  cases v with
  | nil =>
    obtain rfl : 0 = n := hn
    clear hR hF
    go_enter Tryz.func113, Tryz.ntmps113
    go_wp2_with fail
    go_ret
    exact ⟨rfl, Off.refl _ _⟩
  | cons x r =>
    have hpos : 0 < n := by rw [← hn]; simp
    have hn0 : ¬ n = 0 := by omega
    have hn0b : ((n : Int) == 0) = false := beq_eq_false_iff_ne.2 (by omega)
    by_cases hbig : 1000 < n
    · have HV := Lib.hid (okVal_bad_len (v := x :: r) (by omega))
      clear hR hF hn
      go_enter Tryz.func113, Tryz.ntmps113
      go_wp2_with fail
      go_ret
      exact ⟨by rw [HV.out]; rfl, Off.refl _ _⟩
    have HV := Lib.hid (okVal_eq (x := x) (r := r) (by omega)); obtain ⟨a, rfl, hna, hab⟩ := hR.head; have HR := Lib.hid hR.tail; have HF := Lib.hid hF.tail; have c0 := hna.path; have c1 := hna.kind; have c2 := hna.data; have c3 := hna.mode; have hrn : r.length + 1 = n := by rw [← hn]; rfl
    have HN := Lib.hid hrn; clear hR hF hna hn hrn; have hE : x.path.toList = [] ↔ x.p = [] := by rw [toList_str]; rfl
    by_cases hp0 : x.p = []
    · have g := hE.2 hp0
      have g' : x.path.toList.isEmpty = true := by simp [g]
      have HP0 := Lib.hid hp0; clear hE hp0
      cases hr : rightN x
      · have HRT := Lib.hid hr
        clear hr
        go_enter Tryz.func113, Tryz.ntmps113
        go_wp2_with fail
        refine (right_v x _ false HRT.out).mono ?_
        rintro e w1 ⟨rfl, ho⟩
        go_wp2_with fail
        go_ret
        exact ⟨by rw [HV.out, HRT.out]; simp, ho⟩
      have HRT := Lib.hid hr; clear hr
      by_cases h1 : n = 1
      · have HR0 := Lib.hid (show r = [] from List.length_eq_zero_iff.1 (by have := HN.out; omega))
        go_enter Tryz.func113, Tryz.ntmps113
        go_wp2_with fail
        refine (right_v x _ true HRT.out).mono ?_
        rintro e w1 ⟨rfl, ho⟩; have d0 := (ho.cell (p := a) hab (by simp)).trans c0
        go_wp2_with fail
        go_ret
        exact ⟨by rw [HV.out, HRT.out, HP0.out, HR0.out]; simp, ho⟩
      have HR0 := Lib.hid (show ¬ r = [] from fun e => h1 (by rw [← HN.out, e]; rfl)); have hc1 : ¬ cap = 1 := by omega
      have h1i : ¬ (n : Int) = 1 := by omega
      have h1b : ((n : Int) == 1) = false := beq_eq_false_iff_ne.2 h1i
      by_cases hk2 : x.kind = 2
      · have HK := Lib.hid hk2
        clear hk2
        cases hok : okTree r
        · have HOK := Lib.hid hok
          clear hok
          go_enter Tryz.func113, Tryz.ntmps113
          go_wp2_with fail
          refine (right_v x _ true HRT.out).mono ?_
          rintro e w1 ⟨rfl, ho⟩; have d1 := (ho.cell (p := ⟨a.block, a.off + 1, none⟩) hab (by simp)).trans c1; rw [HK.out] at d1; clear c0 c1 c2 c3
          go_wp2_with fail
          refine (check_v (some (a.add 4)) r (n - 1) (cap - 1) _ (HR.out.off ho) (by have := HN.out; omega) (by omega) (by omega) HF.out (hT.off ho) 60 (chkV_bad HOK.out)).mono ?_
          rintro e w2 ⟨rfl, ho2⟩
          go_wp2_with fail
          go_ret
          exact ⟨by rw [HV.out, HRT.out, HOK.out, decide_eq_false HR0.out]; simp, ho.trans_nil ho2⟩
        have HOK := Lib.hid hok; clear hok
        go_enter Tryz.func113, Tryz.ntmps113
        go_wp2_with fail
        refine (right_v x _ true HRT.out).mono ?_
        rintro e w1 ⟨rfl, ho⟩; have d1 := (ho.cell (p := ⟨a.block, a.off + 1, none⟩) hab (by simp)).trans c1; rw [HK.out] at d1; clear c0 c1 c2 c3
        go_wp2_with fail
        refine (check_v (some (a.add 4)) r (n - 1) (cap - 1) _ (HR.out.off ho) (by have := HN.out; omega) (by omega) (by omega) HF.out (hT.off ho) 0 (chkV_ok HOK.out)).mono ?_
        rintro e w2 ⟨rfl, ho2⟩
        go_wp2_with fail
        go_ret
        exact ⟨by rw [HV.out, HRT.out, HOK.out, HP0.out, HK.out]; simp, ho.trans_nil ho2⟩
      have hkb : (x.kind == 2) = false := beq_eq_false_iff_ne.2 hk2
      go_enter Tryz.func113, Tryz.ntmps113
      go_wp2_with fail
      refine (right_v x _ true HRT.out).mono ?_
      rintro e w1 ⟨rfl, ho⟩; have d1 := (ho.cell (p := ⟨a.block, a.off + 1, none⟩) hab (by simp)).trans c1; clear c0 c1 c2 c3
      go_wp2_with fail
      go_ret
      exact ⟨by rw [HV.out, decide_eq_false hk2, decide_eq_false HR0.out]; simp, ho⟩
    have g : ¬ x.path.toList = [] := fun e => hp0 (hE.1 e)
    have g' : x.path.toList.isEmpty = false := by simpa using g
    go_enter Tryz.func113, Tryz.ntmps113
    go_wp2_with fail
    go_ret
    exact ⟨by rw [HV.out, decide_eq_false hp0]; rfl, Off.refl _ _⟩
end
section
open Go.RowKit Go.Op
set_option maxRecDepth 100000 in
theorem grow0T_any (n : Nat) (w : World) (hn : n ≤ 1000000) :
    Calls Tryz.prog 398 #[.slice none 0 0, .int .i64 n] w fun e w' => ∃ v, e = .returned v ∧ w'.ownsRow w.heap.size 105 4 v 0 [] ∧ Off [] w w' := by
  obtain ⟨i0, hi0, hz0, hz1, hz2⟩ := info_parts infoNode
  by_cases h0 : n = 0
  · subst h0
    go_enter Tryz.func398, Tryz.ntmps398
    go_wp2_with fail
    go_ret
    exact ⟨_, rfl, ⟨rfl, .inl ⟨rfl, rfl⟩⟩, Off.refl _ _⟩
  have hp : 0 < n := by omega
  have hrz := fun ty => Lib.run_append_nil_zeros (P := Tryz.prog) w 213 3 ty 105 i0 _ .i64 .i64 Tryz.underlying213 Tryz.underlying3 hi0 hz0 n hp (by omega) (by omega) (by rw [hz2]; omega)
  obtain ⟨G, hG⟩ : ∃ G, grownCap w n 0 105 = G := ⟨_, rfl⟩
  have hGn : n ≤ G := by rw [← hG]; exact grownCap_ge w _ _ _
  have hG63 : G ≤ maxLen := by rw [← hG]; exact grownCap_le_maxLen w n 0 105 (by unfold maxLen; omega)
  rw [hG] at hrz; obtain ⟨Z, hZ⟩ : ∃ Z, Builtin.zeroCells node0.val.cells n ++ Builtin.zeroCells node0.val.cells (G - n) = Z := ⟨_, rfl⟩
  have hZs : Z.size = G * 4 := by
    have h4 : node0.val.cells.size = 4 := rfl
    rw [← hZ, Array.size_append, size_zeroCells, size_zeroCells, h4]; omega
  rw [hZ] at hrz; have HZ := Lib.hid hZs; clear hG hZ hZs
  go_enter Tryz.func398, Tryz.ntmps398
  go_wp2_with (at_builtin; refine Lib.wpList_append_run _ rfl _ _ _ _ rfl _ _ rfl rfl _ _ (hrz _) ?_)
  go_ret
  exact ⟨_, rfl, ⟨rfl, .inr ⟨w.heap.size, G, Z, rfl, Nat.le_refl _, heap_alloc_new w _, Nat.zero_le _, hG63, HZ.out, rfl⟩⟩, ((Off.refl _ _).alloc _).drew⟩
set_option maxRecDepth 100000 in
set_option maxHeartbeats 4000000 in
theorem concatT_any (g cap : Nat) (L : List Pt) (w : World) (hL : PtsAt w g L) (hk : L.length ≤ 1000000) (hn : (nodesIn L).length ≤ 1000000) :
    Calls Tryz.prog 371 #[.slice (some ⟨g, 0, none⟩) L.length cap] w fun e w' => ∃ v, e = .returned v ∧ w'.ownsRow w.heap.size 105 4 v (nodesIn L).length (cellsOf (nodesIn L)) ∧ Off [] w w' := by
  obtain ⟨i0, hi0, hz0, hz1, hz2⟩ := info_parts infoNode; have HL := Lib.hid hL; have HNL := Lib.hid (nodesIn_le L); clear hL; obtain ⟨k, hkk⟩ : ∃ k, L.length = k := ⟨_, rfl⟩
  have HK := Lib.hid hkk; rw [hkk] at hk ⊢; clear hkk
  go_enter Tryz.func371, Tryz.ntmps371
  go_wp2_with fail
  go_loopw [11, 3] (fun x y wr => ∃ i : Nat, x = .int .i64 i ∧ i ≤ k ∧ y = .int .i64 (nodesIn (L.take i)).length ∧ Off [] w wr) (fun x _ _ => k - (intOf x).toNat)
  case atStart => exact ⟨0, rfl, by omega, by simp [nodesIn], Off.refl _ _⟩
  case round =>
    obtain ⟨i, rfl, hi, rfl, hof⟩ := hrel; have hle := HNL.out i; have hle2 := HNL.out (i + 1)
    by_cases hik : i < k
    · have hil : i < L.length := by rw [HK.out]; exact hik
      have hx := List.getElem?_eq_getElem hil; generalize L[i] = x at *; obtain ⟨p, t, c⟩ := x; obtain ⟨h1, h2, h3⟩ := (HL.out.off hof).at_ i _ hx; have hlt := (HL.out.off hof).lt; have hst := nodesIn_take hx; have hsl : (nodesIn (L.take (i + 1))).length = (nodesIn (L.take i)).length + t.length := by rw [hst, List.length_append]
      have HX := Lib.hid hx; obtain ⟨tl, htl⟩ : ∃ tl, t.length = tl := ⟨_, rfl⟩
      obtain ⟨sl, hsl'⟩ : ∃ sl, (nodesIn (L.take i)).length = sl := ⟨_, rfl⟩
      dsimp only at h1
      rw [htl] at h1 hsl; rw [hsl'] at hsl hle ⊢; have HSL := Lib.hid hsl; clear h2 h3 hst hx htl hsl' hsl; have hb : sl + tl ≤ 1000000 := by have := HSL.out; omega
      have hneg : ¬ ((sl : Int) + (tl : Int) < 0) := by omega
      go_wp2_with fail
      refine ⟨⟨i + 1, by congr 1, by omega, ?_, hof⟩, by simp only [intOf]; omega⟩
      rw [HSL.out]; congr 1
    obtain rfl : i = k := by omega
    have e0 : nodesIn (L.take i) = nodesIn L := by rw [List.take_of_length_le (by rw [HK.out]; exact Nat.le_refl _)]
    rw [e0]; clear e0 hle hle2; obtain ⟨sl, hsl'⟩ : ∃ sl, (nodesIn L).length = sl := ⟨_, rfl⟩
    rw [hsl'] at hn ⊢; have HSL := Lib.hid hsl'; clear hsl'
    go_wp2_with fail
    refine (grow0T_any sl _ hn).mono ?_
    rintro e w1 ⟨v, rfl, hown, ho⟩; have hown := own_base hown hof.size; have ho := hof.trans_nil ho; clear hof hi hik
    go_wp2_with fail
    go_loopw [27, 6] (fun x v w2 => ∃ j : Nat, x = .int .i64 j ∧ j ≤ i ∧ w2.ownsRow w.heap.size 105 4 v (nodesIn (L.take j)).length (cellsOf (nodesIn (L.take j))) ∧ Off [] w w2) (fun x _ _ => i - (intOf x).toNat)
    case atStart => exact ⟨0, rfl, by omega, by simpa [nodesIn, cellsOf] using hown, ho⟩
    case round =>
      clear hown ho; obtain ⟨j, rfl, hj, hown, ho⟩ := hrel; have hle := HNL.out j; have hle2 := HNL.out (j + 1)
      by_cases hji : j < i
      · have hil : j < L.length := by rw [HK.out]; exact hji
        have hx := List.getElem?_eq_getElem hil; generalize L[j] = x at *; obtain ⟨p, t, c⟩ := x; obtain ⟨h1, h2, h3⟩ := (HL.out.off ho).at_ j _ hx; have hlt := (HL.out.off ho).lt; have hst := nodesIn_take hx; dsimp only at h1 h2 h3 hst
        cases p with
        | none =>
          obtain ⟨rfl, rfl⟩ := h3 rfl; rw [List.append_nil] at hst; have HST := Lib.hid hst; clear h2 h3 hst hx hle hle2; have h1 : wr.cell? ⟨g, j, none⟩ = some (.slice none 0 0) := h1
          go_wp2_with (at_builtin; refine wpList_append_own_none rfl _ _ 213 rfl w.heap.size 105 i0 4 Tryz.underlying213 hi0 _ _ _ rfl hown rfl ?_)
          refine ⟨⟨j + 1, by congr 1, by omega, ?_, ho⟩, by simp only [intOf]; omega⟩
          rw [HST.out]; exact hown
        | some a =>
          have HC := Lib.hid (fun (j : Nat) (u : Value) (hj : (cellsOf t)[j]? = some u) => h2.cells hj); have HO := Lib.hid (cellsOf_one (t := t)); have HCL := Lib.hid (cellsOf_len t); have hsl : (nodesIn (L.take (j + 1))).length = (nodesIn (L.take j)).length + t.length := by rw [hst, List.length_append]
          have hb : (nodesIn (L.take j)).length + t.length ≤ 1000000 := by have := HSL.out; omega
          have HST := Lib.hid hst; have hsz := ho.size; clear h2 h3 hst hx hle hle2 hsl
          go_wp2_with (at_builtin; refine wpList_append_own _ rfl _ _ 213 rfl w.heap.size 105 i0 node0.val 4 48 Tryz.underlying213 hi0 hz0 hz1 hz2 rfl (by decide) _ _ _ rfl hown a t.length c (cellsOf t) rfl HCL.out HC.out HO.out (by unfold maxLen; omega) (by omega) hsz ?_; intro v' W6 hown' hgrow _)
          refine ⟨⟨j + 1, by congr 1, by omega, ?_, ?_⟩, by simp only [intOf]; omega⟩
          · rw [HST.out, cellsOf_append, List.length_append]; exact hown'
          exact own_grown ho hown hgrow
      obtain rfl : j = i := by omega
      have e0 : nodesIn (L.take j) = nodesIn L := by rw [List.take_of_length_le (by rw [HK.out]; exact Nat.le_refl _)]
      rw [e0] at hown; clear e0 hle hle2
      go_wp2_with fail
      go_ret
      exact ⟨_, rfl, hown, ho⟩
set_option maxRecDepth 100000 in
set_option maxHeartbeats 4000000 in
theorem clone_any (p : Option Addr) (t : List Node) (n cap : Nat) (w : World) (hR : Row w p t) (hn : t.length = n) (hbig : n ≤ 2932031007402) (hpn : p = none → t = []) :
    Calls Tryz.prog 66 #[.slice p n cap] w fun e w' => ∃ v, e = .returned v ∧ w'.ownsRow w.heap.size 105 4 v n (cellsOf t) ∧ Off [] w w' := by
  obtain ⟨i0, hi0, hz0, hz1, hz2⟩ := info_parts infoNode; have q22 : ∀ (w : World) (a : Option Addr) (n c n' c' : Nat), (binOp .eql 22 (.slice a n c) (.slice none n' c')).run Tryz.prog w = .ok (.bool a.isNone) w := fun w a n c n' c' => Lib.run_eql_slice_nil w _ _ a n c n' c' Tryz.underlying22
  cases p with
  | none =>
    obtain rfl := hpn rfl; obtain rfl : 0 = n := hn
    clear hR hpn
    go_enter Tryz.func66, Tryz.ntmps66
    go_wp2_with fail
    go_ret
    exact ⟨_, rfl, ⟨rfl, .inl ⟨rfl, rfl⟩⟩, Off.refl _ _⟩
  | some a =>
    have HC := Lib.hid (fun (j : Nat) (u : Value) (hj : (cellsOf t)[j]? = some u) => hR.cells hj); have HO := Lib.hid (cellsOf_one (t := t)); have HCL := Lib.hid (show (cellsOf t).length = n * 4 by rw [cellsOf_len, hn]); clear hR hpn hn
    go_enter Tryz.func66, Tryz.ntmps66
    go_wp2_with (at_builtin; refine wpList_append_own _ rfl _ _ 22 rfl w.heap.size 105 i0 node0.val 4 48 Tryz.underlying22 hi0 hz0 hz1 hz2 rfl (by decide) _ _ _ rfl (World.ownsRow_made w #[] 0 (Nat.le_refl _) (Nat.zero_le _) rfl) a n cap (cellsOf t) rfl HCL.out ?qc2 HO.out ?qc4 ?qc5 ?qc6 ?_)
    case qc2 =>
      intro j u hj
      exact Lib.cell?_alloc_some _ (HC.out j u hj)
    case qc4 => unfold maxLen; omega
    case qc5 => omega
    case qc6 => simp
    intro v' w1 hown hgrow hnil
    go_wp2_with fail
    go_ret
    refine ⟨v', rfl, by simpa using hown, ?_⟩
    exact ((Off.refl _ w).alloc _).grown hgrow (by intro k hk; simp [Value.ownBlock] at hk; omega)
end
section
open Go.RowKit Go.Op
theorem own_set {W : World} {base e g m cap : Nat} {xs : List Value} (h : W.ownsRow base e 4 (.slice (some ⟨g, 0, none⟩) m cap) m xs) (_ : 0 < m) (j : Nat) (u : Value) : (W.setCell ⟨g, j, none⟩ u).ownsRow base e 4 (.slice (some ⟨g, 0, none⟩) m cap) m (xs.set j u) := by
  refine ⟨by rw [List.length_set]; exact h.1, ?_⟩
  rcases h.2 with ⟨h0, _⟩ | ⟨g', cap', cur, hv, hb, hh, hc, hmx, hs, ht⟩
  · cases h0
  injection hv with h1 h2 h3
  injection h1 with h1
  injection h1 with h1 _
  subst h1; subst h3; refine .inr ⟨g, cap, cur.setIfInBounds j u, rfl, hb, ?_, hc, hmx, by rw [Array.size_setIfInBounds]; exact hs, ?_⟩
  · have := Blk.set_ (w := W) (g := g) (t := e) (cs := cur) hh j u
    exact this
  rw [Array.toList_setIfInBounds, List.take_set, ht]
theorem own_cell {W : World} {base e g m cap : Nat} {xs : List Value} (h : W.ownsRow base e 4 (.slice (some ⟨g, 0, none⟩) m cap) m xs) {j : Nat} {u : Value} (hj : xs[j]? = some u) : W.cell? ⟨g, j, none⟩ = some u := by
  have := h.cells (g := g) rfl j u hj
  rwa [addr_add] at this
theorem own_frozen {W : World} {base e g m cap : Nat} {xs : List Value} (h : W.ownsRow base e 4 (.slice (some ⟨g, 0, none⟩) m cap) m xs) (j : Nat) : W.frozen? ⟨g, j, none⟩ = false := by
  rcases h.2 with ⟨h0, _⟩ | ⟨g', cap', cur, hv, hb, hh, _⟩
  · cases h0
  injection hv with h1 h2 h3
  injection h1 with h1
  injection h1 with h1 _
  subst h1; exact Blk.frozen (w := W) (t := e) (cs := cur) hh j
theorem own_lt {W : World} {base e g m cap : Nat} {xs : List Value} (h : W.ownsRow base e 4 (.slice (some ⟨g, 0, none⟩) m cap) m xs) : base ≤ g ∧ g < W.heap.size := h.lt g rfl
theorem own_some {W : World} {base e m : Nat} {v : Value} {xs : List Value} (h : W.ownsRow base e 4 v m xs) (hm : 0 < m) : ∃ g cap, v = .slice (some ⟨g, 0, none⟩) m cap ∧ m ≤ cap := by
  rcases h.2 with ⟨_, h0⟩ | ⟨g, cap, cur, hv, _, _, hc, _⟩
  · omega
  exact ⟨g, cap, hv, hc⟩
theorem own_keep {W W' : World} {base e n : Nat} {v : Value} {xs : List Value} (h : W.ownsRow base e 4 v n xs) (ho : Off [] W W') : W'.ownsRow base e 4 v n xs := by
  refine ⟨h.1, ?_⟩
  rcases h.2 with h | ⟨g, cap, cur, hv, hb, hh, hr⟩
  · exact .inl h
  exact .inr ⟨g, cap, cur, hv, hb, (ho.block g (Array.getElem?_eq_some_iff.1 hh).1 (by simp)).trans hh, hr⟩
theorem cellsOf_set : ∀ (L : List Node) (k : Nat) (x : Node) (s : ByteArray), L[k]? = some x → (cellsOf L).set (k * 4) (.string s) = cellsOf (L.set k { x with path := s })
  | [], k, x, s, h => by simp at h
  | y :: L, 0, x, s, h => by cases h; simp [cellsOf]
  | y :: L, k + 1, x, s, h => by
    have ih := cellsOf_set L k x s (by simpa using h); have e : ∀ (z : Node) (L : List Node), cellsOf (z :: L) = .string z.path :: .int .i64 z.kind :: .string z.data :: .int .i64 z.mode :: cellsOf L := fun z L => by simp [cellsOf]
    rw [List.set_cons_succ, e, e, ← ih, show (k + 1) * 4 = k * 4 + 1 + 1 + 1 + 1 by omega]; simp only [List.set_cons_succ]
theorem cellsOf_at : ∀ (L : List Node) (k : Nat) (x : Node), L[k]? = some x → (cellsOf L)[k * 4]? = some (.string x.path)
  | [], k, x, h => by simp at h
  | y :: L, 0, x, h => by cases h; simp [cellsOf]
  | y :: L, k + 1, x, h => by
    have ih := cellsOf_at L k x (by simpa using h); have e : cellsOf (y :: L) = .string y.path :: .int .i64 y.kind :: .string y.data :: .int .i64 y.mode :: cellsOf L := by simp [cellsOf]
    rw [e, show (k + 1) * 4 = k * 4 + 1 + 1 + 1 + 1 by omega]
    simpa using ih
def movTo (path : ByteArray) (v : List Node) (k : Nat) : List Node := v.mapIdx fun i n => if i < k then { n with path := newPath path i n.path } else n
theorem movTo_zero (path : ByteArray) (v : List Node) : movTo path v 0 = v := by
  unfold movTo
  apply List.ext_getElem?
  intro i
  rw [List.getElem?_mapIdx]
  cases v[i]? <;> simp
theorem movTo_get {path : ByteArray} {v : List Node} {k i : Nat} {x : Node} (h : v[i]? = some x) : (movTo path v k)[i]? = some (if i < k then { x with path := newPath path i x.path } else x) := by
  unfold movTo; rw [List.getElem?_mapIdx, h]; rfl
theorem movTo_succ {path : ByteArray} {v : List Node} {k : Nat} {x : Node} (h : v[k]? = some x) : movTo path v (k + 1) = (movTo path v k).set k { x with path := newPath path k x.path } := by
  apply List.ext_getElem?
  intro i
  rw [List.getElem?_set]; unfold movTo; rw [List.getElem?_mapIdx, List.getElem?_mapIdx, List.length_mapIdx]; have hk := (List.getElem?_eq_some_iff.1 h).1
  by_cases hik : k = i
  · subst hik
    rw [h]; simp [hk]
  rw [if_neg hik]
  cases v[i]? with
  | none => rfl
  | some y =>
    have : (i < k + 1) = (i < k) := by apply propext; omega
    simp [this]
theorem movTo_all (path : ByteArray) (v : List Node) : movTo path v v.length = moved path v := by
  apply List.ext_getElem?
  intro i
  unfold movTo moved; rw [List.getElem?_mapIdx, List.getElem?_mapIdx]
  cases h : v[i]? with
  | none => rfl
  | some y => simp [(List.getElem?_eq_some_iff.1 h).1]
theorem okVal_small {v : List Node} (h : okVal v = true) {n : Node} (hn : n ∈ v) : n.path.size ≤ 400 := by
  cases v with
  | nil => cases hn
  | cons x r =>
    obtain ⟨_, h2, _, h4⟩ := okVal_cons h
    rcases List.mem_cons.1 hn with rfl | hn
    · rw [← str_size]; show n.p.length ≤ 400; rw [h2]; simp
    rcases h4 with rfl | ⟨_, h4⟩
    · cases hn
    exact okTree_small h4 hn
theorem pts3 {W : World} {g : Nat} {e : TypeId} {v1 v2 v3 : Value} {t1 t2 t3 : List Node} (hb : Blk W g e #[v1, v2, v3]) (h1 : Sl W v1 t1) (h2 : Sl W v2 t2) (h3 : Sl W v3 t3) : ∃ L : List Pt, L.length = 3 ∧ PtsAt W g L ∧ nodesIn L = t1 ++ (t2 ++ t3) := by
  obtain ⟨p1, c1, rfl, r1, _, _, n1⟩ := h1; obtain ⟨p2, c2, rfl, r2, _, _, n2⟩ := h2; obtain ⟨p3, c3, rfl, r3, _, _, n3⟩ := h3; refine ⟨[(p1, t1, c1), (p2, t2, c2), (p3, t3, c3)], rfl, ⟨hb.lt, fun i x hi => ?_⟩, by simp [nodesIn]⟩; have hc := hb.cell i
  match i, hi with
  | 0, hi => cases hi; exact ⟨hc, r1, n1⟩
  | 1, hi => cases hi; exact ⟨hc, r2, n2⟩
  | 2, hi => cases hi; exact ⟨hc, r3, n3⟩
  | i + 3, hi => simp at hi
theorem Row.drop {w : World} {a : Addr} {t : List Node} (h : Row w (some a) t) (j : Nat) : Row w (some (a.add (j * 4))) (t.drop j) := fun hne => by
  obtain ⟨a', ha, hb, hn⟩ := h (fun e => by subst e; simp at hne)
  cases ha
  refine ⟨_, rfl, by rw [add_block]; exact hb, fun i n hi => ?_⟩
  rw [List.getElem?_drop] at hi; have := hn (j + i) n hi; rw [Go.Deep.add_add, ← Nat.add_mul]; exact this
theorem Sl.dropV {w : World} {a : Addr} {t : List Node} {n c j : Nat} (h : Row w (some a) t) (hl : t.length = n) (hj : j ≤ n) (hc : n ≤ c) (hm : c ≤ maxLen) : Sl w (.slice (if c = j then some a else some (a.add (j * 4))) (n - j) (c - j)) (t.drop j) := by
  by_cases h1 : c = j
  · have h0 : t.drop j = [] := List.drop_eq_nil_of_le (by omega)
    rw [if_pos h1, h0]; exact ⟨some a, c - j, by congr 1; simp; omega, fun h => absurd rfl h, by simp, by omega, fun h => by cases h⟩
  rw [if_neg h1]; exact ⟨some (a.add (j * 4)), c - j, by rw [List.length_drop, hl], h.drop j, by rw [List.length_drop, hl]; omega, by omega, fun h => by cases h⟩
theorem Sl.takeV {w : World} {a : Addr} {t : List Node} {n c i : Nat} (h : Row w (some a) t) (hl : t.length = n) (hi : i ≤ n) (hc : n ≤ c) (hm : c ≤ maxLen) : Sl w (.slice (some a) i c) (t.take i) :=
  ⟨some a, c, by rw [List.length_take, hl, Nat.min_eq_left hi], h.take i, by rw [List.length_take]; omega, hm, fun h => by cases h⟩
theorem Sl.none {w : World} : Sl w (.slice none 0 0) [] := ⟨.none, 0, rfl, fun h => absurd rfl h, Nat.le_refl _, by decide, fun _ => ⟨rfl, rfl⟩⟩
theorem Sl.own {W : World} {base : Nat} {v : Value} {t : List Node} (h : W.ownsRow base 105 4 v t.length (cellsOf t)) : Sl W v t := by
  obtain ⟨p, cap, rfl, hr, hc, hn, _⟩ := own_row h; refine ⟨p, cap, rfl, hr, hc, ?_, hn⟩
  rcases h.2 with ⟨h0, _⟩ | ⟨g, cap', cur, hv, _, _, _, hm, _⟩
  · injection h0 with _ _ h3; rw [h3]; decide
  injection hv with _ _ h3; rw [h3]; exact hm
theorem concat3 {w1 : World} {v1 v2 v3 : Value} {t1 t2 t3 : List Node} (h1 : Sl w1 v1 t1) (h2 : Sl w1 v2 t2) (h3 : Sl w1 v3 t3) (hl : (t1 ++ (t2 ++ t3)).length ≤ 1000000) :
    Calls Tryz.prog 371 #[.slice (some ⟨w1.heap.size, 0, none⟩) 3 3] (w1.drew.alloc (.cells #[v1, v2, v3] 213)) fun e w' => ∃ v, e = .returned v ∧ w'.ownsRow w1.heap.size 105 4 v (t1 ++ (t2 ++ t3)).length (cellsOf (t1 ++ (t2 ++ t3))) ∧ Off [] w1 w' := by
  have ho : Off [] w1 (w1.drew.alloc (.cells #[v1, v2, v3] 213)) := ((Off.refl _ w1).drew).alloc _
  obtain ⟨L, hL, hP, hN⟩ := pts3 (Blk.new w1.drew 213 #[v1, v2, v3]) (h1.off ho) (h2.off ho) (h3.off ho); have h := concatT_any w1.heap.size 3 L _ hP (by omega) (by rw [hN]; exact hl); rw [hL, hN] at h; exact h.mono fun e w' ⟨v, he, hown, ho2⟩ => ⟨v, he, own_base hown ho.size, ho.trans_nil ho2⟩
def putC (t : List Node) (path : ByteArray) (v : List Node) : List Node × Int :=
  if (moved path v).all (fun n => okPath n.p) = true then if (putOut t path v).length ≤ 1000 then (putOut t path v, 0) else ([], 32) else ([], 11)
theorem putC_bad {t : List Node} {path : ByteArray} {v : List Node} {k : Nat} {x : Node} (h : v[k]? = some x) (hb : okPath (str (newPath path k x.path)) = false) : putC t path v = ([], 11) := by
  unfold putC; rw [if_neg]; rw [List.all_eq_true]
  intro ha
  have := ha _ (List.mem_of_getElem? (moved_get (path := path) h)); have e : ({ x with path := newPath path k x.path } : Node).p = str (newPath path k x.path) := rfl
  rw [e, hb] at this
  cases this
def AllTo (path : ByteArray) (v : List Node) (k : Nat) : Prop := ∀ (i : Nat) (x : Node), i < k → v[i]? = some x → okPath (str (newPath path i x.path)) = true
theorem AllTo.succ {path : ByteArray} {v : List Node} {k : Nat} {x : Node} (h : AllTo path v k) (hx : v[k]? = some x) (hk : okPath (str (newPath path k x.path)) = true) : AllTo path v (k + 1) := fun i y hi hy => by
  rcases Nat.lt_or_ge i k with h1 | h1
  · exact h i y h1 hy
  obtain rfl : i = k := by omega
  rw [hx] at hy; cases hy; exact hk
theorem AllTo.all {path : ByteArray} {v : List Node} (h : AllTo path v v.length) : (moved path v).all (fun n => okPath n.p) = true := by
  rw [List.all_eq_true]
  intro m hm
  obtain ⟨i, hi, rfl⟩ := List.getElem_of_mem hm; rw [moved_len] at hi; have h1 := moved_get (path := path) (List.getElem?_eq_getElem hi); have h2 := h i _ hi (List.getElem?_eq_getElem hi); have h3 : (moved path v)[i]'(by rw [moved_len]; exact hi) = { v[i] with path := newPath path i v[i].path } := by
    have := List.getElem?_eq_getElem (l := moved path v) (i := i) (by rw [moved_len]; exact hi); rw [h1] at this; exact (Option.some.inj this).symm
  rw [h3]; exact h2
theorem putC_len {t : List Node} {path : ByteArray} {v : List Node} (h : AllTo path v v.length) : putC t path v = if (putOut t path v).length ≤ 1000 then (putOut t path v, 0) else ([], 32) := by unfold putC; rw [if_pos h.all]
def PutP (r : List Node × Int) (w : World) (e : Ending) (w' : World) : Prop :=
  ∃ x, e = .returned (.tuple #[x, .int .i64 r.2]) ∧ w'.ownsRow w.heap.size 105 4 x r.1.length (cellsOf r.1) ∧ Off [] w w'
theorem PutP.bad {c : Int} {w : World} {w' : World} (ho : Off [] w w') : PutP ([], c) w (.returned (.tuple #[.slice none 0 0, .int .i64 c])) w' := ⟨_, rfl, ⟨rfl, .inl ⟨rfl, rfl⟩⟩, ho⟩
set_option maxRecDepth 100000 in
set_option maxHeartbeats 8000000 in
theorem cput_any (p q : Option Addr) (t v : List Node) (n m c d : Nat) (path : ByteArray) (w : World) (hR : Row w p t) (hV : Row w q v) (hn : t.length = n) (hm : v.length = m) (hc : n ≤ c) (hcm : c ≤ maxLen) (hpn : p = none → t = [] ∧ c = 0) (hqn : q = none → v = []) (hln : n ≤ 1000) (hlm : m ≤ 1000)
    (hok : okTree t = true) (hp : okPath (str path) = true) (hFV : ∀ x ∈ v, x.path.size ≤ 400) (hT : Tabs w) :
    Calls Tryz.prog 319 #[.agg #[.slice p n c, .string path], .slice q m d] w (PutP (putC t path v) w) := by
  have hFT : Fits t := fun x hx => ⟨by have := okTree_small hok hx; unfold maxLen; omega, by
    have h1 := okTree_right hok hx; unfold rightN at h1; unfold maxLen
    split at h1
    · simp only [Bool.and_eq_true, decide_eq_true_eq] at h1; omega
    split at h1
    · simp only [Bool.and_eq_true, decide_eq_true_eq] at h1; omega
    split at h1
    · simp only [Bool.and_eq_true, decide_eq_true_eq] at h1; omega
    cases h1⟩
  have hps : path.size ≤ 400 := by rw [← str_size]; exact okPath_size hp
  have HN := Lib.hid hn; have HM := Lib.hid hm; have HR := Lib.hid hR; have HV := Lib.hid hV; have HFT := Lib.hid hFT; have HFV := Lib.hid hFV; have HPN := Lib.hid hpn; have HQN := Lib.hid hqn; have HOK := Lib.hid hok; have HP := Lib.hid hp; clear hn hm hR hV hFT hFV hpn hqn hok hp
  have HROW0 := Lib.hid (fun (W : World) (ho : Off [] w W) => span_any p t n c path W (HR.out.off ho) HN.out (by omega) (okTree_sorted HOK.out) HFT.out (by unfold maxLen; omega) (hT.off ho))
  go_enter Tryz.func319, Tryz.ntmps319
  go_wp2_with fail
  refine (HROW0.out _ ((Off.refl _ _).alloc _)).mono ?_
  rintro e w1 ⟨i, j, rfl, hsp, ho1⟩; have hB1 : Blk w1 w.heap.size 380 #[.slice p n c, .string path] := (Blk.new w _ _).off ho1 (by simp)
  have hof1 : Off [] w w1 := ((Off.refl _ _).alloc _).trans_nil ho1
  have hij := hsp.ij; have hjn : j ≤ n := by rw [← HN.out]; exact hsp.le
  have HSP := Lib.hid hsp; have HB1 := Lib.hid hB1; clear ho1 hsp hB1
  go_wp2_with fail
  refine (clone_any q v m d _ (HV.out.off hof1) HM.out (by omega) HQN.out).mono ?_
  rintro e w2 ⟨own, rfl, hown, ho2⟩; have hown := own_base hown hof1.size; have hB2 := HB1.out.off ho2 (by simp); have hof2 := hof1.trans_nil ho2; obtain ⟨po, co, rfl⟩ : ∃ po co, own = .slice po m co := by
    rcases hown.2 with ⟨h1, h2⟩ | ⟨g, cap, cur, h1, _⟩
    · exact ⟨none, 0, by rw [h1, h2]⟩
    exact ⟨_, _, h1⟩
  clear ho2 hof1 HB1
  go_wp2_with fail
  go_loopw [23] (fun x wr => ∃ k : Nat, x = .int .i64 k ∧ k ≤ m ∧ wr.ownsRow w.heap.size 105 4 (.slice po m co) m (cellsOf (movTo path v k)) ∧ Off [] w wr ∧ Blk wr w.heap.size 380 #[.slice p n c, .string path] ∧ Hid (AllTo path v k)) (fun x _ => m - (intOf x).toNat)
  case atStart => exact ⟨0, rfl, by omega, by rw [movTo_zero]; exact hown, hof2, hB2, Lib.hid (fun i x hi _ => by omega)⟩
  case round =>
    clear hown hof2 hB2; obtain ⟨k, rfl, hk, hown, hof, hB, hall⟩ := hrel
    by_cases hkm : k < m
    · obtain ⟨g, cg, hgv, hcg⟩ := own_some hown (by omega)
      cases hgv
      have hkl : k < v.length := by rw [HM.out]; exact hkm
      obtain ⟨b, rfl, hnb, hbb⟩ := HV.out.get k hkl; have hxk := List.getElem?_eq_getElem hkl; have hysz := HFV.out _ (List.getElem_mem hkl); generalize v[k] = y at *; have HXK := Lib.hid hxk; have hmk := movTo_get (path := path) (k := k) hxk; rw [if_neg (by omega)] at hmk; have HMK := Lib.hid hmk
      have HNB := Lib.hid (fun (W : World) (ho : Off [] w W) => hnb.off ho (by rw [add_block]; exact hbb)); have HOWN := Lib.hid hown; have c0 := own_cell hown (cellsOf_at _ _ _ hmk); have f0 := own_frozen hown (k * 4); have hg0 := own_lt hown; have hgne : ¬ g = w.heap.size := fun e => by
        rcases hown.2 with ⟨h0, _⟩ | ⟨g', cap', cur, hv, hb, hh, _⟩
        · cases h0
        injection hv with h1 h2 h3
        injection h1 with h1
        injection h1 with h1 _
        subst h1; rw [e] at hh; exact (Blk.ne_ (w := wr) (g := w.heap.size) (g' := w.heap.size) hh hB (by decide)) rfl
      have hgne' : ¬ w.heap.size = g := fun e => hgne e.symm
      have hcB := hB.cell; have hlB := hB.lt; have HBB := Lib.hid hB; clear hown hB hnb hxk hmk; have HNX := Lib.hid (show ∀ s, s = newPath path k y.path → (cellsOf (movTo path v k)).set (k * 4) (.string s) = cellsOf (movTo path v (k + 1)) from fun s hs => by
        rw [cellsOf_set _ _ _ _ HMK.out, movTo_succ HXK.out, hs])
      by_cases hk0 : k = 0
      · subst hk0
        have HS0 := Lib.hid (own_set HOWN.out (by omega) (0 * 4) (.string path)); have HO0 := Lib.hid (hof.setCell (p := ⟨g, 0 * 4, none⟩) (.inl hg0.1) (.string path)); have HB0 := Lib.hid (HBB.out.far (p := ⟨g, 0 * 4, none⟩) hgne' (.string path))
        go_wp2_with fail
        refine (path_v path _ (hT.off HO0.out) true HP.out).mono ?_
        rintro e w5 ⟨rfl, ho5⟩; have hown5 := own_keep HS0.out ho5; have hB5 := HB0.out.off ho5 (by simp); have hof5 := HO0.out.trans_nil ho5; clear ho5 hof hcB hlB
        go_wp2_with fail
        refine ⟨⟨0 + 1, rfl, by omega, ?_, hof5, hB5, Lib.hid (hall.out.succ HXK.out HP.out)⟩, by simp only [intOf]; omega⟩
        rw [HNX.out path rfl] at hown5; exact hown5
      have hkp : 0 < k := by omega
      have hkm4 : k * 4 < m * 4 := by omega
      have HS0 := Lib.hid (own_set HOWN.out (by omega) (k * 4) (.string path)); have HO0 := Lib.hid (hof.setCell (p := ⟨g, k * 4, none⟩) (.inl hg0.1) (.string path)); have HB0 := Lib.hid (HBB.out.far (p := ⟨g, k * 4, none⟩) hgne' (.string path)); have HLEN := Lib.hid HOWN.out.1
      have hnp : newPath path k y.path = path ++ ((⟨#[47]⟩ : ByteArray) ++ y.path) := by unfold newPath; rw [if_neg hk0, ByteArray.append_assoc]
      have HNP := Lib.hid hnp; clear hnp
      go_wp2_with fail
      refine code_gen (fun W => Off [] w W ∧ W.ownsRow w.heap.size 105 4 (.slice (some ⟨g, 0, none⟩) m co) m ((cellsOf (movTo path v k)).set (k * 4) (.string path)) ∧ Blk W w.heap.size 380 #[.slice p n c, .string path]) ⟨HO0.out, HS0.out, HB0.out⟩ ?_
      rintro W ⟨hoW, hownW, hBW⟩; clear hof hcB hlB c0 f0; have c1 := own_cell hownW (j := k * 4) (u := .string path) (by rw [List.getElem?_set_self (by rw [HLEN.out]; exact hkm4)]); have f1 := own_frozen hownW (k * 4); have cv := (HNB.out W hoW).path
      have a1 : ∀ wx : World, (Op.stringOp .add ⟨#[47]⟩ y.path).run Tryz.prog wx = .ok (.string (⟨#[47]⟩ ++ y.path)) wx := fun wx => run_string_add_sum wx _ _ (by show 1 + y.path.size ≤ _; omega)
      have a2 : ∀ wx : World, (Op.stringOp .add path (⟨#[47]⟩ ++ y.path)).run Tryz.prog wx = .ok (.string (path ++ (⟨#[47]⟩ ++ y.path))) wx := fun wx => run_string_add_sum wx _ _ (by rw [ByteArray.size_append]; show path.size + (1 + y.path.size) ≤ _; omega)
      have HS1 := Lib.hid (own_set hownW (by omega) (k * 4) (.string (path ++ ((⟨#[47]⟩ : ByteArray) ++ y.path)))); have HO1 := Lib.hid (hoW.setCell (p := ⟨g, k * 4, none⟩) (.inl hg0.1) (.string (path ++ ((⟨#[47]⟩ : ByteArray) ++ y.path)))); have HB1 := Lib.hid (hBW.far (p := ⟨g, k * 4, none⟩) hgne' (.string (path ++ ((⟨#[47]⟩ : ByteArray) ++ y.path)))); clear hownW hBW hoW
      go_region
      cases hpk : okPath (str (newPath path k y.path))
      · have HPB := Lib.hid (putC_bad (t := t) HXK.out hpk)
        have HPK := Lib.hid (show okPath (str (path ++ ((⟨#[47]⟩ : ByteArray) ++ y.path))) = false by rw [← HNP.out]; exact hpk); clear hpk
        go_wp2_with fail
        refine (path_v (path ++ ((⟨#[47]⟩ : ByteArray) ++ y.path)) _ (hT.off HO1.out.drew) false HPK.out).mono ?_
        rintro e w5 ⟨rfl, ho5⟩; have hof5 := HO1.out.drew.trans_nil ho5; clear ho5
        go_wp2_with fail
        go_ret2
        rw [HPB.out]; exact PutP.bad hof5
      have HPK := Lib.hid (show okPath (str (path ++ ((⟨#[47]⟩ : ByteArray) ++ y.path))) = true by rw [← HNP.out]; exact hpk); have HAL := Lib.hid (hall.out.succ HXK.out hpk); clear hpk
      go_wp2_with fail
      refine (path_v (path ++ ((⟨#[47]⟩ : ByteArray) ++ y.path)) _ (hT.off HO1.out.drew) true HPK.out).mono ?_
      rintro e w5 ⟨rfl, ho5⟩; have hown5 := own_keep (W := (W.setCell ⟨g, k * 4, none⟩ (.string (path ++ ((⟨#[47]⟩ : ByteArray) ++ y.path)))).drew) HS1.out ho5; have hB5 := HB1.out.drew.off ho5 (by simp); have hof5 := HO1.out.drew.trans_nil ho5; clear ho5 c1 f1 cv
      go_wp2_with fail
      refine ⟨⟨k + 1, by congr 1, by omega, ?_, hof5, hB5, HAL⟩, by simp only [intOf]; omega⟩
      rw [List.set_set, HNX.out _ HNP.out.symm] at hown5; exact hown5
    obtain rfl : k = m := by omega
    have hmv : movTo path v k = moved path v := by have := movTo_all path v; rw [HM.out] at this; exact this
    rw [hmv] at hown; have HPC := Lib.hid (putC_len (t := t) (path := path) (v := v) (by rw [HM.out]; exact hall.out)); have HS2 := Lib.hid (show Sl wr (.slice po k co) (moved path v) from Sl.own (base := w.heap.size) (by rw [moved_len, HM.out]; exact hown))
    have HOUT := Lib.hid (show t.take i ++ (moved path v ++ t.drop j) = putOut t path v by rw [HSP.out.lower, HSP.out.upper HOK.out HP.out]; unfold putOut; rw [List.append_assoc]); have hlen : (putOut t path v).length ≤ 1000000 := by
      rw [← HOUT.out, List.length_append, List.length_append, moved_len, List.length_take, List.length_drop, HN.out, HM.out]; omega
    clear hmv hown
    cases p with
    | none =>
      obtain ⟨ht0, rfl⟩ := HPN.out rfl; subst ht0; obtain rfl : 0 = n := HN.out
      obtain rfl : 0 = j := by omega
      obtain rfl : 0 = i := by omega
      have HOUT := Lib.hid (show ([] : List Node) ++ (moved path v ++ []) = putOut [] path v from HOUT.out); have hcB := hB.cell; have hlB := hB.lt
      go_wp2_with fail
      go_still_tail 9, (by kernel_rfl)
      change wpList _ _ _ _ _ wr.drew
      go_wp2_with fail
      refine (concat3 (w1 := wr) (t1 := []) (t2 := moved path v) (t3 := []) Sl.none HS2.out Sl.none (by rw [HOUT.out]; exact hlen)).mono ?_
      rintro e w6 ⟨x, rfl, hownx, hof6⟩; have hownx := own_base hownx hof.size; have hof6 := hof.trans_nil hof6; rw [HOUT.out] at hownx; have HOX := Lib.hid hownx; obtain ⟨px, cx, rfl, -, hcx, -, -⟩ := own_row hownx; clear hownx hcB hlB
      by_cases hbig : (putOut [] path v).length ≤ 1000
      · go_wp2_with fail
        go_ret2
        rw [HPC.out, if_pos hbig]; exact ⟨_, rfl, HOX.out, hof6⟩
      go_wp2_with fail
      go_ret2
      rw [HPC.out, if_neg hbig]; exact PutP.bad hof6
    | some a =>
      have HRA := Lib.hid (HR.out.off hof); have hcB := hB.cell; have hlB := hB.lt
      by_cases hcj : c = j
      · subst hcj
        go_wp2_with fail
        go_still_tail 9, (by kernel_rfl)
        change wpList _ _ _ _ _ wr.drew
        go_wp2_with fail
        refine (concat3 (w1 := wr) (t1 := t.take i) (t2 := moved path v) (t3 := t.drop c) (Sl.takeV HRA.out HN.out (by omega) hc hcm) HS2.out (by have := Sl.dropV HRA.out HN.out hjn hc hcm; rw [if_pos rfl, show n - c = 0 by omega, Nat.sub_self] at this; exact this) (by rw [HOUT.out]; exact hlen)).mono ?_
        rintro e w6 ⟨x, rfl, hownx, hof6⟩; have hownx := own_base hownx hof.size; have hof6 := hof.trans_nil hof6; rw [HOUT.out] at hownx; have HOX := Lib.hid hownx; obtain ⟨px, cx, rfl, -, hcx, -, -⟩ := own_row hownx; clear hownx hcB hlB
        by_cases hbig : (putOut t path v).length ≤ 1000
        · go_wp2_with fail
          go_ret2
          rw [HPC.out, if_pos hbig]; exact ⟨_, rfl, HOX.out, hof6⟩
        go_wp2_with fail
        go_ret2
        rw [HPC.out, if_neg hbig]; exact PutP.bad hof6
      have hcj' : ¬ (c : Int) = j := by omega
      have hic : i ≤ c := by omega
      have hici : (i : Int) ≤ c := by omega
      have hjni : (j : Int) ≤ n := by omega
      go_wp2_with fail
      go_still_tail 9, (by kernel_rfl)
      change wpList _ _ _ _ _ wr.drew
      go_wp2_with fail
      refine (concat3 (w1 := wr) (t1 := t.take i) (t2 := moved path v) (t3 := t.drop j) (Sl.takeV HRA.out HN.out (by omega) hc hcm) HS2.out (by have := Sl.dropV HRA.out HN.out hjn hc hcm; rw [if_neg hcj] at this; exact this) (by rw [HOUT.out]; exact hlen)).mono ?_
      rintro e w6 ⟨x, rfl, hownx, hof6⟩; have hownx := own_base hownx hof.size; have hof6 := hof.trans_nil hof6; rw [HOUT.out] at hownx; have HOX := Lib.hid hownx; obtain ⟨px, cx, rfl, -, hcx, -, -⟩ := own_row hownx; clear hownx hcB hlB
      by_cases hbig : (putOut t path v).length ≤ 1000
      · go_wp2_with fail
        go_ret2
        rw [HPC.out, if_pos hbig]; exact ⟨_, rfl, HOX.out, hof6⟩
      go_wp2_with fail
      go_ret2
      rw [HPC.out, if_neg hbig]; exact PutP.bad hof6
end
section
open Go.RowKit Go.Op
theorem put_bad1 {t : List Node} {path : ByteArray} {v : List Node} (h : (okTree t && okVal v) = false) : putR t path v = ([], 60) := by unfold putR; rw [h]; rfl
theorem put_bad2 {t : List Node} {path : ByteArray} {v : List Node} (h : (okTree t && okVal v) = true) (h2 : okPath (str path) = false) : putR t path v = ([], 11) := by unfold putR; rw [if_pos h, h2]; rfl
theorem put_bad3 {t : List Node} {path : ByteArray} {v : List Node} (h : (okTree t && okVal v) = true) (h2 : okPath (str path) = true) (h3 : (v.isEmpty || isDir t (parent (str path))) = false) : putR t path v = ([], 62) := by unfold putR; rw [if_pos h, if_pos h2, h3]; rfl
theorem put_rest {t : List Node} {path : ByteArray} {v : List Node} (h : (okTree t && okVal v) = true) (h2 : okPath (str path) = true) (h3 : (v.isEmpty || isDir t (parent (str path))) = true) : putR t path v = putC t path v := by unfold putR putC; rw [if_pos h, if_pos h2, if_pos h3]
theorem tright_v (p : Option Addr) (v : List Node) (n cap : Nat) (w : World) (hR : Row w p v) (hn : v.length = n) (hcap : n ≤ cap) (hcm : cap ≤ maxLen) (hF : Fits v) (hT : Tabs w) (b : Bool) (hb : okVal v = b) :
    Calls Tryz.prog 113 #[.slice p n cap] w fun e w' => e = .returned (.bool b) ∧ Off [] w w' := hb ▸ tright_any p v n cap w hR hn hcap hcm hF hT
theorem okVal_len {v : List Node} (h : okVal v = true) : v.length ≤ 1000 := by
  rcases Nat.lt_or_ge 1000 v.length with h1 | h1
  · rw [okVal_bad_len h1] at h; cases h
  exact h1
set_option maxRecDepth 100000 in
set_option maxHeartbeats 8000000 in
theorem put_any (p q : Option Addr) (t v : List Node) (n m c d : Nat) (path : ByteArray) (w : World) (hR : Row w p t) (hV : Row w q v) (hn : t.length = n) (hm : v.length = m) (hc : n ≤ c) (hd : m ≤ d) (hcm : c ≤ maxLen) (hdm : d ≤ maxLen) (hpn : p = none → t = [] ∧ c = 0) (hqn : q = none → v = [])
    (hFT : Fits t) (hFV : Fits v) (hT : Tabs w) :
    Calls Tryz.prog 237 #[.slice p n c, .string path, .slice q m d] w (PutP (putR t path v) w) := by
  have HN := Lib.hid hn; have HM := Lib.hid hm; have HRC := Lib.hid (fun (W : World) (ho : Off [] w W) (v : Int) (hv : chkV t = v) => check_v p t n c W (hR.off ho) hn hc (by omega) hFT (hT.off ho) v hv); have HRT := Lib.hid (fun (W : World) (ho : Off [] w W) (b : Bool) (hb : okVal v = b) => tright_v q v m d W (hV.off ho) hm hd hdm hFV (hT.off ho) b hb)
  have HB := Lib.hid (Blk.new w 380 #[.slice p n c, .string path]); have HO := Lib.hid ((Off.refl [] w).alloc (.cells #[.slice p n c, .string path] 380))
  cases hokT : okTree t
  · have E := Lib.hid (put_bad1 (t := t) (path := path) (v := v) (by rw [hokT]; rfl))
    have HOT := Lib.hid hokT; clear hokT hn hm hR hV hFT hFV hpn hqn
    go_enter Tryz.func237, Tryz.ntmps237
    go_wp2_with fail
    refine (HRC.out _ HO.out 60 (chkV_bad HOT.out)).mono ?_
    rintro e w1 ⟨rfl, ho⟩; have ho := HO.out.trans_nil ho
    go_wp2_with fail
    go_ret2
    rw [E.out]; exact PutP.bad ho
  have HOT := Lib.hid hokT; clear hokT
  cases hokV : okVal v
  · have E := Lib.hid (put_bad1 (t := t) (path := path) (v := v) (by rw [hokV, HOT.out]; rfl))
    have HOV := Lib.hid hokV; clear hokV hn hm hR hV hFT hFV hpn hqn
    go_enter Tryz.func237, Tryz.ntmps237
    go_wp2_with fail
    refine (HRC.out _ HO.out 0 (chkV_ok HOT.out)).mono ?_
    rintro e w1 ⟨rfl, ho⟩; have ho := HO.out.trans_nil ho
    go_wp2_with fail
    refine (HRT.out _ ho false HOV.out).mono ?_
    rintro e w2 ⟨rfl, ho2⟩; have ho := ho.trans_nil ho2; clear ho2
    go_wp2_with fail
    go_ret2
    rw [E.out]; exact PutP.bad ho
  have HOV := Lib.hid hokV; have HTV := Lib.hid (show (okTree t && okVal v) = true by rw [HOT.out, hokV]; rfl); have hm1 : m ≤ 1000 := by rw [← HM.out]; exact okVal_len hokV
  have hn1 : n ≤ 1000 := by rw [← HN.out]; exact okTree_len HOT.out
  clear hokV
  cases hokP : okPath (str path)
  · have E := Lib.hid (put_bad2 (t := t) (path := path) (v := v) HTV.out hokP)
    have HOP := Lib.hid hokP; clear hokP hn hm hR hV hFT hFV hpn hqn
    go_enter Tryz.func237, Tryz.ntmps237
    go_wp2_with fail
    refine (HRC.out _ HO.out 0 (chkV_ok HOT.out)).mono ?_
    rintro e w1 ⟨rfl, ho⟩; have ho := HO.out.trans_nil ho
    go_wp2_with fail
    refine (HRT.out _ ho true HOV.out).mono ?_
    rintro e w2 ⟨rfl, ho2⟩; have ho := ho.trans_nil ho2; clear ho2
    go_wp2_with fail
    refine (path_v path _ (hT.off ho) false HOP.out).mono ?_
    rintro e w3 ⟨rfl, ho2⟩; have ho := ho.trans_nil ho2; clear ho2
    go_wp2_with fail
    go_ret2
    rw [E.out]; exact PutP.bad ho
  have HOP := Lib.hid hokP; have hps : path.size ≤ 400 := by rw [← str_size]; exact okPath_size hokP
  have HCP := Lib.hid (fun (W : World) (ho : Off [] w W) => cput_any p q t v n m c d path W (hR.off ho) (hV.off ho) hn hm hc hcm hpn hqn hn1 hm1 HOT.out hokP (fun x hx => okVal_small HOV.out hx) (hT.off ho)); have hpsz : (bs (parent (str path))).size ≤ maxLen := by have := bs_parent_size path; unfold maxLen; omega
  have HDI := Lib.hid (fun (W : World) (ho : Off [] w W) (b : Bool) (hb : isDir t (str (bs (parent (str path)))) = b) => dir_v p t n c (bs (parent (str path))) W (hR.off ho) hn (by omega) (okTree_sorted HOT.out) hFT hpsz b hb); have HPA := Lib.hid (fun (W : World) (ho : Off [] w W) => parent_any path W (by omega) (hT.off ho)); clear hokP hn hm hR hV hFT hFV hpn hqn
  by_cases hm0 : m = 0
  · have hv0 : v = [] := List.length_eq_zero_iff.1 (by rw [HM.out]; exact hm0)
    have E := Lib.hid (put_rest (t := t) (path := path) (v := v) HTV.out HOP.out (by rw [hv0]; rfl)); clear hv0; have hmzd : decide (0 < m) = false := decide_eq_false (by omega)
    have hmzi : decide ((0 : Int) < (m : Int)) = false := decide_eq_false (by omega)
    clear hm0
    go_enter Tryz.func237, Tryz.ntmps237
    go_wp2_with fail
    refine (HRC.out _ HO.out 0 (chkV_ok HOT.out)).mono ?_
    rintro e w1 ⟨rfl, ho⟩; have hB := HB.out.off ho (by simp); have ho := HO.out.trans_nil ho
    go_wp2_with fail
    refine (HRT.out _ ho true HOV.out).mono ?_
    rintro e w2 ⟨rfl, ho2⟩; have hB := hB.off ho2 (by simp); have ho := ho.trans_nil ho2; clear ho2
    go_wp2_with fail
    refine (path_v path _ (hT.off ho) true HOP.out).mono ?_
    rintro e w3 ⟨rfl, ho2⟩; have hB := hB.off ho2 (by simp); have ho := ho.trans_nil ho2; clear ho2
    go_wp2_with fail
    refine code_gen (fun W => Off [] w W ∧ Blk W w.heap.size 380 #[.slice p n c, .string path]) ⟨ho, hB⟩ ?_
    rintro W ⟨hoE, hBE⟩; clear hB ho; have hcE := hBE.cell; have hlE := hBE.lt
    go_quiet (fail)
    have hoE := hoE.drewN nq; have hBE := hBE.drewN nq; clear hcE hlE; generalize W.drewN nq = W2 at *; have hcE := hBE.cell; have hlE := hBE.lt
    go_wp2_with fail
    refine (HCP.out _ hoE).mono ?_
    rintro e w6 ⟨x, rfl, hownx, hox⟩
    go_wp2_with fail
    go_ret2
    rw [E.out]; exact ⟨_, rfl, own_base hownx hoE.size, hoE.trans_nil hox⟩
  have hmp : 0 < m := by omega
  have hve : v.isEmpty = false := by
    cases v with
    | nil => exact absurd HM.out.symm hm0
    | cons _ _ => rfl
  have HVE := Lib.hid hve; clear hve hm0
  cases hd0 : isDir t (parent (str path))
  · have E := Lib.hid (put_bad3 (t := t) (path := path) (v := v) HTV.out HOP.out (by rw [hd0, HVE.out]; rfl))
    have HD := Lib.hid (show isDir t (str (bs (parent (str path)))) = false by rw [str_bs, hd0]); clear hd0
    go_enter Tryz.func237, Tryz.ntmps237
    go_wp2_with fail
    refine (HRC.out _ HO.out 0 (chkV_ok HOT.out)).mono ?_
    rintro e w1 ⟨rfl, ho⟩; have hB := HB.out.off ho (by simp); have ho := HO.out.trans_nil ho
    go_wp2_with fail
    refine (HRT.out _ ho true HOV.out).mono ?_
    rintro e w2 ⟨rfl, ho2⟩; have hB := hB.off ho2 (by simp); have ho := ho.trans_nil ho2; clear ho2
    go_wp2_with fail
    refine (path_v path _ (hT.off ho) true HOP.out).mono ?_
    rintro e w3 ⟨rfl, ho2⟩; have hB := hB.off ho2 (by simp); have ho := ho.trans_nil ho2; clear ho2
    go_wp2_with fail
    have hcW := hB.cell; have hlW := hB.lt; have hx := fun (x : World) (p : Addr) (hp : p.block < w3.heap.size) => ext_cell hp x
    refine wp_region_ext (by kernel_rfl) (by kernel_rfl) ?_
    repeat (go_big_quiet_step (first
      | (go_at_call 143; exact Calls.ext_of (HPA.out _ (ho.trans_nil (ext_off w3 _))))
      | (go_at_call 142; exact Calls.ext_of (HDI.out _ (ho.trans_nil (ext_off w3 _)) false HD.out))))
    refine wpQuiet_nil ?_
    rintro W2 ⟨x, rfl⟩; have hoE := ho.trans_nil (ext_off w3 x); have hBE := hB.off (ext_off w3 x) (by simp); clear hx hcW hlW hB ho; generalize ext w3 x = W2 at *; have hcE := hBE.cell; have hlE := hBE.lt
    go_wp2_with fail
    go_ret2
    rw [E.out]; exact PutP.bad hoE
  have E := Lib.hid (put_rest (t := t) (path := path) (v := v) HTV.out HOP.out (by rw [hd0]; simp)); have HD := Lib.hid (show isDir t (str (bs (parent (str path)))) = true by rw [str_bs, hd0]); clear hd0
  go_enter Tryz.func237, Tryz.ntmps237
  go_wp2_with fail
  refine (HRC.out _ HO.out 0 (chkV_ok HOT.out)).mono ?_
  rintro e w1 ⟨rfl, ho⟩; have hB := HB.out.off ho (by simp); have ho := HO.out.trans_nil ho
  go_wp2_with fail
  refine (HRT.out _ ho true HOV.out).mono ?_
  rintro e w2 ⟨rfl, ho2⟩; have hB := hB.off ho2 (by simp); have ho := ho.trans_nil ho2; clear ho2
  go_wp2_with fail
  refine (path_v path _ (hT.off ho) true HOP.out).mono ?_
  rintro e w3 ⟨rfl, ho2⟩; have hB := hB.off ho2 (by simp); have ho := ho.trans_nil ho2; clear ho2
  go_wp2_with fail
  have hcW := hB.cell; have hlW := hB.lt; have hx := fun (x : World) (p : Addr) (hp : p.block < w3.heap.size) => ext_cell hp x
  refine wp_region_ext (by kernel_rfl) (by kernel_rfl) ?_
  repeat (go_big_quiet_step (first
    | (go_at_call 143; exact Calls.ext_of (HPA.out _ (ho.trans_nil (ext_off w3 _))))
    | (go_at_call 142; exact Calls.ext_of (HDI.out _ (ho.trans_nil (ext_off w3 _)) true HD.out))))
  refine wpQuiet_nil ?_
  rintro W2 ⟨x, rfl⟩; have hoE := ho.trans_nil (ext_off w3 x); have hBE := hB.off (ext_off w3 x) (by simp); clear hx hcW hlW hB ho; generalize ext w3 x = W2 at *; have hcE := hBE.cell; have hlE := hBE.lt
  go_wp2_with fail
  refine (HCP.out _ hoE).mono ?_
  rintro e w6 ⟨x, rfl, hownx, hox⟩
  go_wp2_with fail
  go_ret2
  rw [E.out]; exact ⟨_, rfl, own_base hownx hoE.size, hoE.trans_nil hox⟩
end
section
open Go.RowKit
theorem filter_sorted {t : List Node} (hs : Sorted t) (P : Node → Bool) : Sorted (t.filter P) := List.Pairwise.filter _ hs
theorem split3 {q : Str} (hq : okPath q = true) : ∀ {t : List Node}, Sorted t → (∀ n ∈ t, okPath n.p = true) → lower t q ++ inAt t q ++ upper t q = t ∧ lower t q ++ upper t q = t.filter fun n => !within n.p q
  | [], _, _ => ⟨rfl, rfl⟩
  | n :: t, hs, hk => by
    have hs' := List.pairwise_cons.1 hs; obtain ⟨ih1, ih2⟩ := split3 hq hs'.2 (fun m hm => hk m (List.mem_cons_of_mem _ hm)); have hlow : 0 ≤ order n.p q → lower t q = [] := fun h => by
      unfold lower; rw [List.filter_eq_nil_iff]
      intro m hm
      rw [decide_eq_true_eq]
      intro h1
      have := order_trans (hs'.1 m hm) h1; omega
    by_cases h1 : order n.p q < 0
    · have h2 : within n.p q = false := by
        cases hw : within n.p q
        · rfl
        have := within_order hq hw; omega
      have e1 : lower (n :: t) q = n :: lower t q := by unfold lower; rw [List.filter_cons, if_pos (by simpa using h1)]
      have e2 : inAt (n :: t) q = inAt t q := by unfold inAt; rw [List.filter_cons, if_neg (by simp [h2])]
      have e3 : upper (n :: t) q = upper t q := by unfold upper; rw [List.filter_cons, if_neg (by simp; omega)]
      rw [e1, e2, e3, List.filter_cons, if_pos (by simp [h2]), ← ih2]; exact ⟨by rw [List.cons_append, List.cons_append, ih1], rfl⟩
    have h0 : 0 ≤ order n.p q := by omega
    have hl := hlow h0; have e1 : lower (n :: t) q = [] := by rw [← hl]; unfold lower; rw [List.filter_cons, if_neg (by simpa using h0)]
    rw [hl] at ih1 ih2; rw [e1]; simp only [List.nil_append] at ih1 ih2 ⊢
    cases h2 : within n.p q
    · have e2 : inAt (n :: t) q = [] := by
        unfold inAt; rw [List.filter_eq_nil_iff]
        intro m hm
        rcases List.mem_cons.1 hm with rfl | hm
        · simp [h2]
        intro hw
        have := within_between (hk n (by simp)) hq h0 (hs'.1 m hm) hw; rw [h2] at this; cases this
      have e3 : inAt t q = [] := by
        unfold inAt at e2 ⊢; rw [List.filter_cons, if_neg (by simp [h2])] at e2; exact e2
      have e4 : upper (n :: t) q = n :: upper t q := by unfold upper; rw [List.filter_cons, if_pos (by simp [h2, h0])]
      rw [e3, List.nil_append] at ih1; rw [e2, e4, List.filter_cons, if_pos (by simp [h2]), ← ih2]; exact ⟨by rw [List.nil_append, ih1], rfl⟩
    have e2 : inAt (n :: t) q = n :: inAt t q := by unfold inAt; rw [List.filter_cons, if_pos h2]
    have e4 : upper (n :: t) q = upper t q := by unfold upper; rw [List.filter_cons, if_neg (by simp [h2])]
    rw [e2, e4, List.filter_cons, if_neg (by simp [h2]), ← ih2]; exact ⟨by rw [List.cons_append, ih1], rfl⟩
theorem putR_ok {t : List Node} {path : ByteArray} {v : List Node} (h1 : okTree t = true) (h2 : okVal v = true) (h3 : okPath (str path) = true) (h4 : (v.isEmpty || isDir t (parent (str path))) = true) (h5 : (moved path v).all (fun n => okPath n.p) = true) (h6 : (putOut t path v).length ≤ 1000) : putR t path v = (putOut t path v, 0) := by
  unfold putR; rw [if_pos (by rw [h1, h2]; rfl), if_pos h3, if_pos h4, if_pos h5, if_pos h6]
structure PutWell (t : List Node) (path : ByteArray) (v x : List Node) : Prop where
  tree : okTree t = true
  val : okVal v = true
  okp : okPath (str path) = true
  dir : (v.isEmpty || isDir t (parent (str path))) = true
  all : (moved path v).all (fun n => okPath n.p) = true
  len : (putOut t path v).length ≤ 1000
  out : x = putOut t path v
theorem putR_cases (t : List Node) (path : ByteArray) (v : List Node) : ((putR t path v).2 ≠ 0 ∧ (putR t path v).1 = []) ∨ ((putR t path v).2 = 0 ∧ PutWell t path v (putR t path v).1) := by
  by_cases h1 : (okTree t && okVal v) = true
  · by_cases h2 : okPath (str path) = true
    · by_cases h3 : (v.isEmpty || isDir t (parent (str path))) = true
      · by_cases h4 : (moved path v).all (fun n => okPath n.p) = true
        · by_cases h5 : (putOut t path v).length ≤ 1000
          · have h6 := Bool.and_eq_true _ _ ▸ h1
            rw [putR_ok h6.1 h6.2 h2 h3 h4 h5]; exact .inr ⟨rfl, h6.1, h6.2, h2, h3, h4, h5, rfl⟩
          left; unfold putR; rw [if_pos h1, if_pos h2, if_pos h3, if_pos h4, if_neg h5]; exact ⟨by decide, rfl⟩
        left; unfold putR; rw [if_pos h1, if_pos h2, if_pos h3, if_neg h4]; exact ⟨by decide, rfl⟩
      left; unfold putR; rw [if_pos h1, if_pos h2, if_neg h3]; exact ⟨by decide, rfl⟩
    left; unfold putR; rw [if_pos h1, if_neg h2]; exact ⟨by decide, rfl⟩
  left; unfold putR; rw [if_neg h1]; exact ⟨by decide, rfl⟩
section
variable {t : List Node} {path : ByteArray} {v x : List Node}
theorem PutWell.okx (h : PutWell t path v x) : okTree x = true := by rw [h.out]; exact putOut_tree h.tree h.val h.okp h.dir h.all h.len
end
end
end Go.Proofs.YthciejabapdbgaaGreatDoor
