/- A value in the place of another, in plain words: what the program's spans give and what the reference's loop gives are the same list. Conditions: none beyond what each lemma states. -/
import Derived.Test.YtpaeihdkggbeoaaGreatDoorRLaw
import Derived.Test.YtpaeihdkggbeoaaGreatDoorSame
namespace Go.Proofs.YtpaeihdkggbeoaaGreatDoor
open Go.RowKit

/-! ### what is within -/
theorem pre_parts (p q : Str) : (parts q).isPrefixOf (parts p) = true ↔ p = q ∨ ∃ s, p = q ++ 47 :: s := by
  rw [List.isPrefixOf_iff_prefix]
  constructor
  · rintro ⟨r, hr⟩
    by_cases h0 : r = []
    · subst h0; left; rw [List.append_nil] at hr; exact (parts_inj hr).symm
    · right
      refine ⟨joinP r, ?_⟩
      apply parts_inj
      rw [parts_append, parts_joinP r h0 (fun x hx => parts_mem p x (by rw [← hr]; exact List.mem_append_right _ hx)), hr]
  · rintro (rfl | ⟨s, rfl⟩)
    · exact List.prefix_refl _
    · rw [parts_append]; exact List.prefix_append _ _
theorem within_iff {p q : Str} (hp : okPath p = true) (hq : okPath q = true) : within p q = true ↔ p = q ∨ ∃ s, p = q ++ 47 :: s := by
  unfold within
  rw [hp, hq, Bool.true_and, Bool.true_and, Bool.or_eq_true, decide_eq_true_eq, pre_parts]
  constructor
  · rintro (h | h)
    · subst h; exact absurd hq (by decide)
    · exact h
  · exact .inr
theorem within_pre {p q : Str} (hq : okPath q = true) (h : within p q = true) : okPath p = true ∧ (parts q) <+: (parts p) := by
  unfold within at h
  rw [hq, Bool.true_and, Bool.and_eq_true, Bool.or_eq_true, decide_eq_true_eq, List.isPrefixOf_iff_prefix] at h
  refine ⟨h.1, ?_⟩
  rcases h.2 with h | h
  · subst h; exact absurd hq (by decide)
  · exact h
theorem cmpN_pre : ∀ (q r : List Str), 0 ≤ cmpN (q ++ r) q
  | [], [] => by decide
  | [], _ :: _ => by simp [cmpN]
  | x :: q, r => by simp only [List.cons_append, cmpN, cmpB_self, if_true]; exact cmpN_pre q r
theorem within_order {p q : Str} (hq : okPath q = true) (h : within p q = true) : 0 ≤ order p q := by
  obtain ⟨_, r, hr⟩ := within_pre hq h
  unfold order; rw [← hr]; exact cmpN_pre _ _
theorem cmpN_between : ∀ {q a r : List Str}, 0 ≤ cmpN a q → cmpN a (q ++ r) < 0 → q <+: a
  | [], a, r, _, _ => List.nil_prefix
  | x :: q, [], r, h, _ => by simp [cmpN] at h
  | x :: q, y :: a, r, h, k => by
    simp only [List.cons_append, cmpN] at h k
    by_cases e : Lib.compareBytes y x = 0
    · rw [if_pos e] at h k
      obtain rfl := cmpB_eq e
      obtain ⟨s, hs⟩ := cmpN_between h k
      exact ⟨s, by rw [← hs]; rfl⟩
    · rw [if_neg e] at h k
      omega
/-- what stands between a path and what is within it is within it -/
theorem within_between {a b q : Str} (ha : okPath a = true) (hq : okPath q = true) (h0 : 0 ≤ order a q) (hab : order a b < 0) (hb : within b q = true) : within a q = true := by
  obtain ⟨_, r, hr⟩ := within_pre hq hb
  unfold order at h0 hab
  rw [← hr] at hab
  have := cmpN_between h0 hab
  unfold within
  rw [ha, hq, List.isPrefixOf_iff_prefix.2 this]
  simp

/-! ### the list -/
def lower (t : List Node) (p : Str) : List Node := t.filter fun n => decide (order n.p p < 0)
def upper (t : List Node) (p : Str) : List Node := t.filter fun n => decide (0 ≤ order n.p p) && !within n.p p
def newPath (path : ByteArray) (k : Nat) (x : ByteArray) : ByteArray := if k = 0 then path else path ++ (⟨#[47]⟩ : ByteArray) ++ x
def moved (path : ByteArray) (v : List Node) : List Node := v.mapIdx fun k n => { n with path := newPath path k n.path }
def putOut (t : List Node) (path : ByteArray) (v : List Node) : List Node := lower t (str path) ++ moved path v ++ upper t (str path)
/-- a value -/
def okVal (v : List Node) : Bool :=
  match v with
  | [] => true
  | n :: r => decide (v.length ≤ 1000) && (decide (n.p = []) && (rightN n && (decide (r = []) || decide (n.kind = 2) && okTree r)))
def putR (t : List Node) (path : ByteArray) (v : List Node) : List Node × Int :=
  if (okTree t && okVal v) = true then
    if okPath (str path) = true then
      if (v.isEmpty || isDir t (parent (str path))) = true then
        if (moved path v).all (fun n => okPath n.p) = true then
          if (putOut t path v).length ≤ 1000 then (putOut t path v, 0) else ([], 32)
        else ([], 11)
      else ([], 62)
    else ([], 11)
  else ([], 60)

theorem filter_take {α : Type} (P : α → Bool) (t : List α) (i : Nat) (h1 : ∀ (j : Nat) (n : α), j < i → t[j]? = some n → P n = true) (h2 : ∀ (j : Nat) (n : α), i ≤ j → t[j]? = some n → P n = false) : t.filter P = t.take i := by
  conv => lhs; rw [← List.take_append_drop i t]
  rw [List.filter_append, List.filter_eq_self.2 (fun a ha => ?_), List.filter_eq_nil_iff.2 (fun a ha => ?_), List.append_nil]
  · obtain ⟨j, hj, rfl⟩ := List.getElem_of_mem ha
    have := h2 (i + j) _ (by omega) (by rw [← List.getElem?_drop]; exact List.getElem?_eq_getElem hj)
    rw [this]; simp
  · obtain ⟨j, hj, rfl⟩ := List.getElem_of_mem ha
    have hj' := hj
    rw [List.length_take] at hj'
    exact h1 j _ (by omega) (by rw [List.getElem_take]; exact List.getElem?_eq_getElem (by omega))
theorem filter_drop {α : Type} (P : α → Bool) (t : List α) (i : Nat) (h1 : ∀ (j : Nat) (n : α), j < i → t[j]? = some n → P n = false) (h2 : ∀ (j : Nat) (n : α), i ≤ j → t[j]? = some n → P n = true) : t.filter P = t.drop i := by
  conv => lhs; rw [← List.take_append_drop i t]
  rw [List.filter_append, List.filter_eq_nil_iff.2 (fun a ha => ?_), List.filter_eq_self.2 (fun a ha => ?_), List.nil_append]
  · obtain ⟨j, hj, rfl⟩ := List.getElem_of_mem ha
    exact h2 (i + j) _ (by omega) (by rw [← List.getElem?_drop]; exact List.getElem?_eq_getElem hj)
  · obtain ⟨j, hj, rfl⟩ := List.getElem_of_mem ha
    have hj' := hj
    rw [List.length_take] at hj'
    have := h1 j _ (by omega) (List.getElem?_eq_getElem (by omega))
    rw [List.getElem_take, this]; simp
/-- the places of what is within -/
structure SpanAt (t : List Node) (p : Str) (i j : Nat) : Prop where
  ij : i ≤ j
  le : j ≤ t.length
  lo : ∀ (k : Nat) (n : Node), k < i → t[k]? = some n → order n.p p < 0
  hi : ∀ (k : Nat) (n : Node), i ≤ k → t[k]? = some n → 0 ≤ order n.p p
  in_ : ∀ (k : Nat) (n : Node), i ≤ k → k < j → t[k]? = some n → within n.p p = true
  out : ∀ n, t[j]? = some n → within n.p p = false
theorem SpanAt.lower {t : List Node} {p : Str} {i j : Nat} (h : SpanAt t p i j) : t.take i = lower t p := by
  unfold Go.Proofs.YtpaeihdkggbeoaaGreatDoor.lower
  rw [filter_take _ t i (fun k n hk hn => decide_eq_true (h.lo k n hk hn)) (fun k n hk hn => decide_eq_false (by have := h.hi k n hk hn; omega))]
theorem SpanAt.far {t : List Node} {p : Str} {i j : Nat} (h : SpanAt t p i j) (hk : okTree t = true) (hp : okPath p = true) (k : Nat) (n : Node) (hjk : j ≤ k) (hn : t[k]? = some n) : within n.p p = false := by
  rcases Nat.lt_or_ge j k with h1 | h1
  · obtain ⟨hkl, rfl⟩ := List.getElem?_eq_some_iff.1 hn
    have hjl : j < t.length := by omega
    cases hw : within (t[k]).p p
    · rfl
    · have h2 := List.pairwise_iff_getElem.1 (okTree_sorted hk) j k hjl hkl h1
      have h3 := within_between (okTree_path hk (List.getElem_mem hjl)) hp (h.hi j _ h.ij (List.getElem?_eq_getElem hjl)) h2 hw
      have h4 := h.out _ (List.getElem?_eq_getElem hjl)
      rw [h3] at h4
      cases h4
  · obtain rfl : j = k := by omega
    exact h.out n hn
theorem SpanAt.upper {t : List Node} {p : Str} {i j : Nat} (h : SpanAt t p i j) (hk : okTree t = true) (hp : okPath p = true) : t.drop j = upper t p := by
  unfold Go.Proofs.YtpaeihdkggbeoaaGreatDoor.upper
  rw [filter_drop _ t j (fun k n hkj hn => ?_) (fun k n hjk hn => ?_)]
  · rcases Nat.lt_or_ge k i with h1 | h1
    · have := h.lo k n h1 hn
      rw [decide_eq_false (by omega)]; rfl
    · rw [h.in_ k n h1 hkj hn]; simp
  · rw [h.far hk hp k n hjk hn, decide_eq_true (h.hi k n (by have := h.ij; omega) hn)]; rfl
theorem SpanAt.mid {t : List Node} {p : Str} {i j : Nat} (h : SpanAt t p i j) (hk : okTree t = true) (hp : okPath p = true) : (t.drop i).take (j - i) = t.filter fun n => within n.p p := by
  conv => rhs; rw [← List.take_append_drop i t, ← List.take_append_drop (j - i) (t.drop i)]
  rw [List.filter_append, List.filter_append, List.filter_eq_nil_iff.2 (fun a ha => ?_), List.filter_eq_self.2 (fun a ha => ?_), List.filter_eq_nil_iff.2 (fun a ha => ?_), List.nil_append, List.append_nil]
  · rw [List.drop_drop] at ha
    obtain ⟨m, hm, rfl⟩ := List.getElem_of_mem ha
    have hij := h.ij
    have := h.far hk hp (i + (j - i) + m) _ (by omega) (by rw [← List.getElem?_drop]; exact List.getElem?_eq_getElem hm)
    rw [this]; simp
  · obtain ⟨m, hm, rfl⟩ := List.getElem_of_mem ha
    have hm' := hm
    rw [List.length_take] at hm'
    exact h.in_ (i + m) _ (by omega) (by omega) (by rw [List.getElem_take, ← List.getElem?_drop]; exact List.getElem?_eq_getElem (by omega))
  · obtain ⟨m, hm, rfl⟩ := List.getElem_of_mem ha
    have hm' := hm
    rw [List.length_take] at hm'
    have h1 := h.lo m _ (by omega) (List.getElem?_eq_getElem (by omega))
    rw [List.getElem_take]
    intro hw
    have := within_order hp hw
    omega

/-! ### the reference's loop -/
def came (t : List Node) (p : Str) (i : Nat) : Bool := (t.take i).any fun n => decide (0 ≤ order n.p p)
def outTo (t : List Node) (path : ByteArray) (v : List Node) (i : Nat) (put : Bool) : List Node :=
  lower (t.take i) (str path) ++ if put = true then moved path v ++ upper (t.take i) (str path) else []
theorem came_zero (t : List Node) (p : Str) : came t p 0 = false := rfl
theorem outTo_zero (t : List Node) (path : ByteArray) (v : List Node) : outTo t path v 0 false = [] := rfl
theorem came_succ {t : List Node} {p : Str} {i : Nat} {n : Node} (h : t[i]? = some n) : came t p (i + 1) = (came t p i || decide (0 ≤ order n.p p)) := by
  unfold came; rw [take_get h, List.any_append]; simp
theorem came_sorted {t : List Node} {p : Str} {i : Nat} {n : Node} (hs : Sorted t) (h : t[i]? = some n) (hc : came t p i = true) : 0 ≤ order n.p p := by
  unfold came at hc
  rw [List.any_eq_true] at hc
  obtain ⟨m, hm, hp⟩ := hc
  rw [decide_eq_true_eq] at hp
  obtain ⟨j, hj, rfl⟩ := List.getElem_of_mem hm
  rw [List.length_take] at hj
  rw [List.getElem_take] at hp
  obtain ⟨hil, rfl⟩ := List.getElem?_eq_some_iff.1 h
  have h1 := List.pairwise_iff_getElem.1 hs j i (by omega) hil (by omega)
  rcases Int.lt_or_le (order (t[i]).p p) 0 with h2 | h2
  · have := order_trans h1 h2; omega
  · exact h2
theorem lower_succ {t : List Node} {p : Str} {i : Nat} {n : Node} (h : t[i]? = some n) : lower (t.take (i + 1)) p = lower (t.take i) p ++ if order n.p p < 0 then [n] else [] := by
  unfold lower; rw [take_get h, List.filter_append]
  by_cases h1 : order n.p p < 0 <;> simp [h1]
theorem upper_succ {t : List Node} {p : Str} {i : Nat} {n : Node} (h : t[i]? = some n) : upper (t.take (i + 1)) p = upper (t.take i) p ++ if (decide (0 ≤ order n.p p) && !within n.p p) = true then [n] else [] := by
  unfold upper; rw [take_get h, List.filter_append]
  congr 1
  rw [List.filter_cons, List.filter_nil]
theorem upper_none {t : List Node} {p : Str} {i : Nat} (h : came t p i = false) : upper (t.take i) p = [] := by
  unfold upper
  rw [List.filter_eq_nil_iff]
  intro n hn
  unfold came at h
  rw [List.any_eq_false] at h
  have := h n hn
  simp only [decide_eq_true_eq] at this
  simp [this]
/-- a node behind the new value, or ahead of it -/
theorem outTo_step {t : List Node} {path : ByteArray} {v : List Node} {i : Nat} {n : Node} (hs : Sorted t) (hp : okPath (str path) = true) (h : t[i]? = some n) :
    outTo t path v (i + 1) (came t (str path) (i + 1)) = (outTo t path v i (came t (str path) i) ++ if came t (str path) i = false ∧ 0 ≤ order n.p (str path) then moved path v else []) ++ if within n.p (str path) = true then [] else [n] := by
  unfold outTo
  rw [came_succ h, lower_succ h, upper_succ h]
  cases hc : came t (str path) i
  · rw [upper_none hc]
    by_cases h1 : order n.p (str path) < 0
    · have h2 : ¬ 0 ≤ order n.p (str path) := by omega
      have h3 : ¬ within n.p (str path) = true := fun hw => h2 (within_order hp hw)
      simp [h1, h2, h3]
    · have h2 : 0 ≤ order n.p (str path) := by omega
      by_cases h3 : within n.p (str path) = true
      · simp [h1, h2, h3]
      · simp [h1, h2, h3]
  · have h2 := came_sorted hs h hc
    have h1 : ¬ order n.p (str path) < 0 := by omega
    by_cases h3 : within n.p (str path) = true
    · simp [h1, h2, h3]
    · simp [h1, h2, h3]
theorem outTo_all {t : List Node} {path : ByteArray} {v : List Node} : outTo t path v t.length (came t (str path) t.length) ++ (if came t (str path) t.length = false then moved path v else []) = putOut t path v := by
  unfold outTo putOut
  cases hc : came t (str path) t.length
  · have h := upper_none hc
    rw [List.take_length] at h
    simp [h]
  · simp
theorem outTo_step_put {t : List Node} {path : ByteArray} {v : List Node} {i : Nat} {n : Node} (hs : Sorted t) (hp : okPath (str path) = true) (h : t[i]? = some n) (hc : came t (str path) i = false) (h0 : 0 ≤ order n.p (str path)) :
    outTo t path v (i + 1) true = (outTo t path v i false ++ moved path v) ++ if within n.p (str path) = true then [] else [n] := by
  have := outTo_step (v := v) hs hp h
  rw [came_succ h, hc, decide_eq_true h0] at this
  simpa [h0] using this
theorem moved_len (path : ByteArray) (v : List Node) : (moved path v).length = v.length := by unfold moved; simp
theorem moved_get {path : ByteArray} {v : List Node} {k : Nat} {n : Node} (h : v[k]? = some n) : (moved path v)[k]? = some { n with path := newPath path k n.path } := by
  unfold moved; simp [h]
theorem moved_nil (path : ByteArray) : moved path [] = [] := rfl
theorem rdir_eq {t : List Node} {p : Str} (hs : Sorted t) : rdir t p = isDir t p := by
  cases h : isDir t p
  · cases h2 : rdir t p
    · rfl
    · exfalso
      unfold isDir at h
      rw [Bool.or_eq_false_iff] at h
      rcases rdir_dir h2 with h3 | ⟨n, hn, h3, h4⟩
      · simp [h3] at h
      · have := h.2
        rw [List.any_eq_false] at this
        exact this n hn (by simp [h3, h4])
  · exact dir_rdir hs h
end Go.Proofs.YtpaeihdkggbeoaaGreatDoor
