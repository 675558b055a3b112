/- Where two lists of nodes differ, in plain words. Conditions: none beyond what each lemma states. -/
import Derived.Test.YtpaeihdkggbeoaaGreatDoorSame
namespace Go.Proofs.YtpaeihdkggbeoaaGreatDoor
open Go.RowKit Go.Op

def pathsOf (t : List Node) : List ByteArray := t.map fun n => n.path
def oneDif (x y : Node) : List ByteArray := if x = y then [] else [x.path]
def differ : List Node → List Node → List ByteArray
  | [], b => pathsOf b
  | x :: a, [] => pathsOf (x :: a)
  | x :: a, y :: b =>
    if order x.p y.p < 0 then x.path :: differ a (y :: b)
    else if 0 < order x.p y.p then y.path :: differ (x :: a) b
    else oneDif x y ++ differ a b
termination_by a b => a.length + b.length
theorem differ_nil (b : List Node) : differ [] b = pathsOf b := by rw [differ]
theorem differ_nil2 (a : List Node) : differ a [] = pathsOf a := by cases a with | nil => rw [differ] | cons x a => rw [differ]
theorem differ_lt {x y : Node} {a b : List Node} (h : order x.p y.p < 0) : differ (x :: a) (y :: b) = x.path :: differ a (y :: b) := by rw [differ, if_pos h]
theorem differ_gt {x y : Node} {a b : List Node} (h : 0 < order x.p y.p) : differ (x :: a) (y :: b) = y.path :: differ (x :: a) b := by rw [differ, if_neg (by omega), if_pos h]
theorem differ_eq {x y : Node} {a b : List Node} (h : order x.p y.p = 0) : differ (x :: a) (y :: b) = oneDif x y ++ differ a b := by rw [differ, if_neg (by omega), if_neg (by omega)]
theorem differ_self : ∀ a : List Node, differ a a = []
  | [] => by rw [differ_nil]; rfl
  | x :: a => by rw [differ_eq (order_self _), differ_self a]; simp [oneDif]
theorem differ_len : ∀ (k : Nat) (a b : List Node), a.length + b.length ≤ k → (differ a b).length ≤ a.length + b.length
  | 0, a, b, h => by
    have e1 : a = [] := List.length_eq_zero_iff.1 (by omega)
    have e2 : b = [] := List.length_eq_zero_iff.1 (by omega)
    subst e1; subst e2
    rw [differ_nil]; simp [pathsOf]
  | k + 1, [], b, h => by rw [differ_nil]; simp [pathsOf]
  | k + 1, x :: a, [], h => by rw [differ_nil2]; simp [pathsOf]
  | k + 1, x :: a, y :: b, h => by
    simp only [List.length_cons] at h
    rcases Int.lt_trichotomy (order x.p y.p) 0 with h1 | h1 | h1
    · rw [differ_lt h1]
      have := differ_len k a (y :: b) (by simp only [List.length_cons]; omega)
      simp only [List.length_cons] at this ⊢; omega
    · rw [differ_eq h1]
      have := differ_len k a b (by omega)
      simp only [List.length_cons, List.length_append, oneDif]
      split <;> simp only [List.length_cons, List.length_nil] <;> omega
    · rw [differ_gt h1]
      have := differ_len k (x :: a) b (by simp only [List.length_cons]; omega)
      simp only [List.length_cons] at this ⊢; omega
theorem differ_none : ∀ (k : Nat) (a b : List Node), a.length + b.length ≤ k → differ a b = [] → a = b
  | 0, a, b, h, _ => by
    have e1 : a = [] := List.length_eq_zero_iff.1 (by omega)
    have e2 : b = [] := List.length_eq_zero_iff.1 (by omega)
    rw [e1, e2]
  | k + 1, [], b, h, hd => by rw [differ_nil] at hd; exact (List.map_eq_nil_iff.1 hd).symm
  | k + 1, x :: a, [], h, hd => by rw [differ_nil2] at hd; exact List.map_eq_nil_iff.1 hd
  | k + 1, x :: a, y :: b, h, hd => by
    simp only [List.length_cons] at h
    rcases Int.lt_trichotomy (order x.p y.p) 0 with h1 | h1 | h1
    · rw [differ_lt h1] at hd; cases hd
    · rw [differ_eq h1] at hd
      have h2 := List.append_eq_nil_iff.1 hd
      have h3 : x = y := by
        by_cases hxy : x = y
        · exact hxy
        · have := h2.1; unfold oneDif at this; rw [if_neg hxy] at this; cases this
      rw [h3, differ_none k a b (by omega) h2.2]
    · rw [differ_gt h1] at hd; cases hd
/-- what Differ answers -/
def differR (a b : List Node) : List ByteArray := if okTree a && okTree b then differ a b else []
/-- how far Differ has come -/
structure DifAt (A B : List Node) (i j : Nat) (D : List ByteArray) : Prop where
  li : i ≤ A.length
  lj : j ≤ B.length
  eq : differ A B = D ++ differ (A.drop i) (B.drop j)
  len : D.length ≤ i + j
theorem DifAt.start (A B : List Node) : DifAt A B 0 0 [] := ⟨Nat.zero_le _, Nat.zero_le _, rfl, Nat.le_refl _⟩
theorem DifAt.left {A B : List Node} {i j : Nat} {D : List ByteArray} (h : DifAt A B i j D) {x : Node} (hx : A[i]? = some x) (hc : j = B.length ∨ ∃ y, B[j]? = some y ∧ order x.p y.p < 0) : DifAt A B (i + 1) j (D ++ [x.path]) := by
  have hi := (List.getElem?_eq_some_iff.1 hx).1
  refine ⟨hi, h.lj, ?_, by have := h.len; simp; omega⟩
  rw [h.eq, drop_get hx]
  rcases hc with hc | ⟨y, hy, hc⟩
  · rw [List.drop_eq_nil_of_le (by omega : B.length ≤ j), differ_nil2, differ_nil2]; simp [pathsOf]
  · rw [drop_get hy, differ_lt hc]; simp
theorem DifAt.right {A B : List Node} {i j : Nat} {D : List ByteArray} (h : DifAt A B i j D) {y : Node} (hy : B[j]? = some y) (hc : i = A.length ∨ ∃ x, A[i]? = some x ∧ 0 < order x.p y.p) : DifAt A B i (j + 1) (D ++ [y.path]) := by
  have hj := (List.getElem?_eq_some_iff.1 hy).1
  refine ⟨h.li, hj, ?_, by have := h.len; simp; omega⟩
  rw [h.eq, drop_get hy]
  rcases hc with hc | ⟨x, hx, hc⟩
  · rw [List.drop_eq_nil_of_le (by omega : A.length ≤ i), differ_nil, differ_nil]; simp [pathsOf]
  · rw [drop_get hx, differ_gt hc]; simp
theorem DifAt.both {A B : List Node} {i j : Nat} {D : List ByteArray} (h : DifAt A B i j D) {x y : Node} (hx : A[i]? = some x) (hy : B[j]? = some y) (hc : order x.p y.p = 0) : DifAt A B (i + 1) (j + 1) (D ++ oneDif x y) := by
  have hi := (List.getElem?_eq_some_iff.1 hx).1
  have hj := (List.getElem?_eq_some_iff.1 hy).1
  refine ⟨hi, hj, ?_, ?_⟩
  · rw [h.eq, drop_get hx, drop_get hy, differ_eq hc]; simp
  · have := h.len
    rw [List.length_append]
    unfold oneDif
    split <;> simp only [List.length_cons, List.length_nil] <;> omega
theorem DifAt.fin {A B : List Node} {D : List ByteArray} (h : DifAt A B A.length B.length D) : differ A B = D := by
  rw [h.eq, List.drop_length, List.drop_length, differ_nil]; simp [pathsOf]
theorem DifAt.tail {A B : List Node} {i j : Nat} {D : List ByteArray} (h : DifAt A B i j D) (hc : i = A.length ∨ j = B.length) : differ A B = D ++ pathsOf (A.drop i ++ B.drop j) := by
  rw [h.eq]
  rcases hc with hc | hc
  · rw [hc, List.drop_length, differ_nil]; simp
  · rw [hc, List.drop_length, differ_nil2]; simp
end Go.Proofs.YtpaeihdkggbeoaaGreatDoor
