/- The plain words of names and paths: parts between slashes, what a name is, what a path is, the order of paths, what is within a path. Conditions: none beyond what each lemma states. -/
import Derived.Lib.ValidLaws
import Derived.Lib.Bytealg
namespace Go.Proofs.YtpaeihdkggbeoaaGreatDoor
open Go.Lib (compareBytes validD)
abbrev Str := List UInt8

/-- what stands between the slashes -/
def parts : Str → List Str
  | [] => [[]]
  | c :: s => if c = 47 then [] :: parts s else match parts s with
    | [] => [[c]]
    | h :: t => (c :: h) :: t
/-- names with slashes between them -/
def joinP : List Str → Str
  | [] => []
  | [x] => x
  | x :: y :: l => x ++ 47 :: joinP (y :: l)
/-- neither a slash nor a nought -/
def noSep (s : Str) : Bool := s.all fun c => c != 47 && c != 0
def okName (s : Str) : Bool := decide (s ≠ []) && decide (s.length ≤ 64) && decide (s ≠ [46]) && decide (s ≠ [46, 46]) && validD s && noSep s
def okPath (s : Str) : Bool := decide (s.length ≤ 400) && decide (s.count 47 < 16) && (parts s).all okName

theorem parts_ne : ∀ s : Str, parts s ≠ []
  | [] => by simp [parts]
  | c :: s => by
    unfold parts
    split
    · simp
    · split <;> simp
theorem parts_slash (s : Str) : parts (47 :: s) = [] :: parts s := by simp [parts]
theorem parts_cons {c : UInt8} (hc : c ≠ 47) (s : Str) : ∃ h t, parts s = h :: t ∧ parts (c :: s) = (c :: h) :: t := by
  cases e : parts s with
  | nil => exact absurd e (parts_ne s)
  | cons h t => exact ⟨h, t, rfl, by simp [parts, hc, e]⟩
theorem parts_append (b : Str) : ∀ a : Str, parts (a ++ 47 :: b) = parts a ++ parts b
  | [] => by simp [parts]
  | c :: a => by
    by_cases hc : c = 47
    · subst hc; simp [parts, parts_append b a]
    · obtain ⟨h, t, e, e'⟩ := parts_cons hc a
      obtain ⟨h2, t2, e2, e2'⟩ := parts_cons hc (a ++ 47 :: b)
      rw [parts_append b a, e] at e2
      simp only [List.cons_append, List.cons.injEq] at e2
      rw [List.cons_append, e2', e', List.cons_append, ← e2.1, ← e2.2]
theorem parts_clean : ∀ s : Str, 47 ∉ s → parts s = [s]
  | [], _ => rfl
  | c :: s, h => by
    have hc : c ≠ 47 := fun e => h (by simp [e])
    have ih := parts_clean s (fun hm => h (List.mem_cons_of_mem _ hm))
    obtain ⟨a, t, e, e'⟩ := parts_cons hc s
    rw [ih] at e
    simp only [List.cons.injEq] at e
    rw [e', ← e.1, ← e.2]
theorem parts_mem : ∀ (s : Str) (x : Str), x ∈ parts s → 47 ∉ x
  | [], x, hx => by simp [parts] at hx; simp [hx]
  | c :: s, x, hx => by
    by_cases hc : c = 47
    · subst hc
      rw [parts_slash] at hx
      rcases List.mem_cons.1 hx with rfl | hx
      · simp
      · exact parts_mem s x hx
    · obtain ⟨h, t, e, e'⟩ := parts_cons hc s
      rw [e'] at hx
      rcases List.mem_cons.1 hx with rfl | hx
      · have := parts_mem s h (by simp [e])
        simp only [List.mem_cons, not_or]
        exact ⟨fun e => hc e.symm, this⟩
      · exact parts_mem s x (by simp [e, hx])
theorem parts_length : ∀ s : Str, (parts s).length = s.count 47 + 1
  | [] => by simp [parts]
  | c :: s => by
    by_cases hc : c = 47
    · subst hc; simp [parts_slash, parts_length s]
    · obtain ⟨h, t, e, e'⟩ := parts_cons hc s
      have := parts_length s
      rw [e] at this
      rw [e', List.count_cons_of_ne hc]
      simpa using this
theorem joinP_cons (x : Str) {l : List Str} (h : l ≠ []) : joinP (x :: l) = x ++ 47 :: joinP l := by
  cases l with
  | nil => exact absurd rfl h
  | cons y l => rfl
theorem joinP_parts : ∀ s : Str, joinP (parts s) = s
  | [] => rfl
  | c :: s => by
    have ih := joinP_parts s
    by_cases hc : c = 47
    · subst hc; rw [parts_slash, joinP_cons _ (parts_ne s), ih]; rfl
    · obtain ⟨h, t, e, e'⟩ := parts_cons hc s
      rw [e'] 
      rw [e] at ih
      cases t with
      | nil => simp only [joinP] at ih ⊢; rw [ih]
      | cons y t => simp only [joinP, List.cons_append] at ih ⊢; rw [ih]
theorem parts_joinP : ∀ l : List Str, l ≠ [] → (∀ x ∈ l, 47 ∉ x) → parts (joinP l) = l
  | [], h, _ => absurd rfl h
  | [x], _, h => parts_clean x (h x (by simp))
  | x :: y :: l, _, h => by
    rw [joinP_cons x (by simp), parts_append, parts_clean x (h x (by simp)), parts_joinP (y :: l) (by simp) (fun z hz => h z (List.mem_cons_of_mem _ hz))]
    rfl
theorem parts_inj {a b : Str} (h : parts a = parts b) : a = b := by rw [← joinP_parts a, h, joinP_parts]

/-! ### the order of names, the order of paths -/
theorem cmpB_self : ∀ a : Str, compareBytes a a = 0
  | [] => rfl
  | a :: as => by unfold compareBytes; simp [cmpB_self as]
theorem cmpB_eq : ∀ {a b : Str}, compareBytes a b = 0 → a = b
  | [], [], _ => rfl
  | [], _ :: _, h => by simp [compareBytes] at h
  | _ :: _, [], h => by simp [compareBytes] at h
  | a :: as, b :: bs, h => by
    unfold compareBytes at h
    split at h
    · simp at h
    · split at h
      · simp at h
      · rename_i h1 h2
        have : a = b := UInt8.le_antisymm (UInt8.not_lt.1 h2) (UInt8.not_lt.1 h1)
        rw [this, cmpB_eq h]
theorem cmpB_swap : ∀ a b : Str, compareBytes b a = - compareBytes a b
  | [], [] => rfl
  | [], _ :: _ => rfl
  | _ :: _, [] => rfl
  | a :: as, b :: bs => by
    unfold compareBytes
    by_cases h1 : a < b
    · have h2 : ¬ b < a := UInt8.not_lt.2 (UInt8.le_of_lt h1)
      simp [h1, h2]
    · by_cases h2 : b < a
      · simp [h1, h2]
      · simp [h1, h2, cmpB_swap as bs]
theorem cmpB_range : ∀ a b : Str, compareBytes a b = -1 ∨ compareBytes a b = 0 ∨ compareBytes a b = 1
  | [], [] => by simp [compareBytes]
  | [], _ :: _ => by simp [compareBytes]
  | _ :: _, [] => by simp [compareBytes]
  | a :: as, b :: bs => by
    unfold compareBytes
    split
    · simp
    · split
      · simp
      · exact cmpB_range as bs
theorem cmpB_trans : ∀ {a b c : Str}, compareBytes a b < 0 → compareBytes b c < 0 → compareBytes a c < 0
  | [], [], _, h, _ => by simp [compareBytes] at h
  | [], _ :: _, [], _, h => by simp [compareBytes] at h
  | [], _ :: _, _ :: _, _, _ => by simp [compareBytes]
  | _ :: _, [], _, h, _ => by simp [compareBytes] at h
  | _ :: _, _ :: _, [], _, h => by simp [compareBytes] at h
  | a :: as, b :: bs, c :: cs, h, k => by
    unfold compareBytes at h k ⊢
    by_cases h1 : a < b
    · by_cases k1 : b < c
      · simp [UInt8.lt_trans h1 k1]
      · by_cases k2 : c < b
        · simp [k1, k2] at k
        · have : b = c := UInt8.le_antisymm (UInt8.not_lt.1 k2) (UInt8.not_lt.1 k1)
          subst this; simp [h1]
    · by_cases h2 : b < a
      · simp [h1, h2] at h
      · have : a = b := UInt8.le_antisymm (UInt8.not_lt.1 h2) (UInt8.not_lt.1 h1)
        subst this
        by_cases k1 : a < c
        · simp [k1]
        · by_cases k2 : c < a
          · simp [k1, k2] at k
          · simp only [UInt8.lt_irrefl, if_false, k1, k2] at h k ⊢
            exact cmpB_trans h k

/-- paths, name by name -/
def cmpN : List Str → List Str → Int
  | [], [] => 0
  | [], _ :: _ => -1
  | _ :: _, [] => 1
  | x :: xs, y :: ys => if compareBytes x y = 0 then cmpN xs ys else compareBytes x y
def order (a b : Str) : Int := cmpN (parts a) (parts b)

theorem cmpN_self : ∀ a : List Str, cmpN a a = 0
  | [] => rfl
  | a :: as => by unfold cmpN; simp [cmpB_self, cmpN_self as]
theorem cmpN_eq : ∀ {a b : List Str}, cmpN a b = 0 → a = b
  | [], [], _ => rfl
  | [], _ :: _, h => by simp [cmpN] at h
  | _ :: _, [], h => by simp [cmpN] at h
  | a :: as, b :: bs, h => by
    unfold cmpN at h
    split at h
    · rename_i h1; rw [cmpB_eq h1, cmpN_eq h]
    · rename_i h1; exact absurd h h1
theorem cmpN_swap : ∀ a b : List Str, cmpN b a = - cmpN a b
  | [], [] => rfl
  | [], _ :: _ => rfl
  | _ :: _, [] => rfl
  | a :: as, b :: bs => by
    unfold cmpN
    rw [cmpB_swap a b]
    by_cases h : compareBytes a b = 0
    · simp [h, cmpN_swap as bs]
    · have : ¬ (- compareBytes a b = 0) := by omega
      simp [h]
theorem cmpN_range : ∀ a b : List Str, cmpN a b = -1 ∨ cmpN a b = 0 ∨ cmpN a b = 1
  | [], [] => by simp [cmpN]
  | [], _ :: _ => by simp [cmpN]
  | _ :: _, [] => by simp [cmpN]
  | a :: as, b :: bs => by
    unfold cmpN
    split
    · exact cmpN_range as bs
    · exact cmpB_range a b
theorem cmpN_trans : ∀ {a b c : List Str}, cmpN a b < 0 → cmpN b c < 0 → cmpN a c < 0
  | [], [], _, h, _ => by simp [cmpN] at h
  | [], _ :: _, [], _, h => by simp [cmpN] at h
  | [], _ :: _, _ :: _, _, _ => by simp [cmpN]
  | _ :: _, [], _, h, _ => by simp [cmpN] at h
  | _ :: _, _ :: _, [], _, h => by simp [cmpN] at h
  | a :: as, b :: bs, c :: cs, h, k => by
    unfold cmpN at h k ⊢
    by_cases h1 : compareBytes a b = 0
    · rw [if_pos h1] at h
      obtain rfl := cmpB_eq h1
      by_cases k1 : compareBytes a c = 0
      · rw [if_pos k1] at k ⊢; exact cmpN_trans h k
      · rw [if_neg k1] at k ⊢; exact k
    · rw [if_neg h1] at h
      by_cases k1 : compareBytes b c = 0
      · obtain rfl := cmpB_eq k1
        rw [if_neg h1]; exact h
      · rw [if_neg k1] at k
        have := cmpB_trans h k
        rw [if_neg (by omega)]; exact this
theorem order_self (a : Str) : order a a = 0 := cmpN_self _
theorem order_eq {a b : Str} (h : order a b = 0) : a = b := parts_inj (cmpN_eq h)
theorem order_swap (a b : Str) : order b a = - order a b := cmpN_swap _ _
theorem order_range (a b : Str) : order a b = -1 ∨ order a b = 0 ∨ order a b = 1 := cmpN_range _ _
theorem order_trans {a b c : Str} (h : order a b < 0) (k : order b c < 0) : order a c < 0 := cmpN_trans h k

/-! ### what is above, what is within -/
def parent (p : Str) : Str := if okPath p then joinP (parts p).dropLast else []
def base (p : Str) : Str := if okPath p then (parts p).getLast (parts_ne p) else []
def within (p q : Str) : Bool := okPath p && (decide (q = []) || okPath q && (parts q).isPrefixOf (parts p))
end Go.Proofs.YtpaeihdkggbeoaaGreatDoor
