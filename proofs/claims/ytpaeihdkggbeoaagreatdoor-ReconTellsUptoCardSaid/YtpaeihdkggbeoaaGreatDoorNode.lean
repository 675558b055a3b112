/- tree.right, and the search for a path: place, dir: the walks. Conditions: the list is in order where a path is searched; no string is longer than Go's can be. -/
import Derived.Test.YtpaeihdkggbeoaaGreatDoorTree
namespace Go.Proofs.YtpaeihdkggbeoaaGreatDoor
open Go.RowKit Go.Op

theorem Sorted.unique {t : List Node} (hs : Sorted t) {a b : Node} (ha : a ∈ t) (hb : b ∈ t) (he : a.p = b.p) : a = b := by
  obtain ⟨i, hi, rfl⟩ := List.getElem_of_mem ha
  obtain ⟨j, hj, rfl⟩ := List.getElem_of_mem hb
  rcases Nat.lt_trichotomy i j with h | rfl | h
  · have := List.pairwise_iff_getElem.1 hs i j hi hj h
    rw [he, order_self] at this; omega
  · rfl
  · have := List.pairwise_iff_getElem.1 hs j i hj hi h
    rw [he, order_self] at this; omega
theorem place_isDir {t : List Node} {p : Str} {i : Nat} {f : Bool} (h : PlaceAt t p i f) (hs : Sorted t) :
    isDir t p = (decide (p = []) || (f && match t[i]? with | some n => decide (n.kind = 2) | .none => false)) := by
  have key : (t.any fun n => decide (n.p = p) && decide (n.kind = 2)) = (f && match t[i]? with | some n => decide (n.kind = 2) | .none => false) := by
    cases f
    · rw [Bool.false_and, List.any_eq_false]
      intro n hn
      simp [h.none hn hs]
    · obtain ⟨n, hn, hp⟩ := h.fd.1 rfl
      rw [hn, Bool.true_and]
      have hm := List.mem_of_getElem? hn
      by_cases hk : n.kind = 2
      · simp only [hk, decide_true, List.any_eq_true]
        exact ⟨n, hm, by simp [hp, hk]⟩
      · simp only [hk, decide_false, List.any_eq_false]
        intro m hmm
        by_cases hpm : m.p = p
        · have := hs.unique hmm hm (hpm.trans hp.symm)
          subst this
          simp [hk]
        · simp [hpm]
  rw [← key]; rfl
theorem indexByte_mem (c : UInt8) : ∀ l : Str, decide (0 ≤ Lib.indexByte l c) = l.contains c
  | [] => by simp [Lib.indexByte]
  | b :: l => by
    have ih := indexByte_mem c l
    have hge := Lib.indexByte_ge l c
    unfold Lib.indexByte
    by_cases hb : b = c
    · subst hb; simp
    · have hb' : ¬ (b == c) = true := by simpa using hb
      have hb2 : ¬ c = b := fun e => hb e.symm
      rw [if_neg hb', List.contains_cons]
      have : (c == b) = false := by simpa using hb2
      rw [this, Bool.false_or, ← ih]
      by_cases h1 : Lib.indexByte l c = -1
      · simp [h1]
      · have : ¬ ((Lib.indexByte l c == -1) = true) := by simp [h1]
        rw [if_neg this]
        simp only [decide_eq_decide]
        omega
theorem beq0 (m : Int) : (m == 0) = decide (m = 0) := by by_cases h : m = 0 <;> simp [h]
theorem contains0_any (s : ByteArray) (w : World) : Calls Tryz.prog 69 #[.string s, .string ⟨#[0]⟩] w fun e w' => e = .returned (.bool ((str s).contains 0)) ∧ w = w' := by
  refine (Tryz.strings_Contains_one s 0 w).mono fun e w' ⟨a, b⟩ => ⟨?_, b.symm⟩
  rw [a, ← indexByte_mem]; rfl
set_option maxRecDepth 100000 in
theorem right_any (n : Node) (w : World) : Calls Tryz.prog 45 #[n.val] w fun e w' => e = .returned (.bool (rightN n)) ∧ Off [] w w' := by
  obtain ⟨path, kind, data, mode⟩ := n
  have hE : data.toList = [] ↔ data.size = 0 := by rw [toList_str, ← str_size]; simp
  unfold Node.val
  dsimp only
  by_cases h1 : kind = 1
  · subst h1
    clear hE
    by_cases a : data.size ≤ 65536
    · by_cases b : 0 ≤ mode
      · go_enter Tryz.func45, Tryz.ntmps45
        go_wp2_with fail
        go_ret
        exact ⟨by simp [rightN, a, b], (Off.refl _ _).alloc _⟩
      · go_enter Tryz.func45, Tryz.ntmps45
        go_wp2_with fail
        go_ret
        exact ⟨by simp [rightN, a]; omega, (Off.refl _ _).alloc _⟩
    · go_enter Tryz.func45, Tryz.ntmps45
      go_wp2_with fail
      go_ret
      exact ⟨by simp [rightN, a], (Off.refl _ _).alloc _⟩
  by_cases h2 : kind = 2
  · subst h2
    clear h1
    by_cases a : data.size = 0
    · have g := hE.2 a
      have g' : data.toList.isEmpty = true := by simp [g]
      clear hE
      go_enter Tryz.func45, Tryz.ntmps45
      go_wp2_with fail
      go_ret
      exact ⟨by simp [rightN, a, beq0], (Off.refl _ _).alloc _⟩
    · have g : ¬ data.toList = [] := fun e => a (hE.1 e)
      have g' : data.toList.isEmpty = false := by simpa using g
      clear hE
      go_enter Tryz.func45, Tryz.ntmps45
      go_wp2_with fail
      go_ret
      exact ⟨by simp [rightN, a], (Off.refl _ _).alloc _⟩
  by_cases h3 : kind = 3
  · subst h3
    clear h1 h2
    by_cases a : data.size = 0
    · have g := hE.2 a
      have g' : data.toList.isEmpty = true := by simp [g]
      clear hE
      go_enter Tryz.func45, Tryz.ntmps45
      go_wp2_with fail
      go_ret
      exact ⟨by simp [rightN, a], (Off.refl _ _).alloc _⟩
    · have g : ¬ data.toList = [] := fun e => a (hE.1 e)
      have g' : data.toList.isEmpty = false := by simpa using g
      clear hE
      by_cases b : data.size ≤ 400
      · cases hc : (str data).contains 0
        · have HM := Lib.hid (show ¬ 0 ∈ str data by simpa using hc)
          have HC := Lib.hid hc
          clear hc
          go_enter Tryz.func45, Tryz.ntmps45
          go_wp2_with fail
          refine (contains0_any data _).mono ?_
          rintro e w1 ⟨rfl, e1⟩
          subst e1
          rw [HC.out]
          go_wp2_with fail
          go_ret
          exact ⟨by simp [rightN, a, b, HM.out, beq0], (Off.refl _ _).alloc _⟩
        · have HM := Lib.hid (show 0 ∈ str data by simpa using hc)
          have HC := Lib.hid hc
          clear hc
          go_enter Tryz.func45, Tryz.ntmps45
          go_wp2_with fail
          refine (contains0_any data _).mono ?_
          rintro e w1 ⟨rfl, e1⟩
          subst e1
          rw [HC.out]
          go_wp2_with fail
          go_ret
          exact ⟨by simp [rightN, a, b, HM.out], (Off.refl _ _).alloc _⟩
      · go_enter Tryz.func45, Tryz.ntmps45
        go_wp2_with fail
        go_ret
        exact ⟨by simp [rightN, a, b], (Off.refl _ _).alloc _⟩
  · have k1 : (kind == 1) = false := beq_eq_false_iff_ne.2 h1
    have k2 : (kind == 2) = false := beq_eq_false_iff_ne.2 h2
    have k3 : (kind == 3) = false := beq_eq_false_iff_ne.2 h3
    clear hE
    go_enter Tryz.func45, Tryz.ntmps45
    go_wp2_with fail
    go_ret
    exact ⟨by simp [rightN, h1, h2, h3], (Off.refl _ _).alloc _⟩
end Go.Proofs.YtpaeihdkggbeoaaGreatDoor
