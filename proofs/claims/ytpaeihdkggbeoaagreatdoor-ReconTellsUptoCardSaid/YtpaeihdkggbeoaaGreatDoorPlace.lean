/- The search for a path in a list of nodes that is in order: slices.BinarySearchFunc, place, dir: the walks. Conditions: the list is in order; no string is longer than Go's can be. -/
import Derived.Test.YtpaeihdkggbeoaaGreatDoorNode
import Derived.LoopNIn
namespace Go.Proofs.YtpaeihdkggbeoaaGreatDoor
open Go.RowKit Go.Op

theorem beq2 (m : Int) : (m == 2) = decide (m = 2) := by by_cases h : m = 2 <;> simp [h]
set_option maxRecDepth 100000 in
theorem clos_any (n : Node) (s : ByteArray) (w : World) (hn : n.path.size ≤ maxLen) (hs : s.size ≤ maxLen) :
    Calls Tryz.prog 78 #[n.val, .string s] w fun e w' => e = .returned (.int .i64 (order n.p (str s))) ∧ Off [] w w' := by
  obtain ⟨path, kind, data, mode⟩ := n
  unfold Node.val Node.p
  dsimp only at hn ⊢
  go_enter Tryz.func78, Tryz.ntmps78
  go_wp2_with fail
  refine (order_any path s _ hn hs).mono ?_
  rintro e w1 ⟨rfl, ho⟩
  go_wp2_with fail
  go_ret
  exact ⟨rfl, ((Off.refl _ _).alloc _).trans_nil ho⟩

def FoundP (t : List Node) (s : ByteArray) (w : World) (e : Ending) (w' : World) : Prop :=
  ∃ i f, e = .returned (.tuple #[.int .i64 (i : Nat), .bool f]) ∧ PlaceAt t (str s) i f ∧ Off [] w w'
/-- what a search knows: how far the nodes ahead and behind go -/
structure Seek (t : List Node) (p : Str) (lo hi : Nat) : Prop where
  lh : lo ≤ hi
  le : hi ≤ t.length
  a : ∀ (j : Nat) (n : Node), j < lo → t[j]? = some n → order n.p p < 0
  b : ∀ (j : Nat) (n : Node), hi ≤ j → t[j]? = some n → 0 ≤ order n.p p
theorem Seek.left {t : List Node} {p : Str} {lo hi : Nat} (h : Seek t p lo hi) (hs : Sorted t) {m : Nat} (h1 : lo ≤ m) (h2 : m < hi) (hm : order (t[m]'(by have := h.le; omega)).p p < 0) : Seek t p (m + 1) hi :=
  ⟨by omega, h.le, fun j n hj hn => by
    obtain ⟨hjl, rfl⟩ := List.getElem?_eq_some_iff.1 hn
    rcases Nat.lt_or_ge j m with h3 | h3
    · exact order_trans (List.pairwise_iff_getElem.1 hs j m hjl (by have := h.le; omega) h3) hm
    · obtain rfl : j = m := by omega
      exact hm, h.b⟩
theorem Seek.right {t : List Node} {p : Str} {lo hi : Nat} (h : Seek t p lo hi) (hs : Sorted t) {m : Nat} (h1 : lo ≤ m) (h2 : m < hi) (hm : 0 ≤ order (t[m]'(by have := h.le; omega)).p p) : Seek t p lo m :=
  ⟨h1, by have := h.le; omega, h.a, fun j n hj hn => by
    obtain ⟨hjl, rfl⟩ := List.getElem?_eq_some_iff.1 hn
    rcases Nat.lt_or_ge m j with h3 | h3
    · have := List.pairwise_iff_getElem.1 hs m j (by have := h.le; omega) hjl h3
      rcases Int.lt_or_le (order (t[j]).p p) 0 with h4 | h4
      · have := order_trans this h4; omega
      · exact h4
    · obtain rfl : j = m := by omega
      exact hm⟩
set_option maxRecDepth 100000 in
set_option maxHeartbeats 4000000 in
theorem bsearch_any (p : Option Addr) (t : List Node) (n cap : Nat) (s : ByteArray) (w : World) (hR : Row w p t) (hn : t.length = n) (hbig : n < 4611686018427387904) (hs : Sorted t) (hF : Fits t) (hsz : s.size ≤ maxLen) :
    Calls Tryz.prog 77 #[.slice p n cap, .string s, .func (.func 78) #[] #[]] w (FoundP t s w) := by
  have hS0 : Seek t (str s) 0 n := ⟨by omega, by omega, fun j _ hj _ => by omega, fun j m hj hm => by have := (List.getElem?_eq_some_iff.1 hm).1; omega⟩
  have HS0 := Lib.hid hS0
  have HN := Lib.hid hn
  have HR := Lib.hid hR
  have HF := Lib.hid hF
  clear hS0 hn hR hF
  go_enter Tryz.func77, Tryz.ntmps77
  go_wp2_with fail
  go_loopw [9, 10] (fun x y wr => ∃ lo hi : Nat, x = .int .i64 lo ∧ y = .int .i64 hi ∧ Hid (Seek t (str s) lo hi) ∧ lo ≤ hi ∧ hi ≤ n ∧ Off [] w wr) (fun x y _ => (intOf y - intOf x).toNat)
  case atStart => exact ⟨0, n, rfl, rfl, HS0, by omega, by omega, Off.refl _ _⟩
  case round =>
    obtain ⟨lo, hi, rfl, rfl, hS, hlh, hin, ho⟩ := hrel
    by_cases hlt : lo < hi
    · have hml : (lo + hi) / 2 < t.length := by rw [HN.out]; omega
      obtain ⟨a, rfl, hna, hab⟩ := (HR.out.off ho).get ((lo + hi) / 2) hml
      have hfit := (HF.out _ (List.getElem_mem hml)).1
      have hL : order (t[(lo + hi) / 2]'hml).p (str s) < 0 → Seek t (str s) ((lo + hi) / 2 + 1) hi := fun h => hS.out.left hs (m := (lo + hi) / 2) (by omega) (by omega) h
      have hR : 0 ≤ order (t[(lo + hi) / 2]'hml).p (str s) → Seek t (str s) lo ((lo + hi) / 2) := fun h => hS.out.right hs (m := (lo + hi) / 2) (by omega) (by omega) h
      generalize t[(lo + hi) / 2] = nd at *
      have c0 := hna.path
      have c1 := hna.kind
      have c2 := hna.data
      have c3 := hna.mode
      have HL := Lib.hid hL
      have HR2 := Lib.hid hR
      clear hna hL hR
      go_wp2_with fail
      refine (clos_any nd s wr hfit hsz).mono ?_
      rintro e w2 ⟨rfl, ho2⟩
      have hoff := ho.trans_nil ho2
      clear c0 c1 c2 c3 ho ho2
      generalize order nd.p (str s) = c at *
      by_cases hc : c < 0
      · have HS := Lib.hid (HL.out hc)
        go_wp2_with fail
        refine ⟨⟨(lo + hi) / 2 + 1, hi, by push_cast; rfl, rfl, HS, by omega, by omega, hoff⟩, ?_⟩
        simp only [intOf]
        omega
      · have HS := Lib.hid (HR2.out (by omega))
        go_wp2_with fail
        refine ⟨⟨lo, (lo + hi) / 2, rfl, by push_cast; rfl, HS, by omega, by omega, hoff⟩, ?_⟩
        simp only [intOf]
        omega
    · obtain rfl : lo = hi := by omega
      by_cases hln : lo < n
      · have hml : lo < t.length := by rw [HN.out]; omega
        obtain ⟨a, rfl, hna, hab⟩ := (HR.out.off ho).get lo hml
        have hfit := (HF.out _ (List.getElem_mem hml)).1
        have HG := Lib.hid (List.getElem?_eq_getElem hml)
        generalize t[lo] = nd at *
        have c0 := hna.path
        have c1 := hna.kind
        have c2 := hna.data
        have c3 := hna.mode
        clear hna
        have hcz := order_range nd.p (str s)
        go_wp2_with fail
        refine (clos_any nd s wr hfit hsz).mono ?_
        rintro e w2 ⟨rfl, ho2⟩
        have hoff := ho.trans_nil ho2
        clear c0 c1 c2 c3 ho ho2
        have HE := Lib.hid (fun h : order nd.p (str s) = 0 => order_eq h)
        have HE2 := Lib.hid (fun h : nd.p = str s => (show order nd.p (str s) = 0 by rw [h, order_self]))
        generalize order nd.p (str s) = c at *
        by_cases hc : c = 0
        · have HQ := Lib.hid (HE.out hc)
          subst hc
          clear HE HE2
          go_wp2_with fail
          go_ret2
          exact ⟨lo, true, rfl, ⟨hS.out.le, hS.out.a, hS.out.b, ⟨fun _ => ⟨nd, HG.out, HQ.out⟩, fun _ => rfl⟩⟩, hoff⟩
        · have hc' : (c == 0) = false := beq_eq_false_iff_ne.2 hc
          go_wp2_with fail
          go_ret2
          refine ⟨lo, false, rfl, ⟨hS.out.le, hS.out.a, hS.out.b, ⟨fun h => (by cases h), fun ⟨m, hm, hp⟩ => ?_⟩⟩, hoff⟩
          rw [HG.out] at hm
          injection hm with hm
          subst hm
          exact absurd (HE2.out hp) hc
      · go_wp2_with fail
        go_ret2
        refine ⟨lo, false, rfl, ⟨hS.out.le, hS.out.a, hS.out.b, ⟨fun h => (by cases h), fun ⟨m, hm, hp⟩ => ?_⟩⟩, ho⟩
        have := (List.getElem?_eq_some_iff.1 hm).1
        rw [HN.out] at this
        omega
set_option maxRecDepth 100000 in
theorem place_any (p : Option Addr) (t : List Node) (n cap : Nat) (s : ByteArray) (w : World) (hR : Row w p t) (hn : t.length = n) (hbig : n < 4611686018427387904) (hs : Sorted t) (hF : Fits t) (hsz : s.size ≤ maxLen) :
    Calls Tryz.prog 51 #[.slice p n cap, .string s] w (FoundP t s w) := by
  have HN := Lib.hid hn
  have HR := Lib.hid hR
  have HF := Lib.hid hF
  clear hn hR hF
  go_enter Tryz.func51, Tryz.ntmps51
  go_wp2_with fail
  refine (bsearch_any p t n cap s w HR.out HN.out hbig hs HF.out hsz).mono ?_
  rintro e w1 ⟨i, f, rfl, hP, ho⟩
  go_wp2_with fail
  go_ret2
  exact ⟨i, f, rfl, hP, ho⟩
set_option maxRecDepth 100000 in
set_option maxHeartbeats 4000000 in
theorem dir_any (p : Option Addr) (t : List Node) (n cap : Nat) (s : ByteArray) (w : World) (hR : Row w p t) (hn : t.length = n) (hbig : n < 4611686018427387904) (hs : Sorted t) (hF : Fits t) (hsz : s.size ≤ maxLen) :
    Calls Tryz.prog 46 #[.slice p n cap, .string s] w fun e w' => e = .returned (.bool (isDir t (str s))) ∧ Off [] w w' := by
  have HN := Lib.hid hn
  have HR := Lib.hid hR
  have HF := Lib.hid hF
  clear hn hR hF
  have hE : (s.toList = []) ↔ str s = [] := by rw [toList_str]
  have HE := Lib.hid hE
  clear hE
  go_enter Tryz.func46, Tryz.ntmps46
  go_wp2_with fail
  refine (place_any p t n cap s w HR.out HN.out hbig hs HF.out hsz).mono ?_
  rintro e w1 ⟨i, f, rfl, hP, ho⟩
  have hD := Lib.hid (place_isDir hP hs)
  by_cases h0 : str s = []
  · have g : s.toList = [] := HE.out.2 h0
    have g' : s.toList.isEmpty = true := by simp [g]
    go_wp2_with fail
    go_ret
    exact ⟨by rw [hD.out]; simp [h0], ho⟩
  · have g : ¬ s.toList = [] := fun e => h0 (HE.out.1 e)
    have g' : s.toList.isEmpty = false := by simpa using g
    cases f
    · go_wp2_with fail
      go_ret
      exact ⟨by rw [hD.out]; simp [h0], ho⟩
    · obtain ⟨m, hm, hp⟩ := hP.fd.1 rfl
      obtain ⟨hi, hmi⟩ := List.getElem?_eq_some_iff.1 hm
      obtain ⟨a, rfl, hna, hab⟩ := (HR.out.off ho).get i hi
      rw [hmi] at hna
      have hin : i < n := by rw [← HN.out]; exact hi
      have c1 := hna.kind
      have HM := Lib.hid hm
      clear hna hm hmi hp
      go_wp2_with fail
      go_ret
      exact ⟨by rw [hD.out, HM.out]; simp [h0, beq2], ho⟩
end Go.Proofs.YtpaeihdkggbeoaaGreatDoor
