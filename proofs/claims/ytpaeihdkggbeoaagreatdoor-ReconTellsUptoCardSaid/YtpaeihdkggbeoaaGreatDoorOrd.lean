/- name.Order: the walk. Conditions: no string is longer than Go's strings can be. -/
import Derived.Test.YtpaeihdkggbeoaaGreatDoorPathW
namespace Go.Proofs.YtpaeihdkggbeoaaGreatDoor
open Go.RowKit Go.Op

def lenOf : Value → Nat
  | .string s => s.size
  | _ => 0
/-- the first name, and what comes behind it -/
def headOf (s : ByteArray) : ByteArray := match Lib.indexByte (str s) 47 with | .ofNat i => s.extract 0 i | _ => s
def restOf (s : ByteArray) : ByteArray := match Lib.indexByte (str s) 47 with | .ofNat i => s.extract (i + 1) s.size | _ => ⟨#[]⟩
def moreOf (s : ByteArray) : Bool := match Lib.indexByte (str s) 47 with | .ofNat _ => true | _ => false
theorem cut_any (s : ByteArray) (w : World) (hs : s.size ≤ maxLen) :
    Calls Tryz.prog 54 #[.string s, .string ⟨#[47]⟩] w fun e w' => e = .returned (.tuple #[.string (headOf s), .string (restOf s), .bool (moreOf s)]) ∧ Off [] w w' := by
  rcases slash_cases s with ⟨h, _⟩ | ⟨i, h, hi, _, _⟩
  · refine (cut_none s w h).mono fun e w' ⟨he, hw⟩ => ⟨?_, hw ▸ Off.refl _ _⟩
    rw [he, headOf, restOf, moreOf, h]
    rfl
  · refine (cut_some s i w h hi hs).mono fun e w' ⟨he, n, hw⟩ => ⟨?_, hw ▸ (Off.refl _ _).drewN n⟩
    rw [he, headOf, restOf, moreOf, h]
theorem cut_parts (s : ByteArray) : (moreOf s = false ∧ parts (str s) = [str (headOf s)] ∧ headOf s = s) ∨ (moreOf s = true ∧ parts (str s) = str (headOf s) :: parts (str (restOf s)) ∧ (restOf s).size < s.size) := by
  rcases slash_cases s with ⟨h, hn⟩ | ⟨i, h, hi, hn, hc⟩
  · left
    have e : headOf s = s := by rw [headOf, h]; rfl
    exact ⟨by rw [moreOf, h]; rfl, by rw [e, parts_clean _ hn], e⟩
  · right
    have e1 : headOf s = s.extract 0 i := by rw [headOf, h]
    have e2 : restOf s = s.extract (i + 1) s.size := by rw [restOf, h]
    refine ⟨by rw [moreOf, h], ?_, by rw [e2]; simp; omega⟩
    rw [e1, e2, parts_cut hn hc, str_extract, str_extract]
    have k : (str s).drop (i + 1) = ((str s).drop (i + 1)).take (s.size - (i + 1)) := (List.take_of_length_le (by simp [str_size])).symm
    rw [← k]
    simp
set_option maxRecDepth 100000 in
set_option maxHeartbeats 4000000 in
theorem order_any (a b : ByteArray) (w : World) (ha : a.size ≤ maxLen) (hb : b.size ≤ maxLen) :
    Calls Tryz.prog 33 #[.string a, .string b] w fun e w' => e = .returned (.int .i64 (order (str a) (str b))) ∧ Off [] w w' := by
  go_enter Tryz.func33, Tryz.ntmps33
  go_wp2_with fail
  go_loopw [0, 1] (fun x y wr => ∃ a' b' : ByteArray, x = .string a' ∧ y = .string b' ∧ a'.size ≤ maxLen ∧ b'.size ≤ maxLen ∧ Off [] w wr ∧ order (str a) (str b) = order (str a') (str b')) (fun x _ _ => lenOf x)
  case atStart => exact ⟨a, b, rfl, rfl, ha, hb, Off.refl _ _, rfl⟩
  case round =>
    obtain ⟨a', b', rfl, rfl, ha', hb', ho, hord⟩ := hrel
    have HO := Lib.hid hord
    clear hord
    by_cases hab : a' = b'
    · subst hab
      go_wp2_with fail
      go_ret
      exact ⟨by rw [HO.out, order_self]; rfl, ho⟩
    · have hne : (a'.toList == b'.toList) = false := by
        rw [toList_str, toList_str]
        exact beq_eq_false_iff_ne.2 (fun e => hab (str_inj e))
      have HS := Lib.hid (fun e : str a' = str b' => hab (str_inj e))
      have hca := cut_parts a'
      have hcb := cut_parts b'
      have HA := Lib.hid hca
      have HB := Lib.hid hcb
      clear hca hcb hab
      go_wp2_with fail
      refine (cut_any a' _ ha').mono ?_
      rintro e w1 ⟨rfl, ho1⟩
      go_wp2_with fail
      refine (cut_any b' _ hb').mono ?_
      rintro e w2 ⟨rfl, ho2⟩
      go_wp2_with fail
      refine (cmp_any _ _ _).mono ?_
      rintro e w3 ⟨rfl, e3⟩
      subst e3
      have hoff := (ho.trans_nil ho1).trans_nil ho2
      clear ho ho1 ho2
      have hunf : order (str a') (str b') = cmpN (parts (str a')) (parts (str b')) := rfl
      have HU := Lib.hid hunf
      clear hunf
      by_cases hc : Lib.compareBytes (str (headOf a')) (str (headOf b')) = 0
      · rw [hc]
        have HC := Lib.hid hc
        clear hc
        rcases HA.out with ⟨m1, p1, q1⟩ | ⟨m1, p1, q1⟩
        · rcases HB.out with ⟨m2, p2, q2⟩ | ⟨m2, p2, q2⟩
          · exact absurd (cmpB_eq (q1 ▸ q2 ▸ HC.out)) (fun e => HS.out e)
          · have P1 := Lib.hid p1
            have P2 := Lib.hid p2
            clear p1 p2 m2 q1
            go_wp2_with fail
            go_ret
            refine ⟨?_, hoff⟩
            rw [HO.out, HU.out, P1.out, P2.out, cmpN, if_pos HC.out]
            have := parts_ne (str (restOf b'))
            cases hh : parts (str (restOf b')) with
            | nil => exact absurd hh this
            | cons _ _ => rfl
        · rcases HB.out with ⟨m2, p2, q2⟩ | ⟨m2, p2, q2⟩
          · have P1 := Lib.hid p1
            have P2 := Lib.hid p2
            clear p1 p2 q2
            go_wp2_with fail
            go_ret
            refine ⟨?_, hoff⟩
            rw [HO.out, HU.out, P1.out, P2.out, cmpN, if_pos HC.out]
            have := parts_ne (str (restOf a'))
            cases hh : parts (str (restOf a')) with
            | nil => exact absurd hh this
            | cons _ _ => rfl
          · have P1 := Lib.hid p1
            have P2 := Lib.hid p2
            clear p1 p2
            go_wp2_with fail
            refine ⟨⟨restOf a', restOf b', rfl, rfl, by omega, by omega, hoff, ?_⟩, ?_⟩
            · rw [HO.out, HU.out, P1.out, P2.out, cmpN, if_pos HC.out]; rfl
            · simp only [lenOf]; omega
      · have hv : order (str a') (str b') = Lib.compareBytes (str (headOf a')) (str (headOf b')) := by
          rw [HU.out]
          rcases HA.out with ⟨m1, p1, q1⟩ | ⟨m1, p1, q1⟩ <;> rcases HB.out with ⟨m2, p2, q2⟩ | ⟨m2, p2, q2⟩ <;> rw [p1, p2, cmpN, if_neg hc]
        have HV := Lib.hid hv
        clear hv
        generalize Lib.compareBytes (str (headOf a')) (str (headOf b')) = c at *
        have hc0 : (c == 0) = false := beq_eq_false_iff_ne.2 hc
        go_wp2_with fail
        go_ret
        exact ⟨by rw [HO.out, HV.out]; rfl, hoff⟩
end Go.Proofs.YtpaeihdkggbeoaaGreatDoor
