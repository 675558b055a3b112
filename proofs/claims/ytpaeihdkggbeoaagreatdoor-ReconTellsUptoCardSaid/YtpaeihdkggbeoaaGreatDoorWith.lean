/- name.Within, the span of what is within a path: the walks. Conditions: what each contract states. -/
import Derived.Test.YtpaeihdkggbeoaaGreatDoorBackLaw
import Derived.Test.YtpaeihdkggbeoaaGreatDoorTDif
import Derived.Lib.Strings
namespace Go.Proofs.YtpaeihdkggbeoaaGreatDoor
open Go.RowKit Go.Op

theorem hasPre_eq {a b : ByteArray} (ha : okPath (str a) = true) (hb : okPath (str b) = true) (hne : a ≠ b) : Lib.hasPrefix a.data.toList (b ++ (⟨#[47]⟩ : ByteArray)).data.toList = within (str a) (str b) := by
  have e1 : (b ++ (⟨#[47]⟩ : ByteArray)).data.toList = str b ++ [47] := by
    show str (b ++ (⟨#[47]⟩ : ByteArray)) = _
    rw [str_append]; simp [str]
  rw [e1]
  show (str b ++ [47]).isPrefixOf (str a) = _
  rw [Bool.eq_iff_iff, within_iff ha hb, List.isPrefixOf_iff_prefix]
  constructor
  · rintro ⟨r, hr⟩
    exact .inr ⟨r, by rw [← hr]; simp⟩
  · rintro (h | ⟨s, h⟩)
    · exact absurd (str_inj h) hne
    · exact ⟨s, by rw [h]; simp⟩
set_option maxRecDepth 100000 in
set_option maxHeartbeats 4000000 in
theorem nwithin_any (a b : ByteArray) (w : World) (hT : Tabs w) :
    Calls Tryz.prog 52 #[.string a, .string b] w fun e w' => e = .returned (.bool (within (str a) (str b))) ∧ Off [] w w' := by
  have hE : b.toList = [] ↔ str b = [] := by rw [toList_str]
  cases hpa : okPath (str a)
  · have HW := Lib.hid (show within (str a) (str b) = false by unfold within; rw [hpa]; rfl)
    have HP := Lib.hid hpa
    clear hpa hE
    go_enter Tryz.func52, Tryz.ntmps52
    go_wp2_with fail
    refine (path_v a _ hT false HP.out).mono ?_
    rintro e w1 ⟨rfl, ho⟩
    go_wp2_with fail
    go_ret
    exact ⟨by rw [HW.out]; rfl, ho⟩
  have HPA := Lib.hid hpa
  clear hpa
  by_cases hb0 : str b = []
  · have HW := Lib.hid (show within (str a) (str b) = true by unfold within; rw [HPA.out, hb0]; rfl)
    have g := hE.2 hb0
    have g' : b.toList.isEmpty = true := by simp [g]
    clear hE hb0
    go_enter Tryz.func52, Tryz.ntmps52
    go_wp2_with fail
    refine (path_v a _ hT true HPA.out).mono ?_
    rintro e w1 ⟨rfl, ho⟩
    go_wp2_with fail
    go_ret
    exact ⟨by rw [HW.out]; rfl, ho⟩
  have g : ¬ b.toList = [] := fun e => hb0 (hE.1 e)
  have g' : b.toList.isEmpty = false := by simpa using g
  cases hpb : okPath (str b)
  · have HW := Lib.hid (show within (str a) (str b) = false by unfold within; rw [HPA.out, hpb, decide_eq_false hb0]; rfl)
    have HP := Lib.hid hpb
    clear hpb hE hb0
    go_enter Tryz.func52, Tryz.ntmps52
    go_wp2_with fail
    refine (path_v a _ hT true HPA.out).mono ?_
    rintro e w1 ⟨rfl, ho⟩
    go_wp2_with fail
    refine (path_v b _ (hT.off ho) false HP.out).mono ?_
    rintro e w2 ⟨rfl, ho2⟩
    go_wp2_with fail
    go_ret
    exact ⟨by rw [HW.out]; rfl, ho.trans_nil ho2⟩
  have HPB := Lib.hid hpb
  clear hpb hE hb0
  by_cases hab : a = b
  · have HW := Lib.hid (show within (str a) (str b) = true by rw [hab]; exact within_self HPB.out)
    have hl : (a.toList == b.toList) = true := by rw [hab]; exact beq_self_eq_true _
    clear hab
    go_enter Tryz.func52, Tryz.ntmps52
    go_wp2_with fail
    refine (path_v a _ hT true HPA.out).mono ?_
    rintro e w1 ⟨rfl, ho⟩
    go_wp2_with fail
    refine (path_v b _ (hT.off ho) true HPB.out).mono ?_
    rintro e w2 ⟨rfl, ho2⟩
    go_wp2_with fail
    go_ret
    exact ⟨by rw [HW.out]; rfl, ho.trans_nil ho2⟩
  · have HW := Lib.hid (hasPre_eq HPA.out HPB.out hab)
    have hl : (a.toList == b.toList) = false := beq_eq_false_iff_ne.2 (fun e => hab (toList_iff.1 e))
    have hsz : b.size ≤ 400 := by rw [← str_size]; exact okPath_size HPB.out
    have a1 : ∀ wx : World, (Op.stringOp .add b ⟨#[47]⟩).run Tryz.prog wx = .ok (.string (b ++ ⟨#[47]⟩)) wx := fun wx => run_string_add_sum wx _ _ (by show b.size + 1 ≤ _; omega)
    clear hab
    go_enter Tryz.func52, Tryz.ntmps52
    go_wp2_with fail
    refine (path_v a _ hT true HPA.out).mono ?_
    rintro e w1 ⟨rfl, ho⟩
    go_wp2_with fail
    refine (path_v b _ (hT.off ho) true HPB.out).mono ?_
    rintro e w2 ⟨rfl, ho2⟩
    go_wp2_with fail
    refine (Tryz.strings_HasPrefix a (b ++ (⟨#[47]⟩ : ByteArray)) _).mono ?_
    rintro e w3 ⟨rfl, e3⟩
    subst e3
    rw [HW.out]
    go_wp2_with fail
    go_ret
    exact ⟨rfl, ho.trans_nil ho2⟩
theorem nwithin_v (a b : ByteArray) (w : World) (hT : Tabs w) (v : Bool) (hv : within (str a) (str b) = v) :
    Calls Tryz.prog 52 #[.string a, .string b] w fun e w' => e = .returned (.bool v) ∧ Off [] w w' := hv ▸ nwithin_any a b w hT

def SpanP (t : List Node) (s : ByteArray) (w : World) (e : Ending) (w' : World) : Prop :=
  ∃ i j, e = .returned (.tuple #[.int .i64 (i : Nat), .int .i64 (j : Nat)]) ∧ SpanAt t (str s) i j ∧ Off [] w w'
def InTo (t : List Node) (q : Str) (i j : Nat) : Prop := ∀ (k : Nat) (m : Node), i ≤ k → k < j → t[k]? = some m → within m.p q = true
theorem InTo.succ {t : List Node} {q : Str} {i j : Nat} {x : Node} (h : InTo t q i j) (hx : t[j]? = some x) (hw : within x.p q = true) : InTo t q i (j + 1) := fun k m h1 h2 hm => by
  rcases Nat.lt_or_ge k j with h3 | h3
  · exact h k m h1 h3 hm
  · obtain rfl : k = j := by omega
    rw [hx] at hm; cases hm; exact hw
set_option maxRecDepth 100000 in
set_option maxHeartbeats 4000000 in
theorem span_any (p : Option Addr) (t : List Node) (n cap : Nat) (s : ByteArray) (w : World) (hR : Row w p t) (hn : t.length = n) (hbig : n ≤ 1099511627776) (hs : Sorted t) (hF : Fits t) (hsz : s.size ≤ maxLen) (hT : Tabs w) :
    Calls Tryz.prog 30 #[.slice p n cap, .string s] w (SpanP t s w) := by
  have HN := Lib.hid hn
  have HR := Lib.hid hR
  have HF := Lib.hid hF
  clear hn hR hF
  go_enter Tryz.func30, Tryz.ntmps30
  go_wp2_with fail
  refine (place_any p t n cap s w HR.out HN.out (by omega) hs HF.out hsz).mono ?_
  rintro e w1 ⟨i, f, rfl, hP, ho⟩
  have hil : i ≤ n := by rw [← HN.out]; exact hP.le
  have HP := Lib.hid hP
  clear hP
  go_wp2_with fail
  go_loopw [8] (fun x wr => ∃ j : Nat, x = .int .i64 j ∧ i ≤ j ∧ j ≤ n ∧ Off [] w wr ∧ Hid (InTo t (str s) i j)) (fun x _ => n - (intOf x).toNat)
  case atStart => exact ⟨i, rfl, by omega, hil, ho, Lib.hid (fun k m h1 h2 _ => by omega)⟩
  case round =>
    clear ho
    obtain ⟨j, rfl, hij, hjn, ho, hin⟩ := hrel
    by_cases hlt : j < n
    · have hjl : j < t.length := by rw [HN.out]; exact hlt
      obtain ⟨a, rfl, hna, hab⟩ := (HR.out.off ho).get j hjl
      have hxj := List.getElem?_eq_getElem hjl
      generalize t[j] = x at *
      have HX := Lib.hid hxj
      have c0 := hna.path
      clear hna hxj
      cases hw : within (str x.path) (str s)
      · have HW := Lib.hid hw
        clear hw
        go_wp2_with fail
        refine (nwithin_v x.path s _ (hT.off ho) false HW.out).mono ?_
        rintro e w2 ⟨rfl, ho2⟩
        go_wp2_with fail
        go_ret2
        refine ⟨i, j, rfl, ⟨hij, by rw [HN.out]; exact hjn, HP.out.lo, HP.out.hi, hin.out, fun m hm => ?_⟩, ho.trans_nil ho2⟩
        rw [HX.out] at hm
        cases hm
        exact HW.out
      · have HW := Lib.hid hw
        clear hw
        go_wp2_with fail
        refine (nwithin_v x.path s _ (hT.off ho) true HW.out).mono ?_
        rintro e w2 ⟨rfl, ho2⟩
        go_wp2_with fail
        refine ⟨⟨j + 1, by congr 1, by omega, by omega, ho.trans_nil ho2, Lib.hid (hin.out.succ HX.out HW.out)⟩, by simp only [intOf]; omega⟩
    · obtain rfl : j = n := by omega
      go_wp2_with fail
      go_ret2
      refine ⟨i, j, rfl, ⟨hij, by rw [HN.out]; exact Nat.le_refl _, HP.out.lo, HP.out.hi, hin.out, fun m hm => ?_⟩, ho⟩
      have := (List.getElem?_eq_some_iff.1 hm).1
      rw [HN.out] at this
      omega

end Go.Proofs.YtpaeihdkggbeoaaGreatDoor
