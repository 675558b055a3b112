/- hawserlaw06.TreePairs: the walk. Conditions: the tables of unicode/utf8 are laid; no string is longer than 1048576 bytes. -/
import Derived.Test.YtpaeihdkggbeoaaDoorTDif
namespace Go.Proofs.YtpaeihdkggbeoaaDoor
open Go.RowKit Go.Op

set_option maxRecDepth 100000 in
set_option maxHeartbeats 4000000 in
theorem pairs_any (p q : Option Addr) (A B : List Node) (n m c d : Nat) (w : World) (hA : Row w p A) (hB : Row w q B) (hn : A.length = n) (hm : B.length = m) (hc : n ≤ c) (hd : m ≤ d) (hcm : c ≤ maxLen) (hdm : d ≤ maxLen) (hpn : p = none → A = [] ∧ c = 0) (hqn : q = none → B = [] ∧ d = 0) (hbn : n ≤ 1048576) (hbm : m ≤ 1048576) (hFA : Fits1 A) (hFB : Fits1 B) (hT : Tabs w) :
    Calls Tryd.prog 4 #[.slice p n c, .slice q m d] w fun e w' => e = .returned (.bool true) ∧ Off [] w w' := by
  have HN := Lib.hid hn
  have HM := Lib.hid hm
  have HA := Lib.hid hA
  have HB := Lib.hid hB
  have HFA := Lib.hid hFA
  have HFB := Lib.hid hFB
  have HPN := Lib.hid hpn
  have HQN := Lib.hid hqn
  obtain ⟨sb, hsb⟩ : ∃ sb, decide (A = B) = sb := ⟨_, rfl⟩
  have HSB := Lib.hid hsb
  have hsbq : (sb == sb) = true := by cases sb <;> rfl
  have hDl : (differR A B).length ≤ 2000 := by
    unfold differR
    split
    · rename_i h
      rw [Bool.and_eq_true] at h
      have h1 := okTree_len h.1
      have h2 := okTree_len h.2
      have := differ_len _ A B (Nat.le_refl _)
      omega
    · simp
  clear hn hm hA hB hFA hFB hpn hqn hsb
  have HSAME := Lib.hid (fun (W : World) (ho : Off [] w W) => same_any A B p q c d W (by rw [HN.out]; omega) (by rw [HM.out]; omega) (HA.out.off ho) (HB.out.off ho))
  have HRSAME := Lib.hid (fun (W : World) (ho : Off [] w W) => rsame_any A B p q c d W (by rw [HN.out]; omega) (by rw [HM.out]; omega) (HA.out.off ho) (HB.out.off ho))
  have HDIF := Lib.hid (fun (W : World) (ho : Off [] w W) => differ_any p q A B n m c d W (HA.out.off ho) (HB.out.off ho) HN.out HM.out hc hd hcm hdm HPN.out HQN.out HFA.out.fits HFB.out.fits (hT.off ho))
  have HRDIF := Lib.hid (fun (W : World) (ho : Off [] w W) => rdiffer_any p q A B n m c d W (HA.out.off ho) (HB.out.off ho) HN.out HM.out (by omega) (by omega) HFA.out HFB.out)
  have HCA := Lib.hid (fun (W : World) (ho : Off [] w W) (v : Int) (hv : chkV A = v) => check_v p A n c W (HA.out.off ho) HN.out hc (by omega) HFA.out.fits (hT.off ho) v hv)
  have HCB := Lib.hid (fun (W : World) (ho : Off [] w W) (v : Int) (hv : chkV B = v) => check_v q B m d W (HB.out.off ho) HM.out hd (by omega) HFB.out.fits (hT.off ho) v hv)
  rw [HN.out, HM.out] at HSAME HRSAME
  rw [HSB.out] at HSAME HRSAME
  go_enter Tryd.func4, Tryd.ntmps4
  go_wp2_with fail
  refine (awake_any _ hT).mono ?_
  rintro e w1 ⟨rfl, ho⟩
  go_wp2_with fail
  refine (HSAME.out w1 ho).mono ?_
  rintro e w2 ⟨rfl, ho2⟩
  have ho := ho.trans_nil ho2
  clear ho2
  go_wp2_with fail
  refine (HRSAME.out w2 ho).mono ?_
  rintro e w3 ⟨rfl, ho2⟩
  have ho := ho.trans_nil ho2
  clear ho2
  go_wp2_with fail
  refine (HDIF.out w3 ho).mono ?_
  rintro e w4 ⟨v, rfl, hown, ho2⟩
  obtain ⟨p1, c1, rfl, hp1⟩ := own_strs hown
  have HP1 : Hid (Strs w4 p1 (differR A B)) := Lib.hid hp1
  have ho := ho.trans_nil ho2
  clear ho2 hown hp1
  go_wp2_with fail
  refine (HRDIF.out w4 ho).mono ?_
  rintro e w5 ⟨v, rfl, hown, ho2⟩
  obtain ⟨p2, c2, rfl, hp2⟩ := own_strs hown
  have HP2 : Hid (Strs w5 p2 (differR A B)) := Lib.hid hp2
  have HP1 := Lib.hid (HP1.out.off ho2)
  have ho := ho.trans_nil ho2
  clear ho2 hown hp2
  have HTX := Lib.hid (texts_any (differR A B) (differR A B) p1 p2 c1 c2 w5 (by omega) (by omega) HP1.out HP2.out)
  obtain ⟨k, hk⟩ : ∃ k, (differR A B).length = k := ⟨_, rfl⟩
  rw [hk] at HTX hDl ⊢
  have HK := Lib.hid hk
  rw [decide_eq_true (rfl : differR A B = differR A B)] at HTX
  clear hk
  go_wp2_with fail
  refine HTX.out.mono ?_
  rintro e w6 ⟨rfl, ho2⟩
  have ho := ho.trans_nil ho2
  clear ho2
  cases hokA : okTree A
  · have HOA := Lib.hid hokA
    clear hokA
    go_wp2_with fail
    refine (HCA.out w6 ho 60 (chkV_bad HOA.out)).mono ?_
    rintro e w7 ⟨rfl, ho2⟩
    go_wp2_with fail
    go_ret
    exact ⟨rfl, ho.trans_nil ho2⟩
  have HOA := Lib.hid hokA
  clear hokA
  cases hokB : okTree B
  · have HOB := Lib.hid hokB
    clear hokB
    go_wp2_with fail
    refine (HCA.out w6 ho 0 (chkV_ok HOA.out)).mono ?_
    rintro e w7 ⟨rfl, ho2⟩
    have ho := ho.trans_nil ho2
    clear ho2
    go_wp2_with fail
    refine (HCB.out w7 ho 60 (chkV_bad HOB.out)).mono ?_
    rintro e w8 ⟨rfl, ho2⟩
    go_wp2_with fail
    go_ret
    exact ⟨rfl, ho.trans_nil ho2⟩
  have HOB := Lib.hid hokB
  clear hokB
  have hkq : ((k : Int) == 0) = sb := by
    have e1 : differR A B = differ A B := by unfold differR; rw [HOA.out, HOB.out]; rfl
    rw [← HSB.out, ← HK.out, e1]
    by_cases h : A = B
    · subst h; rw [differ_self]; simp
    · rw [decide_eq_false h]
      have : (differ A B).length ≠ 0 := fun e => h (differ_none _ A B (Nat.le_refl _) (List.length_eq_zero_iff.1 e))
      exact beq_eq_false_iff_ne.2 (by omega)
  go_wp2_with fail
  refine (HCA.out w6 ho 0 (chkV_ok HOA.out)).mono ?_
  rintro e w7 ⟨rfl, ho2⟩
  have ho := ho.trans_nil ho2
  clear ho2
  go_wp2_with fail
  refine (HCB.out w7 ho 0 (chkV_ok HOB.out)).mono ?_
  rintro e w8 ⟨rfl, ho2⟩
  have ho := ho.trans_nil ho2
  clear ho2
  go_wp2_with fail
  refine (HSAME.out w8 ho).mono ?_
  rintro e w9 ⟨rfl, ho2⟩
  have ho := ho.trans_nil ho2
  clear ho2
  go_wp2_with fail
  refine (HDIF.out w9 ho).mono ?_
  rintro e w10 ⟨v, rfl, hown, ho2⟩
  obtain ⟨p3, c3, rfl, hp3⟩ := own_strs hown
  rw [HK.out]
  have ho := ho.trans_nil ho2
  clear ho2 hown hp3
  go_wp2_with fail
  go_ret
  exact ⟨rfl, ho⟩
end Go.Proofs.YtpaeihdkggbeoaaDoor
