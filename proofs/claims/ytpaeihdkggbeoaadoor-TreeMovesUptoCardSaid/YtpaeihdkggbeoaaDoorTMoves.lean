/- hawserlaw06.TreeMoves: the walk. Conditions: the tables of unicode/utf8 are laid; no string is longer than 1048576 bytes. -/
import Derived.Test.YtpaeihdkggbeoaaDoorTBack
namespace Go.Proofs.YtpaeihdkggbeoaaDoor
open Go.RowKit Go.Op

theorem rwithinM_v (a b : ByteArray) (w : World) (ha : a.size ≤ 1048576) (hb : b.size ≤ 1048576) (v : Bool) (hv : within (str a) (str b) = v) :
    Calls Tryd.prog 24 #[.string a, .string b] w fun e w' => e = .returned (.bool v) ∧ Off [] w w' := hv ▸ rwithin_any a b w ha hb
/-- what Put answers -/
theorem put_w (p q : Option Addr) (t v : List Node) (n m c d : Nat) (path : ByteArray) (w : World) (hR : Row w p t) (hV : Row w q v) (hn : t.length = n) (hm : v.length = m) (hc : n ≤ c) (hd : m ≤ d) (hcm : c ≤ maxLen) (hdm : d ≤ maxLen) (hpn : p = none → t = [] ∧ c = 0) (hqn : q = none → v = [])
    (hFT : Fits t) (hFV : Fits v) (hT : Tabs w) (x : List Node) (code : Int) (hx : (putR t path v).1 = x) (hc2 : (putR t path v).2 = code) :
    Calls Tryd.prog 20 #[.slice p n c, .string path, .slice q m d] w (PutP (x, code) w) := by
  have e : putR t path v = (x, code) := by rw [← hx, ← hc2]
  rw [← e]; exact put_any p q t v n m c d path w hR hV hn hm hc hd hcm hdm hpn hqn hFT hFV hT
theorem putR_fits (t : List Node) (path : ByteArray) (v : List Node) : Fits (putR t path v).1 ∧ (putR t path v).1.length ≤ 1000 := by
  rcases putR_cases t path v with ⟨_, h⟩ | ⟨_, h⟩
  · rw [h]; exact ⟨(fun x hx => by cases hx), by simp⟩
  · exact ⟨fits_put h.okx, okTree_len h.okx⟩
set_option maxRecDepth 100000 in
set_option maxHeartbeats 8000000 in
theorem moves_any (p : Option Addr) (t : List Node) (n c : Nat) (fr dst : ByteArray) (w : World) (hR : Row w p t) (hn : t.length = n) (hc : n ≤ c) (hcm : c ≤ maxLen) (hpn : p = none → t = [] ∧ c = 0) (hFT : Fits t) (hfs : fr.size ≤ 1048576) (hds : dst.size ≤ 1048576) (hT : Tabs w) :
    Calls Tryd.prog 6 #[.slice p n c, .string fr, .string dst] w fun e w' => e = .returned (.bool true) ∧ Off [] w w' := by
  have HN := Lib.hid hn
  have HRW := Lib.hid (fun (W : World) (ho : Off [] w W) => hR.off ho)
  have HAT := Lib.hid (fun (W : World) (ho : Off [] w W) => at_any p t n c fr W (hR.off ho) hn hc hcm hpn hFT (hT.off ho))
  have HPN := Lib.hid hpn
  have HFT := Lib.hid hFT
  have hE : fr.toList = [] ↔ str fr = [] := by rw [toList_str]
  clear hn hR hpn hFT
  obtain ⟨V, hV⟩ : ∃ V, atR t (str fr) = V := ⟨_, rfl⟩
  have hFV : Fits V := by rw [← hV]; exact fits_atR
  have hVl : V.length ≤ 1001 := by rw [← hV]; exact atR_len
  have HV := Lib.hid hV
  have HFV := Lib.hid hFV
  rw [hV] at HAT
  clear hV hFV
  obtain ⟨m, hm⟩ : ∃ m, V.length = m := ⟨_, rfl⟩
  rw [hm] at hVl
  have HM := Lib.hid hm
  clear hm
  by_cases hm0 : m = 0
  · have hmb : ((m : Int) == 0) = true := by rw [hm0]; rfl
    clear hm0 hE
    go_enter Tryd.func6, Tryd.ntmps6
    go_wp2_with fail
    refine (awake_any _ hT).mono ?_
    rintro e w1 ⟨rfl, ho⟩
    go_wp2_with fail
    refine (HAT.out _ ho).mono ?_
    rintro e w2 ⟨x, rfl, hown, ho2⟩
    obtain ⟨pv, cv, rfl, -⟩ := own_row hown
    rw [HM.out]
    have ho := ho.trans_nil ho2
    clear ho2 hown
    go_wp2_with fail
    go_ret
    exact ⟨rfl, ho⟩
  have hmb : ((m : Int) == 0) = false := beq_eq_false_iff_ne.2 (by omega)
  have HVN := Lib.hid (show V ≠ [] from fun e => hm0 (by rw [← HM.out, e]; rfl))
  clear hm0
  by_cases hf0 : str fr = []
  · have g := hE.2 hf0
    have g' : fr.toList.isEmpty = true := by simp [g]
    clear hE hf0
    go_enter Tryd.func6, Tryd.ntmps6
    go_wp2_with fail
    refine (awake_any _ hT).mono ?_
    rintro e w1 ⟨rfl, ho⟩
    go_wp2_with fail
    refine (HAT.out _ ho).mono ?_
    rintro e w2 ⟨x, rfl, hown, ho2⟩
    obtain ⟨pv, cv, rfl, -⟩ := own_row hown
    rw [HM.out]
    have ho := ho.trans_nil ho2
    clear ho2 hown
    go_wp2_with fail
    go_ret
    exact ⟨rfl, ho⟩
  have g : ¬ fr.toList = [] := fun e => hf0 (hE.1 e)
  have g' : fr.toList.isEmpty = false := by simpa using g
  have HF0 := Lib.hid hf0
  clear hE hf0
  cases hw1 : within (str dst) (str fr)
  case true =>
    have HW1 := Lib.hid hw1
    clear hw1
    go_enter Tryd.func6, Tryd.ntmps6
    go_wp2_with fail
    refine (awake_any _ hT).mono ?_
    rintro e w1 ⟨rfl, ho⟩
    go_wp2_with fail
    refine (HAT.out _ ho).mono ?_
    rintro e w2 ⟨x, rfl, hown, ho2⟩
    obtain ⟨pv, cv, rfl, -⟩ := own_row hown
    rw [HM.out]
    have ho := ho.trans_nil ho2
    clear ho2 hown
    go_wp2_with fail
    refine (rwithinM_v dst fr _ hds hfs true HW1.out).mono ?_
    rintro e w3 ⟨rfl, ho2⟩
    go_wp2_with fail
    go_ret
    exact ⟨rfl, ho.trans_nil ho2⟩
  have HW1 := Lib.hid hw1
  clear hw1
  cases hw2 : within (str fr) (str dst)
  case true =>
    have HW2 := Lib.hid hw2
    clear hw2
    go_enter Tryd.func6, Tryd.ntmps6
    go_wp2_with fail
    refine (awake_any _ hT).mono ?_
    rintro e w1 ⟨rfl, ho⟩
    go_wp2_with fail
    refine (HAT.out _ ho).mono ?_
    rintro e w2 ⟨x, rfl, hown, ho2⟩
    obtain ⟨pv, cv, rfl, -⟩ := own_row hown
    rw [HM.out]
    have ho := ho.trans_nil ho2
    clear ho2 hown
    go_wp2_with fail
    refine (rwithinM_v dst fr _ hds hfs false HW1.out).mono ?_
    rintro e w3 ⟨rfl, ho2⟩
    have ho := ho.trans_nil ho2
    clear ho2
    go_wp2_with fail
    refine (rwithinM_v fr dst _ hfs hds true HW2.out).mono ?_
    rintro e w4 ⟨rfl, ho2⟩
    go_wp2_with fail
    go_ret
    exact ⟨rfl, ho.trans_nil ho2⟩
  have HW2 := Lib.hid hw2
  clear hw2
  have HPD := Lib.hid (fun (W : World) (ho : Off [] w W) (q : Option Addr) (d : Nat) (hq : Row W q V) (hd : m ≤ d) (hdm : d ≤ maxLen) (hqn : q = none → V = []) (x : List Node) (code : Int) (hx : (putR t dst V).1 = x) (hc2 : (putR t dst V).2 = code) => put_w p q t V n m c d dst W (HRW.out W ho) hq HN.out HM.out hc hd hcm hdm HPN.out hqn HFT.out HFV.out (hT.off ho) x code hx hc2)
  have HPF := Lib.hid (fun (W : World) (ho : Off [] w W) (x : List Node) (code : Int) (hx : (putR t fr []).1 = x) (hc2 : (putR t fr []).2 = code) => put_w p none t [] n 0 c 0 fr W (HRW.out W ho) (fun h => absurd rfl h) HN.out rfl hc (Nat.le_refl _) hcm (by decide) HPN.out (fun _ => rfl) HFT.out (fun x hx => by cases hx) (hT.off ho) x code hx hc2)
  obtain ⟨A, hA⟩ : ∃ A, (putR t dst V).1 = A := ⟨_, rfl⟩
  obtain ⟨ca, hca⟩ : ∃ ca, (putR t dst V).2 = ca := ⟨_, rfl⟩
  obtain ⟨B, hB⟩ : ∃ B, (putR t fr []).1 = B := ⟨_, rfl⟩
  obtain ⟨cb, hcb⟩ : ∃ cb, (putR t fr []).2 = cb := ⟨_, rfl⟩
  have hfA := putR_fits t dst V
  have hfB := putR_fits t fr []
  rw [hA] at hfA
  rw [hB] at hfB
  have HA := Lib.hid hA
  have HCA := Lib.hid hca
  have HB := Lib.hid hB
  have HCB := Lib.hid hcb
  have HFA := Lib.hid hfA
  have HFB := Lib.hid hfB
  clear hA hca hB hcb hfA hfB
  by_cases hca0 : ca = 0
  case neg =>
    have hcab : (ca == 0) = false := beq_eq_false_iff_ne.2 hca0
    have hcan : (ca != 0) = true := by unfold bne; rw [hcab]; rfl
    clear hca0
    go_enter Tryd.func6, Tryd.ntmps6
    go_wp2_with fail
    refine (awake_any _ hT).mono ?_
    rintro e w1 ⟨rfl, ho⟩
    go_wp2_with fail
    refine (HAT.out _ ho).mono ?_
    rintro e w2 ⟨x, rfl, hown, ho2⟩
    obtain ⟨pv, cv, rfl, hrV, hcV, hmV, hnV⟩ := own_all hown
    rw [HM.out] at hcV ⊢
    have HRV := Lib.hid (fun (W : World) (ho : Off [] w2 W) => hrV.off ho)
    have ho := ho.trans_nil ho2
    have HNV := Lib.hid (fun h => (hnV h).1)
    have HO := Lib.hid ho
    clear ho ho2 hown hrV hnV
    go_wp2_with fail
    refine (rwithinM_v dst fr _ hds hfs false HW1.out).mono ?_
    rintro e w3 ⟨rfl, ho⟩
    go_wp2_with fail
    refine (rwithinM_v fr dst _ hfs hds false HW2.out).mono ?_
    rintro e w4 ⟨rfl, ho2⟩
    have ho := ho.trans_nil ho2
    clear ho2
    go_wp2_with fail
    refine (HPD.out _ (HO.out.trans_nil ho) pv cv (HRV.out _ ho) hcV hmV HNV.out A ca HA.out HCA.out).mono ?_
    rintro e w5 ⟨x, rfl, hown, ho2⟩
    obtain ⟨pA, cA, rfl, -⟩ := own_row hown
    have ho := ho.trans_nil ho2
    clear ho2 hown
    go_wp2_with fail
    refine (HPF.out _ (HO.out.trans_nil ho) B cb HB.out HCB.out).mono ?_
    rintro e w6 ⟨x, rfl, hown, ho2⟩
    obtain ⟨pB, cB, rfl, -⟩ := own_row hown
    have ho := ho.trans_nil ho2
    clear ho2 hown
    go_wp2_with fail
    go_ret
    exact ⟨by first | rfl | (rw [hcan]; rfl), HO.out.trans_nil ho⟩
  subst hca0
  obtain ⟨k1, k2, k3, k4, k5, k6⟩ := moves (t := t) (from_ := fr) (dst := dst) (by rw [HV.out]; exact HVN.out) HF0.out HW1.out HW2.out (by rw [HV.out]; exact HCA.out)
  rw [HV.out] at k2 k3 k4 k5 k6
  rw [HA.out] at k2 k4 k5 k6
  rw [HB.out] at k3 k4
  have hcb0 : cb = 0 := by rw [← HCB.out]; exact k1
  subst hcb0
  obtain ⟨C, hC⟩ : ∃ C, (putR A fr []).1 = C := ⟨_, rfl⟩
  have hfC := putR_fits A fr []
  rw [hC] at k4 k5 k6 hfC
  have HC := Lib.hid hC
  have K2 := Lib.hid k2
  have K3 := Lib.hid k3
  have K4 := Lib.hid k4.symm
  have K5 := Lib.hid k5
  have K6 := Lib.hid k6
  have HFC := Lib.hid hfC
  clear k1 k2 k3 k4 k5 k6 hC hfC
  go_enter Tryd.func6, Tryd.ntmps6
  go_wp2_with fail
  refine (awake_any _ hT).mono ?_
  rintro e w1 ⟨rfl, ho⟩
  go_wp2_with fail
  refine (HAT.out _ ho).mono ?_
  rintro e w2 ⟨x, rfl, hown, ho2⟩
  obtain ⟨pv, cv, rfl, hrV, hcV, hmV, hnV⟩ := own_all hown
  rw [HM.out] at hcV ⊢
  have HRV := Lib.hid (fun (W : World) (ho : Off [] w2 W) => hrV.off ho)
  have ho := ho.trans_nil ho2
  have HNV := Lib.hid (fun h => (hnV h).1)
  have HO := Lib.hid ho
  have HTW := Lib.hid (fun (W : World) (hw : Off [] w2 W) => hT.off (HO.out.trans_nil hw))
  clear ho ho2 hown hrV hnV
  go_wp2_with fail
  refine (rwithinM_v dst fr _ hds hfs false HW1.out).mono ?_
  rintro e w3 ⟨rfl, ho⟩
  go_wp2_with fail
  refine (rwithinM_v fr dst _ hfs hds false HW2.out).mono ?_
  rintro e w4 ⟨rfl, ho2⟩
  have ho := ho.trans_nil ho2
  clear ho2
  go_wp2_with fail
  refine (HPD.out _ (HO.out.trans_nil ho) pv cv (HRV.out _ ho) hcV hmV HNV.out A 0 HA.out HCA.out).mono ?_
  rintro e w5 ⟨x, rfl, hown, ho2⟩
  have ho := ho.trans_nil ho2
  obtain ⟨pA, cA, rfl, hrA, hcA, hmA, hnA⟩ := own_all hown
  have HRA := Lib.hid (fun (W : World) (ho : Off [] w5 W) => hrA.off ho)
  have HNA := Lib.hid hnA
  have HO5 := Lib.hid ho
  clear ho ho2 hown hrA hnA
  obtain ⟨a1, ha1⟩ : ∃ a1, A.length = a1 := ⟨_, rfl⟩
  dsimp only at hcA HNA ⊢
  rw [ha1] at hcA ⊢
  have HLA := Lib.hid ha1
  clear ha1
  go_wp2_with fail
  refine (HPF.out _ (HO.out.trans_nil HO5.out) B 0 HB.out HCB.out).mono ?_
  rintro e w6 ⟨x, rfl, hown, ho⟩
  obtain ⟨pB, cB, rfl, hrB, hcB, hmB, hnB⟩ := own_all hown
  have HRB := Lib.hid (fun (W : World) (ho : Off [] w6 W) => hrB.off ho)
  have HNB := Lib.hid hnB
  have HO6 := Lib.hid ho
  clear ho hown hrB hnB
  obtain ⟨b1, hb1⟩ : ∃ b1, B.length = b1 := ⟨_, rfl⟩
  dsimp only at hcB HNB ⊢
  rw [hb1] at hcB ⊢
  have HLB := Lib.hid hb1
  clear hb1
  go_wp2_with fail
  refine (put_w pA none A [] a1 0 cA 0 fr w6 (HRA.out _ HO6.out) (fun h => absurd rfl h) HLA.out rfl hcA (Nat.le_refl _) hmA (by decide) HNA.out (fun _ => rfl) HFA.out.1 (fun x hx => by cases hx) (HTW.out _ (HO5.out.trans_nil HO6.out)) C 0 HC.out K2.out).mono ?_
  rintro e w7 ⟨x, rfl, hown, ho⟩
  obtain ⟨pC, cC, rfl, hrC, hcC, hmC, hnC⟩ := own_all hown
  have HRC := Lib.hid (fun (W : World) (ho : Off [] w7 W) => hrC.off ho)
  have HNC := Lib.hid hnC
  have HO7 := Lib.hid ho
  clear ho hown hrC hnC
  obtain ⟨c1, hc1⟩ : ∃ c1, C.length = c1 := ⟨_, rfl⟩
  dsimp only at hcC HNC ⊢
  rw [hc1] at hcC ⊢
  have hc1l : c1 ≤ 1000 := by rw [← hc1]; exact HFC.out.2
  have HLC := Lib.hid hc1
  clear hc1
  go_wp2_with fail
  refine (put_w pB pv B V b1 m cB cv dst w7 (HRB.out _ HO7.out) (HRV.out _ (HO5.out.trans_nil (HO6.out.trans_nil HO7.out))) HLB.out HM.out hcB hcV hmB hmV HNB.out HNV.out HFB.out.1 HFV.out (HTW.out _ (HO5.out.trans_nil (HO6.out.trans_nil HO7.out))) C 0 K4.out K3.out).mono ?_
  rintro e w8 ⟨x, rfl, hown, ho⟩
  obtain ⟨pD, cD, rfl, hrD, hcD, hmD, hnD⟩ := own_all hown
  dsimp only at hrD ⊢
  rw [HLC.out]
  have HSM := Lib.hid (same_v C C pC pD c1 c1 cC cD w8 HLC.out HLC.out (by omega) (by omega) (HRC.out _ ho) hrD true (decide_eq_true rfl))
  have HO8 := Lib.hid ho
  clear ho hown hrD hnD hcD hmD
  go_wp2_with fail
  refine HSM.out.mono ?_
  rintro e w9 ⟨rfl, ho⟩
  go_wp2_with fail
  refine (at_any pC C c1 cC fr _ (HRC.out _ (HO8.out.trans_nil ho)) HLC.out hcC hmC HNC.out HFC.out.1 (HTW.out _ (HO5.out.trans_nil (HO6.out.trans_nil (HO7.out.trans_nil (HO8.out.trans_nil ho)))))).mono ?_
  rintro e w10 ⟨x, rfl, hown, ho2⟩
  rw [K5.out] at hown
  obtain ⟨pE, cE, rfl, -⟩ := own_row hown
  have ho := ho.trans_nil ho2
  clear ho2 hown
  go_wp2_with fail
  refine (at_any pC C c1 cC dst _ (HRC.out _ (HO8.out.trans_nil ho)) HLC.out hcC hmC HNC.out HFC.out.1 (HTW.out _ (HO5.out.trans_nil (HO6.out.trans_nil (HO7.out.trans_nil (HO8.out.trans_nil ho)))))).mono ?_
  rintro e w11 ⟨x, rfl, hown, ho2⟩
  rw [K6.out] at hown
  obtain ⟨pF, cF, rfl, hrF, -, -, -⟩ := own_all hown
  rw [HM.out]
  have ho := ho.trans_nil ho2
  have HSV := Lib.hid (same_v V V pF pv m m cF cv w11 HM.out HM.out (by omega) (by omega) hrF (HRV.out _ (HO5.out.trans_nil (HO6.out.trans_nil (HO7.out.trans_nil (HO8.out.trans_nil ho))))) true (decide_eq_true rfl))
  have HO11 := Lib.hid ho
  clear ho ho2 hown hrF
  go_wp2_with fail
  refine HSV.out.mono ?_
  rintro e w12 ⟨rfl, ho⟩
  go_wp2_with fail
  go_ret
  exact ⟨rfl, HO.out.trans_nil (HO5.out.trans_nil (HO6.out.trans_nil (HO7.out.trans_nil (HO8.out.trans_nil (HO11.out.trans_nil ho)))))⟩
end Go.Proofs.YtpaeihdkggbeoaaDoor
