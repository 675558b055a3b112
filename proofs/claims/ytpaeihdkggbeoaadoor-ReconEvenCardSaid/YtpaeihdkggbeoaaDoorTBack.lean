/- hawserlaw06.TreeBack: the walk. Conditions: the tables of unicode/utf8 are laid. -/
import Derived.Test.YtpaeihdkggbeoaaDoorAt
import Derived.Test.YtpaeihdkggbeoaaDoorTPairs
namespace Go.Proofs.YtpaeihdkggbeoaaDoor
open Go.RowKit Go.Op

theorem fits_put {t : List Node} (h : okTree t = true) : Fits t := fun x hx => ⟨by have := okTree_small h hx; unfold maxLen; omega, by
  have h1 := okTree_right h hx
  unfold rightN at h1
  unfold maxLen
  split at h1
  · simp only [Bool.and_eq_true, decide_eq_true_eq] at h1; omega
  · split at h1
    · simp only [Bool.and_eq_true, decide_eq_true_eq] at h1; omega
    · split at h1
      · simp only [Bool.and_eq_true, decide_eq_true_eq] at h1; omega
      · cases h1⟩
theorem fits_atR {t : List Node} {q : Str} : Fits (atR t q) := by
  unfold atR
  split
  · rename_i h
    split
    · intro x hx
      rcases List.mem_cons.1 hx with rfl | hx
      · decide
      · exact fits_put h x hx
    · split
      · intro x hx
        obtain ⟨y, hy, rfl⟩ := List.mem_map.1 hx
        have := fits_put h y (mem_inAt.1 hy).1
        refine ⟨?_, this.2⟩
        show (bs (y.p.drop (q.length + 1))).size ≤ maxLen
        rw [bs_size, List.length_drop]
        have h2 : y.p.length = y.path.size := str_size y.path
        have := this.1
        omega
      · intro x hx; cases hx
  · intro x hx; cases hx
theorem atR_len {t : List Node} {q : Str} : (atR t q).length ≤ 1001 := by
  unfold atR
  split
  · rename_i h
    have := okTree_len h
    split
    · rw [List.length_cons]; omega
    · split
      · rw [List.length_map]
        have := filter_len t (fun n => within n.p q)
        unfold inAt; omega
      · simp
  · simp
theorem own_max {W : World} {base n : Nat} {p : Option Addr} {c : Nat} {xs : List Value} (h : W.ownsRow base 29 4 (.slice p n c) n xs) : c ≤ maxLen := by
  rcases h.2 with ⟨h0, _⟩ | ⟨_, _, _, hv, _, _, _, hmx, _⟩
  · cases h0; decide
  · cases hv; exact hmx
/-- what is made: a list of nodes of the call's own, with all that a further call asks of it -/
theorem own_all {W : World} {base : Nat} {v : Value} {t : List Node} (h : W.ownsRow base 29 4 v t.length (cellsOf t)) : ∃ p c, v = .slice p t.length c ∧ Row W p t ∧ t.length ≤ c ∧ c ≤ maxLen ∧ (p = none → t = [] ∧ c = 0) := by
  have h0 := h
  obtain ⟨p, c, rfl, hr, hc, hn, _⟩ := own_row h
  exact ⟨p, c, rfl, hr, hc, own_max h0, hn⟩
theorem same_v (L M : List Node) (p q : Option Addr) (n m c d : Nat) (w : World) (hn : L.length = n) (hm : M.length = m) (hL : n ≤ 1099511627776) (hM : m ≤ 1099511627776) (hp : Row w p L) (hq : Row w q M) (b : Bool) (hb : decide (L = M) = b) :
    Calls Tryd.prog 14 #[.slice p n c, .slice q m d] w fun e w' => e = .returned (.bool b) ∧ Off [] w w' := by
  subst hn; subst hm; subst hb
  exact same_any L M p q c d w hL hM hp hq
theorem differ_mem_within {t x v : List Node} {path s : ByteArray} (h : PutWell t path v x) (hs : s ∈ differR t x) : within (str s) (str path) = true := by
  unfold differR at hs
  rw [if_pos (by rw [h.tree, h.okx]; rfl)] at hs
  exact h.dif hs
set_option maxRecDepth 100000 in
set_option maxHeartbeats 8000000 in
theorem back_any (p q : Option Addr) (t v : List Node) (n m c d : Nat) (path : ByteArray) (w : World) (hR : Row w p t) (hV : Row w q v) (hn : t.length = n) (hm : v.length = m) (hc : n ≤ c) (hd : m ≤ d) (hcm : c ≤ maxLen) (hdm : d ≤ maxLen) (hpn : p = none → t = [] ∧ c = 0) (hqn : q = none → v = [] ∧ d = 0) (hFT : Fits t) (hFV : Fits v) (hT : Tabs w) :
    Calls Tryd.prog 7 #[.slice p n c, .string path, .slice q m d] w fun e w' => e = .returned (.bool true) ∧ Off [] w w' := by
  have HN := Lib.hid hn
  have HM := Lib.hid hm
  have HRW := Lib.hid (fun (W : World) (ho : Off [] w W) => hR.off ho)
  have HVW := Lib.hid (fun (W : World) (ho : Off [] w W) => hV.off ho)
  have HPUT := Lib.hid (fun (W : World) (ho : Off [] w W) => put_any p q t v n m c d path W (hR.off ho) (hV.off ho) hn hm hc hd hcm hdm hpn (fun h => (hqn h).1) hFT hFV (hT.off ho))
  have HAT := Lib.hid (fun (W : World) (ho : Off [] w W) => at_any p t n c path W (hR.off ho) hn hc hcm hpn hFT (hT.off ho))
  have HPN := Lib.hid hpn
  have HFT := Lib.hid hFT
  clear hn hm hR hV hpn hqn hFT hFV
  rcases putR_cases t path v with ⟨he, hx0⟩ | ⟨he, hw⟩
  · have HX0 := Lib.hid hx0
    obtain ⟨code, hcode⟩ : ∃ code, (putR t path v).2 = code := ⟨_, rfl⟩
    have hneq : ¬ code = 0 := by rw [← hcode]; exact he
    have hneb : (code == 0) = false := beq_eq_false_iff_ne.2 hneq
    have HC := Lib.hid hcode
    clear he hx0 hcode
    go_enter Tryd.func7, Tryd.ntmps7
    go_wp2_with fail
    refine (awake_any _ hT).mono ?_
    rintro e w1 ⟨rfl, ho⟩
    go_wp2_with fail
    refine (HPUT.out _ ho).mono ?_
    rintro e w2 ⟨x, rfl, hown, ho2⟩
    have ho := ho.trans_nil ho2
    clear ho2
    rw [HX0.out] at hown
    rw [HC.out]
    obtain ⟨px, cx, rfl, -⟩ := own_row hown
    clear hown
    go_wp2_with fail
    go_ret
    exact ⟨rfl, ho⟩
  have HW := Lib.hid hw
  have HE := Lib.hid he
  obtain ⟨X, hX⟩ : ∃ X, (putR t path v).1 = X := ⟨_, rfl⟩
  rw [hX] at HW
  have HX := Lib.hid hX
  have hps : path.size ≤ 400 := by rw [← str_size]; exact okPath_size hw.okp
  have hn1 : n ≤ 1000 := by rw [← HN.out]; exact okTree_len hw.tree
  have hm1 : m ≤ 1000 := by rw [← HM.out]; exact okVal_len hw.val
  clear hX hw he
  have hX1 : X.length ≤ 1000 := okTree_len HW.out.okx
  have HFX := Lib.hid (fits_put HW.out.okx)
  have HATX := Lib.hid HW.out.at_
  have HB1 := Lib.hid (put_same HW.out.tree HW.out.okp)
  have HB2 := Lib.hid HW.out.back
  have HCHK := Lib.hid (chkV_ok HW.out.okx)
  have HDM := Lib.hid (fun s (hs : s ∈ differR t X) => differ_mem_within HW.out hs)
  have hDl : (differR t X).length ≤ 2000 := by
    unfold differR
    split
    · have := differ_len _ t X (Nat.le_refl _); rw [HN.out] at this; omega
    · simp
  go_enter Tryd.func7, Tryd.ntmps7
  go_wp2_with fail
  refine (awake_any _ hT).mono ?_
  rintro e w1 ⟨rfl, ho⟩
  go_wp2_with fail
  refine (HPUT.out _ ho).mono ?_
  rintro e w2 ⟨xv, rfl, hownX, ho2⟩
  have ho := ho.trans_nil ho2
  clear ho2
  rw [HX.out] at hownX
  rw [HE.out]
  obtain ⟨px, cx, rfl, hrX, hcX, hmX, hnX⟩ := own_all hownX
  obtain ⟨N, hN⟩ : ∃ N, X.length = N := ⟨_, rfl⟩
  rw [hN] at hownX hcX hX1 ⊢
  have HNX := Lib.hid hN
  have HRX := Lib.hid (fun (W : World) (hw : Off [] w2 W) => hrX.off hw)
  have HNNX := Lib.hid hnX
  have HO2 := Lib.hid ho
  clear hN hownX hrX hnX ho
  have HTW := Lib.hid (fun (W : World) (hw : Off [] w2 W) => hT.off (HO2.out.trans_nil hw))
  have HATW := Lib.hid (fun (W : World) (hw : Off [] w2 W) => HAT.out W (HO2.out.trans_nil hw))
  go_wp2_with fail
  refine (check_v px X N cx _ (HRX.out _ (Off.refl _ _)) HNX.out hcX (by omega) HFX.out (HTW.out _ (Off.refl _ _)) 0 HCHK.out).mono ?_
  rintro e w3 ⟨rfl, ho⟩
  go_wp2_with fail
  refine (at_any px X N cx path _ (HRX.out _ ho) HNX.out hcX hmX HNNX.out HFX.out (HTW.out _ ho)).mono ?_
  rintro e w4 ⟨av, rfl, hownA, ho2⟩
  have ho := ho.trans_nil ho2
  clear ho2
  rw [HATX.out] at hownA
  obtain ⟨pa, ca, rfl, hrA, hcA, hmA, hnA⟩ := own_all hownA
  have HSM := Lib.hid (same_v v v pa q m m ca d w4 HM.out HM.out (by omega) (by omega) hrA (HVW.out _ (HO2.out.trans_nil ho)) true (decide_eq_true rfl))
  rw [HM.out]
  clear hownA hrA hcA hmA hnA
  go_wp2_with fail
  refine HSM.out.mono ?_
  rintro e w5 ⟨rfl, ho2⟩
  have ho := ho.trans_nil ho2
  clear ho2
  go_wp2_with fail
  refine (differ_any p px t X n N c cx w5 (HRW.out _ (HO2.out.trans_nil ho)) (HRX.out _ ho) HN.out HNX.out hc hcX hcm hmX HPN.out HNNX.out HFT.out HFX.out (HTW.out _ ho)).mono ?_
  rintro e w6 ⟨dv, rfl, hownD, ho2⟩
  obtain ⟨pd, cd, rfl, hpd⟩ := own_strs hownD
  have HPD : Hid (Strs w6 pd (differR t X)) := Lib.hid hpd
  have HO6 := Lib.hid (ho.trans_nil ho2)
  clear hownD hpd ho ho2
  obtain ⟨K, hK⟩ : ∃ K, (differR t X).length = K := ⟨_, rfl⟩
  rw [hK] at hDl ⊢
  have HK := Lib.hid hK
  clear hK
  go_wp2_with fail
  go_loopw [44] (fun x wr => ∃ k : Nat, x = .int .i64 k ∧ k ≤ K ∧ Off [] w6 wr) (fun x _ => K - (intOf x).toNat)
  case atStart => exact ⟨0, rfl, by omega, Off.refl _ _⟩
  case round =>
    obtain ⟨k, rfl, hk, hof⟩ := hrel
    by_cases hkK : k < K
    · have hkl : k < (differR t X).length := by rw [HK.out]; exact hkK
      have hsk := List.getElem?_eq_getElem hkl
      have hmem := HDM.out _ (List.getElem_mem hkl)
      generalize (differR t X)[k] = s at *
      obtain ⟨g, rfl, hg, hcell⟩ := (HPD.out.off hof) k s hsk
      have HIN := Lib.hid hmem
      have hss : s.size ≤ 1048576 := by
        have := (within_pre HW.out.okp hmem).1
        have := okPath_size this
        rw [str_size] at this
        omega
      clear hsk hmem
      go_wp2_with fail
      refine (rwithin_any s path _ hss (by omega)).mono ?_
      rintro e w7 ⟨rfl, ho7⟩
      rw [HIN.out]
      have hof := hof.trans_nil ho7
      clear ho7 hcell
      go_wp2_with fail
      exact ⟨⟨k + 1, by congr 1, by omega, hof⟩, by simp only [intOf]; omega⟩
    · obtain rfl : k = K := by omega
      have ho := HO6.out.trans_nil hof
      clear hof
      go_wp2_with fail
      refine (HATW.out _ ho).mono ?_
      rintro e w8 ⟨bv, rfl, hownB, ho2⟩
      have ho := ho.trans_nil ho2
      clear ho2
      obtain ⟨pb, cb, rfl, hrB, hcB, hmB, hnB⟩ := own_all hownB
      have hBl := atR_len (t := t) (q := str path)
      have HPB := Lib.hid (put_any p pb t (atR t (str path)) n _ c cb path w8 (HRW.out _ (HO2.out.trans_nil ho)) hrB HN.out rfl hc hcB hcm hmB HPN.out (fun h => (hnB h).1) HFT.out fits_atR (HTW.out _ ho))
      rw [HB1.out] at HPB
      generalize (atR t (str path)).length = nb at *
      clear hownB hrB hnB
      go_wp2_with fail
      refine HPB.out.mono ?_
      rintro e w9 ⟨yv, rfl, hownY, ho2⟩
      have ho := ho.trans_nil ho2
      have hownY := own_keep hownY (Off.refl _ _)
      obtain ⟨py, cy, rfl, hrY, -, -, -⟩ := own_all hownY
      have HRY := Lib.hid (fun (W : World) (hw : Off [] w9 W) => hrY.off hw)
      have HO9 := Lib.hid ho
      clear ho ho2 hownY hrY HPB
      rw [HN.out]
      go_wp2_with fail
      refine (HATW.out _ HO9.out).mono ?_
      rintro e w10 ⟨bv, rfl, hownB, ho2⟩
      obtain ⟨pb, cb, rfl, hrB, hcB, hmB, hnB⟩ := own_all hownB
      have HPB := Lib.hid (put_any px pb X (atR t (str path)) N _ cx cb path w10 (HRX.out _ (HO9.out.trans_nil ho2)) hrB HNX.out rfl hcX hcB hmX hmB HNNX.out (fun h => (hnB h).1) HFX.out fits_atR (HTW.out _ (HO9.out.trans_nil ho2)))
      rw [HB2.out] at HPB
      generalize (atR t (str path)).length = nb at *
      clear hownB hrB hnB
      go_wp2_with fail
      refine HPB.out.mono ?_
      rintro e w11 ⟨zv, rfl, hownZ, ho3⟩
      have ho := ho2.trans_nil ho3
      obtain ⟨pz, cz, rfl, hrZ, -, -, -⟩ := own_all hownZ
      have HRZ := Lib.hid (fun (W : World) (hw : Off [] w11 W) => hrZ.off hw)
      clear ho2 ho3 hownZ hrZ HPB
      rw [HN.out]
      go_wp2_with fail
      refine (same_v t t py p n n cy c w11 HN.out HN.out (by omega) (by omega) (HRY.out _ ho) (HRW.out _ (HO2.out.trans_nil (HO9.out.trans_nil ho))) true (decide_eq_true rfl)).mono ?_
      rintro e w12 ⟨rfl, ho2⟩
      go_wp2_with fail
      refine (same_v t t pz p n n cz c w12 HN.out HN.out (by omega) (by omega) (HRZ.out _ ho2) (HRW.out _ (HO2.out.trans_nil (HO9.out.trans_nil (ho.trans_nil ho2)))) true (decide_eq_true rfl)).mono ?_
      rintro e w13 ⟨rfl, ho3⟩
      go_wp2_with fail
      go_ret
      exact ⟨rfl, HO2.out.trans_nil (HO9.out.trans_nil ((ho.trans_nil ho2).trans_nil ho3))⟩
end Go.Proofs.YtpaeihdkggbeoaaDoor
