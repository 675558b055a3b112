/- tree.Put: the walk. Conditions: what the contract states. -/
import Derived.Test.YtpaeihdkggbeoaaDoorPut
namespace Go.Proofs.YtpaeihdkggbeoaaDoor
open Go.RowKit Go.Op

theorem put_bad1 {t : List Node} {path : ByteArray} {v : List Node} (h : (okTree t && okVal v) = false) : putR t path v = ([], 60) := by unfold putR; rw [h]; rfl
theorem put_bad2 {t : List Node} {path : ByteArray} {v : List Node} (h : (okTree t && okVal v) = true) (h2 : okPath (str path) = false) : putR t path v = ([], 11) := by unfold putR; rw [if_pos h, h2]; rfl
theorem put_bad3 {t : List Node} {path : ByteArray} {v : List Node} (h : (okTree t && okVal v) = true) (h2 : okPath (str path) = true) (h3 : (v.isEmpty || isDir t (parent (str path))) = false) : putR t path v = ([], 62) := by unfold putR; rw [if_pos h, if_pos h2, h3]; rfl
theorem put_rest {t : List Node} {path : ByteArray} {v : List Node} (h : (okTree t && okVal v) = true) (h2 : okPath (str path) = true) (h3 : (v.isEmpty || isDir t (parent (str path))) = true) : putR t path v = putC t path v := by unfold putR putC; rw [if_pos h, if_pos h2, if_pos h3]
theorem tright_v (p : Option Addr) (v : List Node) (n cap : Nat) (w : World) (hR : Row w p v) (hn : v.length = n) (hcap : n ≤ cap) (hcm : cap ≤ maxLen) (hF : Fits v) (hT : Tabs w) (b : Bool) (hb : okVal v = b) :
    Calls Tryd.prog 39 #[.slice p n cap] w fun e w' => e = .returned (.bool b) ∧ Off [] w w' := hb ▸ tright_any p v n cap w hR hn hcap hcm hF hT
theorem okVal_len {v : List Node} (h : okVal v = true) : v.length ≤ 1000 := by
  rcases Nat.lt_or_ge 1000 v.length with h1 | h1
  · rw [okVal_bad_len h1] at h; cases h
  · exact h1
theorem PutP.mono {r : List Node × Int} {w w0 : World} (ho : Off [] w w0) {e : Ending} {w' : World} (h : PutP r w0 e w') : PutP r w e w' := by
  obtain ⟨x, he, hown, ho2⟩ := h
  exact ⟨x, he, own_base hown ho.size, ho.trans_nil ho2⟩
set_option maxRecDepth 100000 in
set_option maxHeartbeats 8000000 in
theorem put_any (p q : Option Addr) (t v : List Node) (n m c d : Nat) (path : ByteArray) (w : World) (hR : Row w p t) (hV : Row w q v) (hn : t.length = n) (hm : v.length = m) (hc : n ≤ c) (hd : m ≤ d) (hcm : c ≤ maxLen) (hdm : d ≤ maxLen) (hpn : p = none → t = [] ∧ c = 0) (hqn : q = none → v = [])
    (hFT : Fits t) (hFV : Fits v) (hT : Tabs w) :
    Calls Tryd.prog 20 #[.slice p n c, .string path, .slice q m d] w (PutP (putR t path v) w) := by
  have HN := Lib.hid hn
  have HM := Lib.hid hm
  have HRC := Lib.hid (fun (W : World) (ho : Off [] w W) (v : Int) (hv : chkV t = v) => check_v p t n c W (hR.off ho) hn hc (by omega) hFT (hT.off ho) v hv)
  have HRT := Lib.hid (fun (W : World) (ho : Off [] w W) (b : Bool) (hb : okVal v = b) => tright_v q v m d W (hV.off ho) hm hd hdm hFV (hT.off ho) b hb)
  have HB := Lib.hid (Blk.new w 64 #[.slice p n c, .string path])
  have HO := Lib.hid ((Off.refl [] w).alloc (.cells #[.slice p n c, .string path] 64))
  cases hokT : okTree t
  · have E := Lib.hid (put_bad1 (t := t) (path := path) (v := v) (by rw [hokT]; rfl))
    have HOT := Lib.hid hokT
    clear hokT hn hm hR hV hFT hFV hpn hqn
    go_enter Tryd.func20, Tryd.ntmps20
    go_wp2_with fail
    refine (HRC.out _ HO.out 60 (chkV_bad HOT.out)).mono ?_
    rintro e w1 ⟨rfl, ho⟩
    have ho := HO.out.trans_nil ho
    go_wp2_with fail
    go_ret2
    rw [E.out]; exact PutP.bad ho
  have HOT := Lib.hid hokT
  clear hokT
  cases hokV : okVal v
  · have E := Lib.hid (put_bad1 (t := t) (path := path) (v := v) (by rw [hokV, HOT.out]; rfl))
    have HOV := Lib.hid hokV
    clear hokV hn hm hR hV hFT hFV hpn hqn
    go_enter Tryd.func20, Tryd.ntmps20
    go_wp2_with fail
    refine (HRC.out _ HO.out 0 (chkV_ok HOT.out)).mono ?_
    rintro e w1 ⟨rfl, ho⟩
    have ho := HO.out.trans_nil ho
    go_wp2_with fail
    refine (HRT.out _ ho false HOV.out).mono ?_
    rintro e w2 ⟨rfl, ho2⟩
    have ho := ho.trans_nil ho2
    clear ho2
    go_wp2_with fail
    go_ret2
    rw [E.out]; exact PutP.bad ho
  have HOV := Lib.hid hokV
  have HTV := Lib.hid (show (okTree t && okVal v) = true by rw [HOT.out, hokV]; rfl)
  have hm1 : m ≤ 1000 := by rw [← HM.out]; exact okVal_len hokV
  have hn1 : n ≤ 1000 := by rw [← HN.out]; exact okTree_len HOT.out
  clear hokV
  cases hokP : okPath (str path)
  · have E := Lib.hid (put_bad2 (t := t) (path := path) (v := v) HTV.out hokP)
    have HOP := Lib.hid hokP
    clear hokP hn hm hR hV hFT hFV hpn hqn
    go_enter Tryd.func20, Tryd.ntmps20
    go_wp2_with fail
    refine (HRC.out _ HO.out 0 (chkV_ok HOT.out)).mono ?_
    rintro e w1 ⟨rfl, ho⟩
    have ho := HO.out.trans_nil ho
    go_wp2_with fail
    refine (HRT.out _ ho true HOV.out).mono ?_
    rintro e w2 ⟨rfl, ho2⟩
    have ho := ho.trans_nil ho2
    clear ho2
    go_wp2_with fail
    refine (path_v path _ (hT.off ho) false HOP.out).mono ?_
    rintro e w3 ⟨rfl, ho2⟩
    have ho := ho.trans_nil ho2
    clear ho2
    go_wp2_with fail
    go_ret2
    rw [E.out]; exact PutP.bad ho
  have HOP := Lib.hid hokP
  have hps : path.size ≤ 400 := by rw [← str_size]; exact okPath_size hokP
  have HCP := Lib.hid (fun (W : World) (ho : Off [] w W) => cput_any p q t v n m c d path W (hR.off ho) (hV.off ho) hn hm hc hcm hpn hqn hn1 hm1 HOT.out hokP (fun x hx => okVal_small HOV.out hx) (hT.off ho))
  have hpsz : (bs (parent (str path))).size ≤ maxLen := by have := bs_parent_size path; unfold maxLen; omega
  have HDI := Lib.hid (fun (W : World) (ho : Off [] w W) (b : Bool) (hb : isDir t (str (bs (parent (str path)))) = b) => dir_v p t n c (bs (parent (str path))) W (hR.off ho) hn (by omega) (okTree_sorted HOT.out) hFT hpsz b hb)
  have HPA := Lib.hid (fun (W : World) (ho : Off [] w W) => parent_any path W (by omega) (hT.off ho))
  clear hokP hn hm hR hV hFT hFV hpn hqn
  by_cases hm0 : m = 0
  · have hv0 : v = [] := List.length_eq_zero_iff.1 (by rw [HM.out]; exact hm0)
    have E := Lib.hid (put_rest (t := t) (path := path) (v := v) HTV.out HOP.out (by rw [hv0]; rfl))
    clear hv0
    have hmzd : decide (0 < m) = false := decide_eq_false (by omega)
    have hmzi : decide ((0 : Int) < (m : Int)) = false := decide_eq_false (by omega)
    clear hm0
    go_enter Tryd.func20, Tryd.ntmps20
    go_wp2_with fail
    refine (HRC.out _ HO.out 0 (chkV_ok HOT.out)).mono ?_
    rintro e w1 ⟨rfl, ho⟩
    have hB := HB.out.off ho (by simp)
    have ho := HO.out.trans_nil ho
    go_wp2_with fail
    refine (HRT.out _ ho true HOV.out).mono ?_
    rintro e w2 ⟨rfl, ho2⟩
    have hB := hB.off ho2 (by simp)
    have ho := ho.trans_nil ho2
    clear ho2
    go_wp2_with fail
    refine (path_v path _ (hT.off ho) true HOP.out).mono ?_
    rintro e w3 ⟨rfl, ho2⟩
    have hB := hB.off ho2 (by simp)
    have ho := ho.trans_nil ho2
    clear ho2
    go_wp2_with fail
    refine code_gen (fun W => Off [] w W ∧ Blk W w.heap.size 64 #[.slice p n c, .string path]) ⟨ho, hB⟩ ?_
    rintro W ⟨hoE, hBE⟩
    clear hB ho
    have hcE := hBE.cell
    have hlE := hBE.lt
    go_quiet (fail)
    have hoE := hoE.drewN nq
    have hBE := hBE.drewN nq
    clear hcE hlE
    generalize W.drewN nq = W2 at *
    have hcE := hBE.cell
    have hlE := hBE.lt
    go_wp2_with fail
    refine (HCP.out _ hoE).mono ?_
    rintro e w6 ⟨x, rfl, hownx, hox⟩
    go_wp2_with fail
    go_ret2
    rw [E.out]
    exact ⟨_, rfl, own_base hownx hoE.size, hoE.trans_nil hox⟩
  · have hmp : 0 < m := by omega
    have hve : v.isEmpty = false := by
      cases v with
      | nil => exact absurd HM.out.symm hm0
      | cons _ _ => rfl
    have HVE := Lib.hid hve
    clear hve hm0
    cases hd0 : isDir t (parent (str path))
    · have E := Lib.hid (put_bad3 (t := t) (path := path) (v := v) HTV.out HOP.out (by rw [hd0, HVE.out]; rfl))
      have HD := Lib.hid (show isDir t (str (bs (parent (str path)))) = false by rw [str_bs, hd0])
      clear hd0
      go_enter Tryd.func20, Tryd.ntmps20
      go_wp2_with fail
      refine (HRC.out _ HO.out 0 (chkV_ok HOT.out)).mono ?_
      rintro e w1 ⟨rfl, ho⟩
      have hB := HB.out.off ho (by simp)
      have ho := HO.out.trans_nil ho
      go_wp2_with fail
      refine (HRT.out _ ho true HOV.out).mono ?_
      rintro e w2 ⟨rfl, ho2⟩
      have hB := hB.off ho2 (by simp)
      have ho := ho.trans_nil ho2
      clear ho2
      go_wp2_with fail
      refine (path_v path _ (hT.off ho) true HOP.out).mono ?_
      rintro e w3 ⟨rfl, ho2⟩
      have hB := hB.off ho2 (by simp)
      have ho := ho.trans_nil ho2
      clear ho2
      go_wp2_with fail
      have hcW := hB.cell
      have hlW := hB.lt
      have hx := fun (x : World) (p : Addr) (hp : p.block < w3.heap.size) => ext_cell hp x
      refine wp_region_ext (by kernel_rfl) (by kernel_rfl) ?_
      repeat (go_big_quiet_step (first
        | (go_at_call 32; exact Calls.ext_of (HPA.out _ (ho.trans_nil (ext_off w3 _))))
        | (go_at_call 31; exact Calls.ext_of (HDI.out _ (ho.trans_nil (ext_off w3 _)) false HD.out))))
      refine wpQuiet_nil ?_
      rintro W2 ⟨x, rfl⟩
      have hoE := ho.trans_nil (ext_off w3 x)
      have hBE := hB.off (ext_off w3 x) (by simp)
      clear hx hcW hlW hB ho
      generalize ext w3 x = W2 at *
      have hcE := hBE.cell
      have hlE := hBE.lt
      go_wp2_with fail
      go_ret2
      rw [E.out]; exact PutP.bad hoE
    · have E := Lib.hid (put_rest (t := t) (path := path) (v := v) HTV.out HOP.out (by rw [hd0]; simp))
      have HD := Lib.hid (show isDir t (str (bs (parent (str path)))) = true by rw [str_bs, hd0])
      clear hd0
      go_enter Tryd.func20, Tryd.ntmps20
      go_wp2_with fail
      refine (HRC.out _ HO.out 0 (chkV_ok HOT.out)).mono ?_
      rintro e w1 ⟨rfl, ho⟩
      have hB := HB.out.off ho (by simp)
      have ho := HO.out.trans_nil ho
      go_wp2_with fail
      refine (HRT.out _ ho true HOV.out).mono ?_
      rintro e w2 ⟨rfl, ho2⟩
      have hB := hB.off ho2 (by simp)
      have ho := ho.trans_nil ho2
      clear ho2
      go_wp2_with fail
      refine (path_v path _ (hT.off ho) true HOP.out).mono ?_
      rintro e w3 ⟨rfl, ho2⟩
      have hB := hB.off ho2 (by simp)
      have ho := ho.trans_nil ho2
      clear ho2
      go_wp2_with fail
      have hcW := hB.cell
      have hlW := hB.lt
      have hx := fun (x : World) (p : Addr) (hp : p.block < w3.heap.size) => ext_cell hp x
      refine wp_region_ext (by kernel_rfl) (by kernel_rfl) ?_
      repeat (go_big_quiet_step (first
        | (go_at_call 32; exact Calls.ext_of (HPA.out _ (ho.trans_nil (ext_off w3 _))))
        | (go_at_call 31; exact Calls.ext_of (HDI.out _ (ho.trans_nil (ext_off w3 _)) true HD.out))))
      refine wpQuiet_nil ?_
      rintro W2 ⟨x, rfl⟩
      have hoE := ho.trans_nil (ext_off w3 x)
      have hBE := hB.off (ext_off w3 x) (by simp)
      clear hx hcW hlW hB ho
      generalize ext w3 x = W2 at *
      have hcE := hBE.cell
      have hlE := hBE.lt
      go_wp2_with fail
      refine (HCP.out _ hoE).mono ?_
      rintro e w6 ⟨x, rfl, hownx, hox⟩
      go_wp2_with fail
      go_ret2
      rw [E.out]
      exact ⟨_, rfl, own_base hownx hoE.size, hoE.trans_nil hox⟩
end Go.Proofs.YtpaeihdkggbeoaaDoor
