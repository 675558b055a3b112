/- tree.Right: the walk. Conditions: what each contract states. -/
import Derived.Test.YtpaeihdkggbeoaaDoorBackLaw
import Derived.Test.YtpaeihdkggbeoaaDoorTDif
namespace Go.Proofs.YtpaeihdkggbeoaaDoor
open Go.RowKit Go.Op

theorem okVal_bad_len {v : List Node} (h : 1000 < v.length) : okVal v = false := by
  cases v with
  | nil => simp at h
  | cons x r => unfold okVal; rw [decide_eq_false (by omega)]; rfl
theorem okVal_eq {x : Node} {r : List Node} (hl : (x :: r).length ≤ 1000) : okVal (x :: r) = (decide (x.p = []) && (rightN x && (decide (r = []) || decide (x.kind = 2) && okTree r))) := by
  unfold okVal; rw [decide_eq_true hl]; exact Bool.true_and _
set_option maxRecDepth 100000 in
set_option maxHeartbeats 4000000 in
theorem tright_any (p : Option Addr) (v : List Node) (n cap : Nat) (w : World) (hR : Row w p v) (hn : v.length = n) (hcap : n ≤ cap) (hcm : cap ≤ maxLen) (hF : Fits v) (hT : Tabs w) :
    Calls Tryd.prog 39 #[.slice p n cap] w fun e w' => e = .returned (.bool (okVal v)) ∧ Off [] w w' := by
  cases v with
  | nil =>
    obtain rfl : 0 = n := hn
    clear hR hF
    go_enter Tryd.func39, Tryd.ntmps39
    go_wp2_with fail
    go_ret
    exact ⟨rfl, Off.refl _ _⟩
  | cons x r =>
    have hpos : 0 < n := by rw [← hn]; simp
    have hn0 : ¬ n = 0 := by omega
    have hn0b : ((n : Int) == 0) = false := beq_eq_false_iff_ne.2 (by omega)
    by_cases hbig : 1000 < n
    · have HV := Lib.hid (okVal_bad_len (v := x :: r) (by omega))
      clear hR hF hn
      go_enter Tryd.func39, Tryd.ntmps39
      go_wp2_with fail
      go_ret
      exact ⟨by rw [HV.out]; rfl, Off.refl _ _⟩
    have HV := Lib.hid (okVal_eq (x := x) (r := r) (by omega))
    obtain ⟨a, rfl, hna, hab⟩ := hR.head
    have HR := Lib.hid hR.tail
    have HF := Lib.hid hF.tail
    have c0 := hna.path
    have c1 := hna.kind
    have c2 := hna.data
    have c3 := hna.mode
    have hrn : r.length + 1 = n := by rw [← hn]; rfl
    have HN := Lib.hid hrn
    clear hR hF hna hn hrn
    have hE : x.path.toList = [] ↔ x.p = [] := by rw [toList_str]; rfl
    by_cases hp0 : x.p = []
    · have g := hE.2 hp0
      have g' : x.path.toList.isEmpty = true := by simp [g]
      have HP0 := Lib.hid hp0
      clear hE hp0
      cases hr : rightN x
      · have HRT := Lib.hid hr
        clear hr
        go_enter Tryd.func39, Tryd.ntmps39
        go_wp2_with fail
        refine (right_v x _ false HRT.out).mono ?_
        rintro e w1 ⟨rfl, ho⟩
        go_wp2_with fail
        go_ret
        exact ⟨by rw [HV.out, HRT.out]; simp, ho⟩
      have HRT := Lib.hid hr
      clear hr
      by_cases h1 : n = 1
      · have HR0 := Lib.hid (show r = [] from List.length_eq_zero_iff.1 (by have := HN.out; omega))
        go_enter Tryd.func39, Tryd.ntmps39
        go_wp2_with fail
        refine (right_v x _ true HRT.out).mono ?_
        rintro e w1 ⟨rfl, ho⟩
        have d0 := (ho.cell (p := a) hab (by simp)).trans c0
        go_wp2_with fail
        go_ret
        exact ⟨by rw [HV.out, HRT.out, HP0.out, HR0.out]; simp, ho⟩
      have HR0 := Lib.hid (show ¬ r = [] from fun e => h1 (by rw [← HN.out, e]; rfl))
      have hc1 : ¬ cap = 1 := by omega
      have h1i : ¬ (n : Int) = 1 := by omega
      have h1b : ((n : Int) == 1) = false := beq_eq_false_iff_ne.2 h1i
      by_cases hk2 : x.kind = 2
      · have HK := Lib.hid hk2
        clear hk2
        cases hok : okTree r
        · have HOK := Lib.hid hok
          clear hok
          go_enter Tryd.func39, Tryd.ntmps39
          go_wp2_with fail
          refine (right_v x _ true HRT.out).mono ?_
          rintro e w1 ⟨rfl, ho⟩
          have d1 := (ho.cell (p := ⟨a.block, a.off + 1, none⟩) hab (by simp)).trans c1
          rw [HK.out] at d1
          clear c0 c1 c2 c3
          go_wp2_with fail
          refine (check_v (some (a.add 4)) r (n - 1) (cap - 1) _ (HR.out.off ho) (by have := HN.out; omega) (by omega) (by omega) HF.out (hT.off ho) 60 (chkV_bad HOK.out)).mono ?_
          rintro e w2 ⟨rfl, ho2⟩
          go_wp2_with fail
          go_ret
          exact ⟨by rw [HV.out, HRT.out, HOK.out, decide_eq_false HR0.out]; simp, ho.trans_nil ho2⟩
        · have HOK := Lib.hid hok
          clear hok
          go_enter Tryd.func39, Tryd.ntmps39
          go_wp2_with fail
          refine (right_v x _ true HRT.out).mono ?_
          rintro e w1 ⟨rfl, ho⟩
          have d1 := (ho.cell (p := ⟨a.block, a.off + 1, none⟩) hab (by simp)).trans c1
          rw [HK.out] at d1
          clear c0 c1 c2 c3
          go_wp2_with fail
          refine (check_v (some (a.add 4)) r (n - 1) (cap - 1) _ (HR.out.off ho) (by have := HN.out; omega) (by omega) (by omega) HF.out (hT.off ho) 0 (chkV_ok HOK.out)).mono ?_
          rintro e w2 ⟨rfl, ho2⟩
          go_wp2_with fail
          go_ret
          exact ⟨by rw [HV.out, HRT.out, HOK.out, HP0.out, HK.out]; simp, ho.trans_nil ho2⟩
      · have hkb : (x.kind == 2) = false := beq_eq_false_iff_ne.2 hk2
        go_enter Tryd.func39, Tryd.ntmps39
        go_wp2_with fail
        refine (right_v x _ true HRT.out).mono ?_
        rintro e w1 ⟨rfl, ho⟩
        have d1 := (ho.cell (p := ⟨a.block, a.off + 1, none⟩) hab (by simp)).trans c1
        clear c0 c1 c2 c3
        go_wp2_with fail
        go_ret
        exact ⟨by rw [HV.out, decide_eq_false hk2, decide_eq_false HR0.out]; simp, ho⟩
    · have g : ¬ x.path.toList = [] := fun e => hp0 (hE.1 e)
      have g' : x.path.toList.isEmpty = false := by simpa using g
      go_enter Tryd.func39, Tryd.ntmps39
      go_wp2_with fail
      go_ret
      exact ⟨by rw [HV.out, decide_eq_false hp0]; rfl, Off.refl _ _⟩
end Go.Proofs.YtpaeihdkggbeoaaDoor
