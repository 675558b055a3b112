/- hawserref06.Right and hawserref06.Put: the walks. (Printed by gen_rput.py.) Conditions: what each contract states. -/
import Derived.Test.YtpaeihdkggbeoaaDoorPut2
namespace Go.Proofs.YtpaeihdkggbeoaaDoor
open Go.RowKit Go.Op

set_option maxRecDepth 100000 in
set_option maxHeartbeats 4000000 in
theorem rtright_any (p : Option Addr) (v : List Node) (n cap : Nat) (w : World) (hR : Row w p v) (hn : v.length = n) (hcap : n ≤ cap) (_ : cap ≤ maxLen) (hbg : n ≤ 1099511627776) (hF : Fits1 v) :
    Calls Tryd.prog 41 #[.slice p n cap] w fun e w' => e = .returned (.bool (okVal v)) ∧ Off [] w w' := by
  cases v with
  | nil =>
    obtain rfl : 0 = n := hn
    clear hR hF
    go_enter Tryd.func41, Tryd.ntmps41
    go_wp2_with fail
    go_ret
    exact ⟨rfl, Off.refl _ _⟩
  | cons x r =>
    have hpos : 0 < n := by rw [← hn]; simp
    have hn0 : ¬ n = 0 := by omega
    have hn0b : ((n : Int) == 0) = false := beq_eq_false_iff_ne.2 (by omega)
    have HV := Lib.hid (fun h : n ≤ 1000 => okVal_eq (x := x) (r := r) (by omega))
    have HVB := Lib.hid (fun h : ¬ n ≤ 1000 => okVal_bad_len (v := x :: r) (by omega))
    have HVF := Lib.hid (fun h : (decide (x.p = []) && rightN x) = false => (show okVal (x :: r) = false by rw [show okVal (x :: r) = (decide ((x :: r).length ≤ 1000) && (decide (x.p = []) && (rightN x && (decide (r = []) || decide (x.kind = 2) && okTree r)))) from rfl, ← Bool.and_assoc (decide (x.p = [])), h]; simp))
    obtain ⟨a, rfl, hna, hab⟩ := hR.head
    have HR := Lib.hid hR.tail
    have HF := Lib.hid (show Fits1 r from fun y hy => hF y (List.mem_cons_of_mem _ hy))
    have c0 := hna.path
    have c1 := hna.kind
    have c2 := hna.data
    have c3 := hna.mode
    have hxd := (hF x (by simp)).2
    have hrn : r.length + 1 = n := by rw [← hn]; rfl
    have HN := Lib.hid hrn
    clear hR hF hna hn hrn
    have hE : x.path.toList = [] ↔ x.p = [] := by rw [toList_str]; rfl
    by_cases hp0 : x.p = []
    · have g := hE.2 hp0
      have g' : x.path.toList.isEmpty = true := by simp [g]
      have HP0 := Lib.hid hp0
      clear hE hp0
      cases hr : rightN x
      · have HRT := Lib.hid hr
        clear hr
        go_enter Tryd.func41, Tryd.ntmps41
        go_wp2_with fail
        refine (rright_v x _ hxd false HRT.out).mono ?_
        rintro e w1 ⟨rfl, ho⟩
        go_wp2_with fail
        go_ret
        exact ⟨by rw [HVF.out (by rw [HRT.out]; simp)]; rfl, ho⟩
      have HRT := Lib.hid hr
      clear hr
      by_cases hbig : n ≤ 1000
      case neg =>
        have hbig' : 1000 < n := by omega
        go_enter Tryd.func41, Tryd.ntmps41
        go_wp2_with fail
        refine (rright_v x _ hxd true HRT.out).mono ?_
        rintro e w1 ⟨rfl, ho⟩
        go_wp2_with fail
        go_ret
        exact ⟨by rw [HVB.out hbig]; rfl, ho⟩
      by_cases h1 : n = 1
      · have HR0 := Lib.hid (show r = [] from List.length_eq_zero_iff.1 (by have := HN.out; omega))
        go_enter Tryd.func41, Tryd.ntmps41
        go_wp2_with fail
        refine (rright_v x _ hxd true HRT.out).mono ?_
        rintro e w1 ⟨rfl, ho⟩
        have d0 := (ho.cell (p := a) hab (by simp)).trans c0
        go_wp2_with fail
        go_ret
        exact ⟨by rw [HV.out (by omega), HRT.out, HP0.out, HR0.out]; simp, ho⟩
      have HR0 := Lib.hid (show ¬ r = [] from fun e => h1 (by rw [← HN.out, e]; rfl))
      have hc1 : ¬ cap = 1 := by omega
      have h1i : ¬ (n : Int) = 1 := by omega
      have h1b : ((n : Int) == 1) = false := beq_eq_false_iff_ne.2 h1i
      by_cases hk2 : x.kind = 2
      · have HK := Lib.hid hk2
        clear hk2
        cases hok : okTree r
        · have HOK := Lib.hid hok
          clear hok
          go_enter Tryd.func41, Tryd.ntmps41
          go_wp2_with fail
          refine (rright_v x _ hxd true HRT.out).mono ?_
          rintro e w1 ⟨rfl, ho⟩
          have d1 := (ho.cell (p := ⟨a.block, a.off + 1, none⟩) hab (by simp)).trans c1
          rw [HK.out] at d1
          clear c0 c1 c2 c3
          go_wp2_with fail
          refine (rcheck_v (some (a.add 4)) r (n - 1) (cap - 1) _ (HR.out.off ho) (by have := HN.out; omega) (by omega) HF.out 60 (chkV_bad HOK.out)).mono ?_
          rintro e w2 ⟨rfl, ho2⟩
          go_wp2_with fail
          go_ret
          exact ⟨by rw [HV.out (by omega), HRT.out, HOK.out, decide_eq_false HR0.out]; simp, ho.trans_nil ho2⟩
        · have HOK := Lib.hid hok
          clear hok
          go_enter Tryd.func41, Tryd.ntmps41
          go_wp2_with fail
          refine (rright_v x _ hxd true HRT.out).mono ?_
          rintro e w1 ⟨rfl, ho⟩
          have d1 := (ho.cell (p := ⟨a.block, a.off + 1, none⟩) hab (by simp)).trans c1
          rw [HK.out] at d1
          clear c0 c1 c2 c3
          go_wp2_with fail
          refine (rcheck_v (some (a.add 4)) r (n - 1) (cap - 1) _ (HR.out.off ho) (by have := HN.out; omega) (by omega) HF.out 0 (chkV_ok HOK.out)).mono ?_
          rintro e w2 ⟨rfl, ho2⟩
          go_wp2_with fail
          go_ret
          exact ⟨by rw [HV.out (by omega), HRT.out, HOK.out, HP0.out, HK.out]; simp, ho.trans_nil ho2⟩
      · have hkb : (x.kind == 2) = false := beq_eq_false_iff_ne.2 hk2
        go_enter Tryd.func41, Tryd.ntmps41
        go_wp2_with fail
        refine (rright_v x _ hxd true HRT.out).mono ?_
        rintro e w1 ⟨rfl, ho⟩
        have d1 := (ho.cell (p := ⟨a.block, a.off + 1, none⟩) hab (by simp)).trans c1
        clear c0 c1 c2 c3
        go_wp2_with fail
        go_ret
        exact ⟨by rw [HV.out (by omega), decide_eq_false hk2, decide_eq_false HR0.out]; simp, ho⟩
    · have g : ¬ x.path.toList = [] := fun e => hp0 (hE.1 e)
      have g' : x.path.toList.isEmpty = false := by simpa using g
      go_enter Tryd.func41, Tryd.ntmps41
      go_wp2_with fail
      go_ret
      exact ⟨by rw [HVF.out (by rw [decide_eq_false hp0]; rfl)]; rfl, Off.refl _ _⟩
theorem cells_four_at {w : World} {g : Nat} {t : TypeId} {a b c d : Value} (h : Blk w g t #[a, b, c, d]) : ∀ j u, [a, b, c, d][j]? = some u → w.cell? ((⟨g, 0, none⟩ : Addr).add j) = some u := by
  intro j u hj
  match j, hj with
  | 0, hj => rw [addr_add, h.cell]; simpa using hj
  | 1, hj => rw [addr_add, h.cell]; simpa using hj
  | 2, hj => rw [addr_add, h.cell]; simpa using hj
  | 3, hj => rw [addr_add, h.cell]; simpa using hj
  | j + 4, hj => simp at hj
/-- where the reference's loop stands -/
def PutAtI (t : List Node) (path : ByteArray) (v : List Node) (n i : Nat) (b : Bool) (X : List Node) : Prop :=
  (i ≤ n ∧ b = came t (str path) i ∧ X = outTo t path v i b) ∨ (i = n + 1 ∧ X = putOut t path v)
theorem outTo_len {t : List Node} {path : ByteArray} {v : List Node} {i : Nat} {b : Bool} (h1 : t.length ≤ 1000) (h2 : v.length ≤ 1000) : (outTo t path v i b).length ≤ 3000 := by
  unfold outTo
  have a1 : (lower (t.take i) (str path)).length ≤ t.length := Nat.le_trans (List.length_filter_le _ _) (by rw [List.length_take]; omega)
  have a2 : (upper (t.take i) (str path)).length ≤ t.length := Nat.le_trans (List.length_filter_le _ _) (by rw [List.length_take]; omega)
  have a3 := moved_len path v
  rw [List.length_append]
  split
  · rw [List.length_append]; omega
  · simp; omega
theorem putOut_len {t : List Node} {path : ByteArray} {v : List Node} (h1 : t.length ≤ 1000) (h2 : v.length ≤ 1000) : (putOut t path v).length ≤ 3000 := by
  unfold putOut
  have a1 : (lower t (str path)).length ≤ t.length := List.length_filter_le _ _
  have a2 : (upper t (str path)).length ≤ t.length := List.length_filter_le _ _
  have a3 := moved_len path v
  rw [List.length_append, List.length_append]; omega
theorem PutAtI.len {t : List Node} {path : ByteArray} {v : List Node} {n i : Nat} {b : Bool} {X : List Node} (h : PutAtI t path v n i b X) (h1 : t.length ≤ 1000) (h2 : v.length ≤ 1000) : X.length ≤ 3000 := by
  rcases h with ⟨_, _, rfl⟩ | ⟨_, rfl⟩
  · exact outTo_len h1 h2
  · exact putOut_len h1 h2
theorem PutAtI.end_ {t : List Node} {path : ByteArray} {v : List Node} {n i : Nat} {b : Bool} {X : List Node} (h : PutAtI t path v n i b X) (hi : ¬ i ≤ n) : X = putOut t path v := by
  rcases h with ⟨h1, _⟩ | ⟨_, h2⟩
  · exact absurd h1 hi
  · exact h2
/-- one node further -/
theorem PutAtI.next {t : List Node} {path : ByteArray} {v : List Node} {n i : Nat} {b : Bool} {X : List Node} {x : Node} (h : PutAtI t path v n i b X) (hl : t.length = n) (hs : Sorted t) (hp : okPath (str path) = true) (hx : t[i]? = some x) :
    PutAtI t path v n (i + 1) (b || decide (0 ≤ order x.p (str path))) ((X ++ if b = false ∧ 0 ≤ order x.p (str path) then moved path v else []) ++ if within x.p (str path) = true then [] else [x]) := by
  have hi := (List.getElem?_eq_some_iff.1 hx).1
  rcases h with ⟨h1, h2, h3⟩ | ⟨h1, _⟩
  · subst h2
    refine .inl ⟨by omega, (came_succ hx).symm, ?_⟩
    rw [← came_succ hx, outTo_step hs hp hx, h3]
  · omega
theorem PutAtI.last {t : List Node} {path : ByteArray} {v : List Node} {n : Nat} {b : Bool} {X : List Node} (h : PutAtI t path v n n b X) (hl : t.length = n) : PutAtI t path v n (n + 1) true (X ++ if b = false then moved path v else []) := by
  rcases h with ⟨h1, h2, h3⟩ | ⟨h1, _⟩
  · subst h2
    refine .inr ⟨rfl, ?_⟩
    rw [h3, ← hl]; exact outTo_all
  · omega
theorem rtright_v (p : Option Addr) (v : List Node) (n cap : Nat) (w : World) (hR : Row w p v) (hn : v.length = n) (hcap : n ≤ cap) (hcm : cap ≤ maxLen) (hbg : n ≤ 1099511627776) (hF : Fits1 v) (b : Bool) (hb : okVal v = b) :
    Calls Tryd.prog 41 #[.slice p n cap] w fun e w' => e = .returned (.bool b) ∧ Off [] w w' := hb ▸ rtright_any p v n cap w hR hn hcap hcm hbg hF
theorem rwithin_v (a b : ByteArray) (w : World) (ha : a.size ≤ 1048576) (hb : b.size ≤ 1048576) (v : Bool) (hv : within (str a) (str b) = v) :
    Calls Tryd.prog 24 #[.string a, .string b] w fun e w' => e = .returned (.bool v) ∧ Off [] w w' := hv ▸ rwithin_any a b w ha hb
theorem rorder_w (a b : ByteArray) (w : World) (ha : a.size ≤ 1048576) (hb : b.size ≤ 1048576) (c : Int) (hc : order (str a) (str b) = c) : Calls Tryd.prog 38 #[.string a, .string b] w fun e w' => e = .returned (.int .i64 c) ∧ Off [] w w' := hc ▸ rorder_any a b w ha hb
theorem bool_self (b : Bool) : (b || false) = b := by cases b <;> rfl
set_option maxRecDepth 100000 in
set_option maxHeartbeats 16000000 in
theorem rput_any (p q : Option Addr) (t v : List Node) (n m c d : Nat) (path : ByteArray) (w : World) (hR : Row w p t) (hV : Row w q v) (hn : t.length = n) (hm : v.length = m) (hdm : m ≤ d) (hdx : d ≤ maxLen) (hbn : n ≤ 1099511627776) (hbm : m ≤ 1099511627776) (hFT : Fits1 t) (hFV : Fits1 v) (hps : path.size ≤ 1048576) :
    Calls Tryd.prog 21 #[.slice p n c, .string path, .slice q m d] w (PutP (putR t path v) w) := by
  obtain ⟨i0, hi0, hz0, hz1, hz2⟩ := info_parts infoNode
  have HN := Lib.hid hn
  have HM := Lib.hid hm
  have HR := Lib.hid hR
  have HV := Lib.hid hV
  have HFT := Lib.hid hFT
  have HFV := Lib.hid hFV
  clear hn hm hR hV hFT hFV
  cases hokT : okTree t
  · have E := Lib.hid (put_bad1 (t := t) (path := path) (v := v) (by rw [hokT]; rfl))
    have HO := Lib.hid hokT
    clear hokT
    go_enter Tryd.func21, Tryd.ntmps21
    go_wp2_with fail
    refine (rcheck_v p t n c _ HR.out HN.out hbn HFT.out 60 (chkV_bad HO.out)).mono ?_
    rintro e w1 ⟨rfl, ho⟩
    go_wp2_with fail
    go_ret2
    rw [E.out]; exact PutP.bad ho
  have HOT := Lib.hid hokT
  clear hokT
  cases hokV : okVal v
  · have E := Lib.hid (put_bad1 (t := t) (path := path) (v := v) (by rw [hokV, HOT.out]; rfl))
    have HO := Lib.hid hokV
    clear hokV
    go_enter Tryd.func21, Tryd.ntmps21
    go_wp2_with fail
    refine (rcheck_v p t n c _ HR.out HN.out hbn HFT.out 0 (chkV_ok HOT.out)).mono ?_
    rintro e w1 ⟨rfl, ho⟩
    go_wp2_with fail
    refine (rtright_v q v m d _ (HV.out.off ho) HM.out hdm hdx hbm HFV.out false HO.out).mono ?_
    rintro e w2 ⟨rfl, ho2⟩
    have ho := ho.trans_nil ho2
    clear ho2
    go_wp2_with fail
    go_ret2
    rw [E.out]; exact PutP.bad ho
  have HOV := Lib.hid hokV
  have HTV := Lib.hid (show (okTree t && okVal v) = true by rw [HOT.out, hokV]; rfl)
  clear hokV
  cases hokP : okPath (str path)
  · have E := Lib.hid (put_bad2 (t := t) (path := path) (v := v) HTV.out hokP)
    have HO := Lib.hid hokP
    clear hokP
    go_enter Tryd.func21, Tryd.ntmps21
    go_wp2_with fail
    refine (rcheck_v p t n c _ HR.out HN.out hbn HFT.out 0 (chkV_ok HOT.out)).mono ?_
    rintro e w1 ⟨rfl, ho⟩
    go_wp2_with fail
    refine (rtright_v q v m d _ (HV.out.off ho) HM.out hdm hdx hbm HFV.out true HOV.out).mono ?_
    rintro e w2 ⟨rfl, ho2⟩
    have ho := ho.trans_nil ho2
    clear ho2
    go_wp2_with fail
    refine (rpath_v path _ hps false HO.out).mono ?_
    rintro e w3 ⟨rfl, ho2⟩
    have ho := ho.trans_nil ho2
    clear ho2
    go_wp2_with fail
    go_ret2
    rw [E.out]; exact PutP.bad ho
  have HOP := Lib.hid hokP
  have hn1000 : n ≤ 1000 := by rw [← HN.out]; exact okTree_len HOT.out
  have hm1000 : m ≤ 1000 := by
    have h := HOV.out
    rcases Nat.lt_or_ge 1000 v.length with h1 | h1
    · rw [okVal_bad_len h1] at h; cases h
    · rw [← HM.out]; exact h1
  have hps4 : path.size ≤ 400 := by rw [← str_size]; exact okPath_size hokP
  have HS := Lib.hid (okTree_sorted HOT.out)
  have HRD := Lib.hid (rdir_eq (p := parent (str path)) HS.out)
  clear hokP
  have HPAR := Lib.hid (fun (W : World) => rparent_any path W hps)
  by_cases hm0 : m = 0
  · have hv0 : v = [] := List.length_eq_zero_iff.1 (by rw [HM.out]; exact hm0)
    have E := Lib.hid (put_rest (t := t) (path := path) (v := v) HTV.out HOP.out (by rw [hv0]; rfl))
    clear hv0
    have hmzd : decide (0 < m) = false := decide_eq_false (by omega)
    have hmzi : decide ((0 : Int) < (m : Int)) = false := decide_eq_false (by omega)
    have HM0 := Lib.hid hm0
    clear hm0
    go_enter Tryd.func21, Tryd.ntmps21
    go_wp2_with fail
    refine (rcheck_v p t n c _ HR.out HN.out hbn HFT.out 0 (chkV_ok HOT.out)).mono ?_
    rintro e w1 ⟨rfl, ho⟩
    go_wp2_with fail
    refine (rtright_v q v m d _ (HV.out.off ho) HM.out hdm hdx hbm HFV.out true HOV.out).mono ?_
    rintro e w2 ⟨rfl, ho2⟩
    have ho := ho.trans_nil ho2
    clear ho2
    go_wp2_with fail
    refine (rpath_v path _ hps true HOP.out).mono ?_
    rintro e w3 ⟨rfl, ho2⟩
    have ho := ho.trans_nil ho2
    clear ho2
    go_wp2_with fail
    go_loopw [10, 9, 8] (fun x y z wr => ∃ (i : Nat) (b : Bool) (X : List Node), x = .int .i64 i ∧ y = .bool b ∧ i ≤ n + 1 ∧ Hid (PutAtI t path v n i b X) ∧ X.length ≤ 3000 ∧ wr.ownsRow w.heap.size 29 4 z X.length (cellsOf X) ∧ Off [] w wr ∧ Hid ((b = false ∧ i ≤ n) ∨ AllTo path v v.length)) (fun x _ _ _ => n + 1 - (intOf x).toNat)
    case atStart => exact ⟨0, false, [], rfl, rfl, by omega, Lib.hid (.inl ⟨by omega, (came_zero _ _).symm, (outTo_zero _ _ _).symm⟩), by simp, ⟨rfl, .inl ⟨rfl, rfl⟩⟩, ho, Lib.hid (.inl ⟨rfl, by omega⟩)⟩
    case round =>
      clear ho
      obtain ⟨i, b, X, rfl, rfl, hi, hat, hXl, hown, hof, hal⟩ := hrel
      by_cases hin : i ≤ n
      · cases b
        · by_cases hlt : i < n
          · have hil : i < t.length := by rw [HN.out]; exact hlt
            obtain ⟨a, rfl, hna, hab⟩ := HR.out.get i hil
            have hxi := List.getElem?_eq_getElem hil
            have hxs := (HFT.out _ (List.getElem_mem hil)).1
            generalize t[i] = x at *
            have HX := Lib.hid hxi
            have HRX := Lib.hid (fun (W : World) (ho : Off [] w W) => hna.off ho (by rw [add_block]; exact hab))
            clear hna hxi
            by_cases h0 : 0 ≤ order (str x.path) (str path)
            · have H0 := Lib.hid (show 0 ≤ order x.p (str path) from h0)
              have c0 := (HRX.out _ hof).path
              obtain ⟨c6, hcq⟩ : ∃ c, order (str x.path) (str path) = c := ⟨_, rfl⟩
              have HCQ := Lib.hid hcq
              have hc6 : 0 ≤ c6 := by rw [← hcq]; exact h0
              have hc6d : decide (0 ≤ c6) = true := decide_eq_true hc6
              clear h0
              clear hcq
              go_wp2_with fail
              refine (rorder_w x.path path _ hxs hps c6 HCQ.out).mono ?_
              rintro e w6 ⟨rfl, ho6⟩
              have hof6 := hof.trans_nil ho6
              have hown6 := own_keep hown ho6
              clear c0 ho6 hown hof
              go_wp2_with fail
              go_loopw [11, 8] (fun x z wr => ∃ k : Nat, x = .int .i64 k ∧ k ≤ m ∧ wr.ownsRow w.heap.size 29 4 z (X.length + k) (cellsOf (X ++ (moved path v).take k)) ∧ Off [] w wr ∧ Hid (AllTo path v k)) (fun x _ _ => m - (intOf x).toNat)
              case atStart => exact ⟨0, rfl, by omega, by simpa using hown6, hof6, Lib.hid (fun i x hi _ => by omega)⟩
              case round =>
                clear hown6 hof6
                obtain ⟨k, rfl, hk, hownk, hofk, hall⟩ := hrel
                by_cases hkm : k < m
                · exact absurd hkm (by have := HM0.out; omega)
                · obtain rfl : k = m := by omega
                  have hownX := hownk
                  have hall' := hall
                  rw [List.take_of_length_le (by rw [moved_len, HM.out]; exact Nat.le_refl _)] at hownX
                  have hXl2 : (X ++ moved path v).length = X.length + k := by rw [List.length_append, moved_len, HM.out]
                  rw [← hXl2] at hownX
                  clear hownk
                  have HALL := Lib.hid (show AllTo path v v.length by rw [HM.out]; exact hall'.out)
                  cases hw : within x.p (str path)
                  · have HW := Lib.hid (show within (str x.path) (str path) = false from hw)
                    have HNXT := Lib.hid (show PutAtI t path v n (i + 1) true (X ++ moved path v ++ [x]) from by simpa [hw, H0.out] using hat.out.next HN.out HS.out HOP.out HX.out)
                    have hXm : (X ++ moved path v ++ [x]).length ≤ 3000 := HNXT.out.len (by rw [HN.out]; exact hn1000) (by rw [HM.out]; exact hm1000)
                    clear hw hat
                    have c0 := (HRX.out _ hofk).path
                    go_wp2_with fail
                    refine (rwithin_v x.path path _ hxs hps false HW.out).mono ?_
                    rintro e w8 ⟨rfl, ho8⟩
                    have hoff8 := hofk.trans_nil ho8
                    have hown8 := own_keep hownX ho8
                    clear c0 ho8 hownX hofk
                    have e0 := (HRX.out _ hoff8).path
                    have e1 := (HRX.out _ hoff8).kind
                    have e2 := (HRX.out _ hoff8).data
                    have e3 := (HRX.out _ hoff8).mode
                    go_wp2_with (at_builtin; refine wpList_append_own _ rfl _ _ 22 rfl w.heap.size 29 i0 node0.val 4 48 Tryd.underlying22 hi0 hz0 hz1 hz2 rfl (by decide) _ _ _ rfl (hown8.alloc _) ⟨w8.heap.size, 0, none⟩ 1 1 [_, _, _, _] rfl rfl (cells_four_at (Blk.new w8 _ _)) (by simp [Value.oneCell']) (by unfold maxLen; omega) (by omega) (by have := hoff8.size; simp; omega) ?_; intro v' W6 hown' hgrow _)
                    refine ⟨⟨i + 1, true, X ++ moved path v ++ [x], by congr 1, rfl, by omega, HNXT, hXm, ?_, own_grown (hoff8.alloc _) (hown8.alloc _) hgrow, Lib.hid (.inr HALL.out)⟩, by simp only [intOf]; omega⟩
                    rw [cellsOf_append, List.length_append]
                    exact hown'
                  · have HW := Lib.hid (show within (str x.path) (str path) = true from hw)
                    have HNXT := Lib.hid (show PutAtI t path v n (i + 1) true (X ++ moved path v) from by simpa [hw, H0.out] using hat.out.next HN.out HS.out HOP.out HX.out)
                    have hXm : (X ++ moved path v).length ≤ 3000 := HNXT.out.len (by rw [HN.out]; exact hn1000) (by rw [HM.out]; exact hm1000)
                    clear hw hat
                    have c0 := (HRX.out _ hofk).path
                    go_wp2_with fail
                    refine (rwithin_v x.path path _ hxs hps true HW.out).mono ?_
                    rintro e w8 ⟨rfl, ho8⟩
                    have hoff8 := hofk.trans_nil ho8
                    have hown8 := own_keep hownX ho8
                    clear c0 ho8 hownX hofk
                    go_wp2_with fail
                    refine ⟨⟨i + 1, true, X ++ moved path v, by congr 1, rfl, by omega, HNXT, hXm, hown8, hoff8, Lib.hid (.inr HALL.out)⟩, by simp only [intOf]; omega⟩
            · have hneg : order x.p (str path) < 0 := by have h0' : ¬ 0 ≤ order x.p (str path) := h0; omega
              have H0 := Lib.hid hneg
              have hw : within x.p (str path) = false := by
                cases hw : within x.p (str path)
                · rfl
                · exact absurd (within_order HOP.out hw) h0
              clear hneg
              have c0 := (HRX.out _ hof).path
              obtain ⟨c6, hcq⟩ : ∃ c, order (str x.path) (str path) = c := ⟨_, rfl⟩
              have HCQ := Lib.hid hcq
              have hc6 : ¬ 0 ≤ c6 := by rw [← hcq]; exact h0
              have hc6' : c6 < 0 := by omega
              have hc6d : decide (0 ≤ c6) = false := decide_eq_false hc6
              clear h0
              clear hcq
              go_wp2_with fail
              refine (rorder_w x.path path _ hxs hps c6 HCQ.out).mono ?_
              rintro e w6 ⟨rfl, ho6⟩
              have hof6 := hof.trans_nil ho6
              have hown6 := own_keep hown ho6
              clear c0 ho6 hown hof
              have HW := Lib.hid (show within (str x.path) (str path) = false from hw)
              have HNXT := Lib.hid (show PutAtI t path v n (i + 1) false (X ++ [x]) from by simpa [hw, eq_false (Int.not_le.mpr H0.out)] using hat.out.next HN.out HS.out HOP.out HX.out)
              have hXm : (X ++ [x]).length ≤ 3000 := HNXT.out.len (by rw [HN.out]; exact hn1000) (by rw [HM.out]; exact hm1000)
              clear hw hat
              have c0 := (HRX.out _ hof6).path
              go_wp2_with fail
              refine (rwithin_v x.path path _ hxs hps false HW.out).mono ?_
              rintro e w8 ⟨rfl, ho8⟩
              have hoff8 := hof6.trans_nil ho8
              have hown8 := own_keep hown6 ho8
              clear c0 ho8 hown6 hof6
              have e0 := (HRX.out _ hoff8).path
              have e1 := (HRX.out _ hoff8).kind
              have e2 := (HRX.out _ hoff8).data
              have e3 := (HRX.out _ hoff8).mode
              go_wp2_with (at_builtin; refine wpList_append_own _ rfl _ _ 22 rfl w.heap.size 29 i0 node0.val 4 48 Tryd.underlying22 hi0 hz0 hz1 hz2 rfl (by decide) _ _ _ rfl (hown8.alloc _) ⟨w8.heap.size, 0, none⟩ 1 1 [_, _, _, _] rfl rfl (cells_four_at (Blk.new w8 _ _)) (by simp [Value.oneCell']) (by unfold maxLen; omega) (by omega) (by have := hoff8.size; simp; omega) ?_; intro v' W6 hown' hgrow _)
              refine ⟨⟨i + 1, false, X ++ [x], by congr 1, rfl, by omega, HNXT, hXm, ?_, own_grown (hoff8.alloc _) (hown8.alloc _) hgrow, Lib.hid (.inl ⟨rfl, by omega⟩)⟩, by simp only [intOf]; omega⟩
              rw [cellsOf_append, List.length_append]
              exact hown'
          · obtain rfl : i = n := by omega
            go_wp2_with fail
            go_loopw [11, 8] (fun x z wr => ∃ k : Nat, x = .int .i64 k ∧ k ≤ m ∧ wr.ownsRow w.heap.size 29 4 z (X.length + k) (cellsOf (X ++ (moved path v).take k)) ∧ Off [] w wr ∧ Hid (AllTo path v k)) (fun x _ _ => m - (intOf x).toNat)
            case atStart => exact ⟨0, rfl, by omega, by simpa using hown, hof, Lib.hid (fun i x hi _ => by omega)⟩
            case round =>
              clear hown hof
              obtain ⟨k, rfl, hk, hownk, hofk, hall⟩ := hrel
              by_cases hkm : k < m
              · exact absurd hkm (by have := HM0.out; omega)
              · obtain rfl : k = m := by omega
                have hownX := hownk
                have hall' := hall
                rw [List.take_of_length_le (by rw [moved_len, HM.out]; exact Nat.le_refl _)] at hownX
                have hXl2 : (X ++ moved path v).length = X.length + k := by rw [List.length_append, moved_len, HM.out]
                rw [← hXl2] at hownX
                clear hownk
                have HNXT := Lib.hid (show PutAtI t path v i (i + 1) true (X ++ moved path v) from by simpa using hat.out.last HN.out)
                have HALL := Lib.hid (show AllTo path v v.length by rw [HM.out]; exact hall'.out)
                have hXm : (X ++ moved path v).length ≤ 3000 := HNXT.out.len (by rw [HN.out]; exact hn1000) (by rw [HM.out]; exact hm1000)
                clear hat
                go_wp2_with fail
                refine ⟨⟨i + 1, true, X ++ moved path v, by congr 1, rfl, by omega, HNXT, hXm, hownX, hofk, Lib.hid (.inr HALL.out)⟩, by simp only [intOf]; omega⟩
        · have HALL := Lib.hid (hal.out.resolve_left (by simp))
          by_cases hlt : i < n
          · have hil : i < t.length := by rw [HN.out]; exact hlt
            obtain ⟨a, rfl, hna, hab⟩ := HR.out.get i hil
            have hxi := List.getElem?_eq_getElem hil
            have hxs := (HFT.out _ (List.getElem_mem hil)).1
            generalize t[i] = x at *
            have HX := Lib.hid hxi
            have HRX := Lib.hid (fun (W : World) (ho : Off [] w W) => hna.off ho (by rw [add_block]; exact hab))
            clear hna hxi
            cases hw : within x.p (str path)
            · have HW := Lib.hid (show within (str x.path) (str path) = false from hw)
              have HNXT := Lib.hid (show PutAtI t path v n (i + 1) true (X ++ [x]) from by simpa [hw, bool_self] using hat.out.next HN.out HS.out HOP.out HX.out)
              have hXm : (X ++ [x]).length ≤ 3000 := HNXT.out.len (by rw [HN.out]; exact hn1000) (by rw [HM.out]; exact hm1000)
              clear hw hat
              have c0 := (HRX.out _ hof).path
              go_wp2_with fail
              refine (rwithin_v x.path path _ hxs hps false HW.out).mono ?_
              rintro e w8 ⟨rfl, ho8⟩
              have hoff8 := hof.trans_nil ho8
              have hown8 := own_keep hown ho8
              clear c0 ho8 hown hof
              have e0 := (HRX.out _ hoff8).path
              have e1 := (HRX.out _ hoff8).kind
              have e2 := (HRX.out _ hoff8).data
              have e3 := (HRX.out _ hoff8).mode
              go_wp2_with (at_builtin; refine wpList_append_own _ rfl _ _ 22 rfl w.heap.size 29 i0 node0.val 4 48 Tryd.underlying22 hi0 hz0 hz1 hz2 rfl (by decide) _ _ _ rfl (hown8.alloc _) ⟨w8.heap.size, 0, none⟩ 1 1 [_, _, _, _] rfl rfl (cells_four_at (Blk.new w8 _ _)) (by simp [Value.oneCell']) (by unfold maxLen; omega) (by omega) (by have := hoff8.size; simp; omega) ?_; intro v' W6 hown' hgrow _)
              refine ⟨⟨i + 1, true, X ++ [x], by congr 1, rfl, by omega, HNXT, hXm, ?_, own_grown (hoff8.alloc _) (hown8.alloc _) hgrow, Lib.hid (.inr HALL.out)⟩, by simp only [intOf]; omega⟩
              rw [cellsOf_append, List.length_append]
              exact hown'
            · have HW := Lib.hid (show within (str x.path) (str path) = true from hw)
              have HNXT := Lib.hid (show PutAtI t path v n (i + 1) true (X) from by simpa [hw, bool_self] using hat.out.next HN.out HS.out HOP.out HX.out)
              have hXm : (X).length ≤ 3000 := HNXT.out.len (by rw [HN.out]; exact hn1000) (by rw [HM.out]; exact hm1000)
              clear hw hat
              have c0 := (HRX.out _ hof).path
              go_wp2_with fail
              refine (rwithin_v x.path path _ hxs hps true HW.out).mono ?_
              rintro e w8 ⟨rfl, ho8⟩
              have hoff8 := hof.trans_nil ho8
              have hown8 := own_keep hown ho8
              clear c0 ho8 hown hof
              go_wp2_with fail
              refine ⟨⟨i + 1, true, X, by congr 1, rfl, by omega, HNXT, hXm, hown8, hoff8, Lib.hid (.inr HALL.out)⟩, by simp only [intOf]; omega⟩
          · obtain rfl : i = n := by omega
            have HNXT := Lib.hid (show PutAtI t path v i (i + 1) true X from by simpa using hat.out.last HN.out)
            go_wp2_with fail
            refine ⟨⟨i + 1, true, X, by congr 1, rfl, by omega, HNXT, hXl, hown, hof, Lib.hid (.inr HALL.out)⟩, by simp only [intOf]; omega⟩
      · have hin' : n < i := by omega
        have HX := Lib.hid (hat.out.end_ hin)
        have HALL := Lib.hid (hal.out.resolve_left (fun h => hin h.2))
        have HOWN := Lib.hid hown
        obtain ⟨pz, cz, rfl, -, hcz, -, -⟩ := own_row hown
        clear hown
        by_cases hbig : X.length ≤ 1000
        · go_wp2_with fail
          go_ret2
          rw [E.out, putC_len HALL.out, ← HX.out, if_pos hbig]
          exact ⟨_, rfl, HOWN.out, hof⟩
        · go_wp2_with fail
          go_ret2
          rw [E.out, putC_len HALL.out, ← HX.out, if_neg hbig]
          exact PutP.bad hof
  · have hmp : 0 < m := by omega
    have hve : v.isEmpty = false := by
      cases v with
      | nil => exact absurd HM.out.symm hm0
      | cons _ _ => rfl
    have HVE := Lib.hid hve
    clear hve
    cases hd : isDir t (parent (str path))
    · have E := Lib.hid (put_bad3 (t := t) (path := path) (v := v) HTV.out HOP.out (by rw [hd, HVE.out]; rfl))
      have HD := Lib.hid (show rdir t (str (bs (parent (str path)))) = false by rw [str_bs, HRD.out, hd])
      clear hd
      go_enter Tryd.func21, Tryd.ntmps21
      go_wp2_with fail
      refine (rcheck_v p t n c _ HR.out HN.out hbn HFT.out 0 (chkV_ok HOT.out)).mono ?_
      rintro e w1 ⟨rfl, ho⟩
      go_wp2_with fail
      refine (rtright_v q v m d _ (HV.out.off ho) HM.out hdm hdx hbm HFV.out true HOV.out).mono ?_
      rintro e w2 ⟨rfl, ho2⟩
      have ho := ho.trans_nil ho2
      clear ho2
      go_wp2_with fail
      refine (rpath_v path _ hps true HOP.out).mono ?_
      rintro e w3 ⟨rfl, ho2⟩
      have ho := ho.trans_nil ho2
      clear ho2
      go_wp2_with fail
      refine (HPAR.out _).mono ?_
      rintro e w4 ⟨rfl, ho2⟩
      have ho := ho.trans_nil ho2
      clear ho2
      go_wp2_with fail
      refine (rdir_v p t n c _ _ (HR.out.off ho) HN.out hbn false HD.out).mono ?_
      rintro e w5 ⟨rfl, ho2⟩
      have ho := ho.trans_nil ho2
      clear ho2
      go_wp2_with fail
      go_ret2
      rw [E.out]; exact PutP.bad ho
    have E := Lib.hid (put_rest (t := t) (path := path) (v := v) HTV.out HOP.out (by rw [hd]; simp))
    have HD := Lib.hid (show rdir t (str (bs (parent (str path)))) = true by rw [str_bs, HRD.out, hd])
    clear hd
    go_enter Tryd.func21, Tryd.ntmps21
    go_wp2_with fail
    refine (rcheck_v p t n c _ HR.out HN.out hbn HFT.out 0 (chkV_ok HOT.out)).mono ?_
    rintro e w1 ⟨rfl, ho⟩
    go_wp2_with fail
    refine (rtright_v q v m d _ (HV.out.off ho) HM.out hdm hdx hbm HFV.out true HOV.out).mono ?_
    rintro e w2 ⟨rfl, ho2⟩
    have ho := ho.trans_nil ho2
    clear ho2
    go_wp2_with fail
    refine (rpath_v path _ hps true HOP.out).mono ?_
    rintro e w3 ⟨rfl, ho2⟩
    have ho := ho.trans_nil ho2
    clear ho2
    go_wp2_with fail
    refine (HPAR.out _).mono ?_
    rintro e w4 ⟨rfl, ho2⟩
    have ho := ho.trans_nil ho2
    clear ho2
    go_wp2_with fail
    refine (rdir_v p t n c _ _ (HR.out.off ho) HN.out hbn true HD.out).mono ?_
    rintro e w5 ⟨rfl, ho2⟩
    have ho := ho.trans_nil ho2
    clear ho2
    go_wp2_with fail
    go_loopw [10, 9, 8] (fun x y z wr => ∃ (i : Nat) (b : Bool) (X : List Node), x = .int .i64 i ∧ y = .bool b ∧ i ≤ n + 1 ∧ Hid (PutAtI t path v n i b X) ∧ X.length ≤ 3000 ∧ wr.ownsRow w.heap.size 29 4 z X.length (cellsOf X) ∧ Off [] w wr ∧ Hid ((b = false ∧ i ≤ n) ∨ AllTo path v v.length)) (fun x _ _ _ => n + 1 - (intOf x).toNat)
    case atStart => exact ⟨0, false, [], rfl, rfl, by omega, Lib.hid (.inl ⟨by omega, (came_zero _ _).symm, (outTo_zero _ _ _).symm⟩), by simp, ⟨rfl, .inl ⟨rfl, rfl⟩⟩, ho, Lib.hid (.inl ⟨rfl, by omega⟩)⟩
    case round =>
      clear ho
      obtain ⟨i, b, X, rfl, rfl, hi, hat, hXl, hown, hof, hal⟩ := hrel
      by_cases hin : i ≤ n
      · cases b
        · by_cases hlt : i < n
          · have hil : i < t.length := by rw [HN.out]; exact hlt
            obtain ⟨a, rfl, hna, hab⟩ := HR.out.get i hil
            have hxi := List.getElem?_eq_getElem hil
            have hxs := (HFT.out _ (List.getElem_mem hil)).1
            generalize t[i] = x at *
            have HX := Lib.hid hxi
            have HRX := Lib.hid (fun (W : World) (ho : Off [] w W) => hna.off ho (by rw [add_block]; exact hab))
            clear hna hxi
            by_cases h0 : 0 ≤ order (str x.path) (str path)
            · have H0 := Lib.hid (show 0 ≤ order x.p (str path) from h0)
              have c0 := (HRX.out _ hof).path
              obtain ⟨c6, hcq⟩ : ∃ c, order (str x.path) (str path) = c := ⟨_, rfl⟩
              have HCQ := Lib.hid hcq
              have hc6 : 0 ≤ c6 := by rw [← hcq]; exact h0
              have hc6d : decide (0 ≤ c6) = true := decide_eq_true hc6
              clear h0
              clear hcq
              go_wp2_with fail
              refine (rorder_w x.path path _ hxs hps c6 HCQ.out).mono ?_
              rintro e w6 ⟨rfl, ho6⟩
              have hof6 := hof.trans_nil ho6
              have hown6 := own_keep hown ho6
              clear c0 ho6 hown hof
              go_wp2_with fail
              go_loopw [11, 8] (fun x z wr => ∃ k : Nat, x = .int .i64 k ∧ k ≤ m ∧ wr.ownsRow w.heap.size 29 4 z (X.length + k) (cellsOf (X ++ (moved path v).take k)) ∧ Off [] w wr ∧ Hid (AllTo path v k)) (fun x _ _ => m - (intOf x).toNat)
              case atStart => exact ⟨0, rfl, by omega, by simpa using hown6, hof6, Lib.hid (fun i x hi _ => by omega)⟩
              case round =>
                clear hown6 hof6
                obtain ⟨k, rfl, hk, hownk, hofk, hall⟩ := hrel
                by_cases hkm : k < m
                · have hkl : k < v.length := by rw [HM.out]; exact hkm
                  obtain ⟨av, rfl, hna, hab⟩ := (HV.out.off hofk).get k hkl
                  have hxk := List.getElem?_eq_getElem hkl
                  have hysz := okVal_small HOV.out (List.getElem_mem hkl)
                  generalize v[k] = y at *
                  have HXK := Lib.hid hxk
                  have c0 := hna.path
                  have c1 := hna.kind
                  have c2 := hna.data
                  have c3 := hna.mode
                  clear hna hxk
                  by_cases hk0 : k = 0
                  · subst hk0
                    have c0 : wr.cell? av = some (.string y.path) := c0
                    have c1 : wr.cell? ⟨av.block, av.off + 1, none⟩ = some (.int .i64 y.kind) := c1
                    have c2 : wr.cell? ⟨av.block, av.off + 2, none⟩ = some (.string y.data) := c2
                    have c3 : wr.cell? ⟨av.block, av.off + 3, none⟩ = some (.int .i64 y.mode) := c3
                    have hnp : newPath path 0 y.path = path := by rfl
                    have HNP := Lib.hid hnp
                    clear hnp
                    have hb1 := Blk.new wr 29 #[.string path, .int .i64 y.kind, .string y.data, .int .i64 y.mode]
                    have ho1 : Off [] wr (wr.alloc (.cells #[.string path, .int .i64 y.kind, .string y.data, .int .i64 y.mode] 29)) := (Off.refl _ wr).alloc _
                    have HB1 := Lib.hid hb1
                    have HO1 := Lib.hid ho1
                    clear hb1 ho1
                    cases hpk : okPath (str (newPath path 0 y.path))
                    · have HPB := Lib.hid (putC_bad (t := t) HXK.out hpk)
                      have HPK := Lib.hid (show okPath (str path) = false by rw [← HNP.out]; exact hpk)
                      clear hpk
                      go_wp2_with fail
                      refine (rpath_v path _ (by omega) false HPK.out).mono ?_
                      rintro e w7 ⟨rfl, ho7⟩
                      have hoff7 := (hofk.trans_nil HO1.out).trans_nil ho7
                      clear ho7
                      go_wp2_with fail
                      go_ret2
                      rw [E.out, HPB.out]; exact PutP.bad hoff7
                    · have HNX := Lib.hid (hall.out.succ HXK.out hpk)
                      have HPK := Lib.hid (show okPath (str path) = true by rw [← HNP.out]; exact hpk)
                      clear hpk
                      go_wp2_with fail
                      refine (rpath_v path _ (by omega) true HPK.out).mono ?_
                      rintro e w7 ⟨rfl, ho7⟩
                      have hoff7 := (hofk.trans_nil HO1.out).trans_nil ho7
                      have hown7 := own_keep hownk (HO1.out.trans_nil ho7)
                      have hb7 : Blk w7 wr.heap.size 29 #[.string path, .int .i64 y.kind, .string y.data, .int .i64 y.mode] := HB1.out.off ho7 (by simp)
                      have hc7 := hb7.cell
                      have hl7 := hb7.lt
                      clear ho7 hb7 hownk hofk c0 c1 c2 c3
                      go_wp2_with (at_builtin; refine wpList_append_own _ rfl _ _ 22 rfl w.heap.size 29 i0 node0.val 4 48 Tryd.underlying22 hi0 hz0 hz1 hz2 rfl (by decide) _ _ _ rfl (hown7.alloc _) ⟨w7.heap.size, 0, none⟩ 1 1 [_, _, _, _] rfl rfl (cells_four_at (Blk.new w7 _ _)) (by simp [Value.oneCell']) (by unfold maxLen; omega) (by omega) (by have := hoff7.size; simp; omega) ?_; intro v' W6 hown' hgrow _)
                      refine ⟨⟨0 + 1, rfl, by omega, ?_, own_grown (hoff7.alloc _) (hown7.alloc _) hgrow, HNX⟩, by simp only [intOf]; omega⟩
                      have hmg := moved_get (path := path) HXK.out
                      rw [take_get hmg, ← List.append_assoc, cellsOf_append, ← Nat.add_assoc, HNP.out]
                      exact hown'
                  · have hkb : ((k : Int) == 0) = false := beq_eq_false_iff_ne.2 (by omega)
                    have cA : (wr.alloc (.cells #[.string y.path, .int .i64 y.kind, .string y.data, .int .i64 y.mode] 29)).cell? (av.add (k * 4)) = some (.string y.path) := Lib.cell?_alloc_some _ c0
                    have hnp : newPath path k y.path = path ++ (⟨#[47]⟩ : ByteArray) ++ y.path := by unfold newPath; rw [if_neg hk0]
                    have HNP := Lib.hid hnp
                    clear hnp
                    have hb1 := Blk.new wr 29 #[.string (path ++ (⟨#[47]⟩ : ByteArray) ++ y.path), .int .i64 y.kind, .string y.data, .int .i64 y.mode]
                    have ho1 : Off [] wr (wr.alloc (.cells #[.string (path ++ (⟨#[47]⟩ : ByteArray) ++ y.path), .int .i64 y.kind, .string y.data, .int .i64 y.mode] 29)) := (Off.refl _ wr).alloc _
                    have HB1 := Lib.hid hb1
                    have HO1 := Lib.hid ho1
                    clear hb1 ho1
                    cases hpk : okPath (str (newPath path k y.path))
                    · have HPB := Lib.hid (putC_bad (t := t) HXK.out hpk)
                      have HPK := Lib.hid (show okPath (str (path ++ (⟨#[47]⟩ : ByteArray) ++ y.path)) = false by rw [← HNP.out]; exact hpk)
                      clear hpk
                      have a1 : ∀ wx : World, (Op.stringOp .add path ⟨#[47]⟩).run Tryd.prog wx = .ok (.string (path ++ ⟨#[47]⟩)) wx := fun wx => run_string_add_sum wx _ _ (by show path.size + 1 ≤ _; omega)
                      have a2 : ∀ wx : World, (Op.stringOp .add (path ++ ⟨#[47]⟩) y.path).run Tryd.prog wx = .ok (.string (path ++ ⟨#[47]⟩ ++ y.path)) wx := fun wx => run_string_add_sum wx _ _ (by rw [ByteArray.size_append]; show path.size + 1 + y.path.size ≤ _; omega)
                      go_wp2_with fail
                      refine (rpath_v (path ++ (⟨#[47]⟩ : ByteArray) ++ y.path) _ (by rw [ByteArray.size_append, ByteArray.size_append]; show path.size + 1 + y.path.size ≤ _; omega) false HPK.out).mono ?_
                      rintro e w7 ⟨rfl, ho7⟩
                      have hoff7 := (hofk.trans_nil HO1.out).trans_nil ho7
                      clear ho7
                      go_wp2_with fail
                      go_ret2
                      rw [E.out, HPB.out]; exact PutP.bad hoff7
                    · have HNX := Lib.hid (hall.out.succ HXK.out hpk)
                      have HPK := Lib.hid (show okPath (str (path ++ (⟨#[47]⟩ : ByteArray) ++ y.path)) = true by rw [← HNP.out]; exact hpk)
                      clear hpk
                      have a1 : ∀ wx : World, (Op.stringOp .add path ⟨#[47]⟩).run Tryd.prog wx = .ok (.string (path ++ ⟨#[47]⟩)) wx := fun wx => run_string_add_sum wx _ _ (by show path.size + 1 ≤ _; omega)
                      have a2 : ∀ wx : World, (Op.stringOp .add (path ++ ⟨#[47]⟩) y.path).run Tryd.prog wx = .ok (.string (path ++ ⟨#[47]⟩ ++ y.path)) wx := fun wx => run_string_add_sum wx _ _ (by rw [ByteArray.size_append]; show path.size + 1 + y.path.size ≤ _; omega)
                      go_wp2_with fail
                      refine (rpath_v (path ++ (⟨#[47]⟩ : ByteArray) ++ y.path) _ (by rw [ByteArray.size_append, ByteArray.size_append]; show path.size + 1 + y.path.size ≤ _; omega) true HPK.out).mono ?_
                      rintro e w7 ⟨rfl, ho7⟩
                      have hoff7 := (hofk.trans_nil HO1.out).trans_nil ho7
                      have hown7 := own_keep hownk (HO1.out.trans_nil ho7)
                      have hb7 : Blk w7 wr.heap.size 29 #[.string (path ++ (⟨#[47]⟩ : ByteArray) ++ y.path), .int .i64 y.kind, .string y.data, .int .i64 y.mode] := HB1.out.off ho7 (by simp)
                      have hc7 := hb7.cell
                      have hl7 := hb7.lt
                      clear ho7 hb7 hownk hofk c0 c1 c2 c3
                      go_wp2_with (at_builtin; refine wpList_append_own _ rfl _ _ 22 rfl w.heap.size 29 i0 node0.val 4 48 Tryd.underlying22 hi0 hz0 hz1 hz2 rfl (by decide) _ _ _ rfl (hown7.alloc _) ⟨w7.heap.size, 0, none⟩ 1 1 [_, _, _, _] rfl rfl (cells_four_at (Blk.new w7 _ _)) (by simp [Value.oneCell']) (by unfold maxLen; omega) (by omega) (by have := hoff7.size; simp; omega) ?_; intro v' W6 hown' hgrow _)
                      refine ⟨⟨k + 1, by congr 1, by omega, ?_, own_grown (hoff7.alloc _) (hown7.alloc _) hgrow, HNX⟩, by simp only [intOf]; omega⟩
                      have hmg := moved_get (path := path) HXK.out
                      rw [take_get hmg, ← List.append_assoc, cellsOf_append, ← Nat.add_assoc, HNP.out]
                      exact hown'
                · obtain rfl : k = m := by omega
                  have hownX := hownk
                  have hall' := hall
                  rw [List.take_of_length_le (by rw [moved_len, HM.out]; exact Nat.le_refl _)] at hownX
                  have hXl2 : (X ++ moved path v).length = X.length + k := by rw [List.length_append, moved_len, HM.out]
                  rw [← hXl2] at hownX
                  clear hownk
                  have HALL := Lib.hid (show AllTo path v v.length by rw [HM.out]; exact hall'.out)
                  cases hw : within x.p (str path)
                  · have HW := Lib.hid (show within (str x.path) (str path) = false from hw)
                    have HNXT := Lib.hid (show PutAtI t path v n (i + 1) true (X ++ moved path v ++ [x]) from by simpa [hw, H0.out] using hat.out.next HN.out HS.out HOP.out HX.out)
                    have hXm : (X ++ moved path v ++ [x]).length ≤ 3000 := HNXT.out.len (by rw [HN.out]; exact hn1000) (by rw [HM.out]; exact hm1000)
                    clear hw hat
                    have c0 := (HRX.out _ hofk).path
                    go_wp2_with fail
                    refine (rwithin_v x.path path _ hxs hps false HW.out).mono ?_
                    rintro e w8 ⟨rfl, ho8⟩
                    have hoff8 := hofk.trans_nil ho8
                    have hown8 := own_keep hownX ho8
                    clear c0 ho8 hownX hofk
                    have e0 := (HRX.out _ hoff8).path
                    have e1 := (HRX.out _ hoff8).kind
                    have e2 := (HRX.out _ hoff8).data
                    have e3 := (HRX.out _ hoff8).mode
                    go_wp2_with (at_builtin; refine wpList_append_own _ rfl _ _ 22 rfl w.heap.size 29 i0 node0.val 4 48 Tryd.underlying22 hi0 hz0 hz1 hz2 rfl (by decide) _ _ _ rfl (hown8.alloc _) ⟨w8.heap.size, 0, none⟩ 1 1 [_, _, _, _] rfl rfl (cells_four_at (Blk.new w8 _ _)) (by simp [Value.oneCell']) (by unfold maxLen; omega) (by omega) (by have := hoff8.size; simp; omega) ?_; intro v' W6 hown' hgrow _)
                    refine ⟨⟨i + 1, true, X ++ moved path v ++ [x], by congr 1, rfl, by omega, HNXT, hXm, ?_, own_grown (hoff8.alloc _) (hown8.alloc _) hgrow, Lib.hid (.inr HALL.out)⟩, by simp only [intOf]; omega⟩
                    rw [cellsOf_append, List.length_append]
                    exact hown'
                  · have HW := Lib.hid (show within (str x.path) (str path) = true from hw)
                    have HNXT := Lib.hid (show PutAtI t path v n (i + 1) true (X ++ moved path v) from by simpa [hw, H0.out] using hat.out.next HN.out HS.out HOP.out HX.out)
                    have hXm : (X ++ moved path v).length ≤ 3000 := HNXT.out.len (by rw [HN.out]; exact hn1000) (by rw [HM.out]; exact hm1000)
                    clear hw hat
                    have c0 := (HRX.out _ hofk).path
                    go_wp2_with fail
                    refine (rwithin_v x.path path _ hxs hps true HW.out).mono ?_
                    rintro e w8 ⟨rfl, ho8⟩
                    have hoff8 := hofk.trans_nil ho8
                    have hown8 := own_keep hownX ho8
                    clear c0 ho8 hownX hofk
                    go_wp2_with fail
                    refine ⟨⟨i + 1, true, X ++ moved path v, by congr 1, rfl, by omega, HNXT, hXm, hown8, hoff8, Lib.hid (.inr HALL.out)⟩, by simp only [intOf]; omega⟩
            · have hneg : order x.p (str path) < 0 := by have h0' : ¬ 0 ≤ order x.p (str path) := h0; omega
              have H0 := Lib.hid hneg
              have hw : within x.p (str path) = false := by
                cases hw : within x.p (str path)
                · rfl
                · exact absurd (within_order HOP.out hw) h0
              clear hneg
              have c0 := (HRX.out _ hof).path
              obtain ⟨c6, hcq⟩ : ∃ c, order (str x.path) (str path) = c := ⟨_, rfl⟩
              have HCQ := Lib.hid hcq
              have hc6 : ¬ 0 ≤ c6 := by rw [← hcq]; exact h0
              have hc6' : c6 < 0 := by omega
              have hc6d : decide (0 ≤ c6) = false := decide_eq_false hc6
              clear h0
              clear hcq
              go_wp2_with fail
              refine (rorder_w x.path path _ hxs hps c6 HCQ.out).mono ?_
              rintro e w6 ⟨rfl, ho6⟩
              have hof6 := hof.trans_nil ho6
              have hown6 := own_keep hown ho6
              clear c0 ho6 hown hof
              have HW := Lib.hid (show within (str x.path) (str path) = false from hw)
              have HNXT := Lib.hid (show PutAtI t path v n (i + 1) false (X ++ [x]) from by simpa [hw, eq_false (Int.not_le.mpr H0.out)] using hat.out.next HN.out HS.out HOP.out HX.out)
              have hXm : (X ++ [x]).length ≤ 3000 := HNXT.out.len (by rw [HN.out]; exact hn1000) (by rw [HM.out]; exact hm1000)
              clear hw hat
              have c0 := (HRX.out _ hof6).path
              go_wp2_with fail
              refine (rwithin_v x.path path _ hxs hps false HW.out).mono ?_
              rintro e w8 ⟨rfl, ho8⟩
              have hoff8 := hof6.trans_nil ho8
              have hown8 := own_keep hown6 ho8
              clear c0 ho8 hown6 hof6
              have e0 := (HRX.out _ hoff8).path
              have e1 := (HRX.out _ hoff8).kind
              have e2 := (HRX.out _ hoff8).data
              have e3 := (HRX.out _ hoff8).mode
              go_wp2_with (at_builtin; refine wpList_append_own _ rfl _ _ 22 rfl w.heap.size 29 i0 node0.val 4 48 Tryd.underlying22 hi0 hz0 hz1 hz2 rfl (by decide) _ _ _ rfl (hown8.alloc _) ⟨w8.heap.size, 0, none⟩ 1 1 [_, _, _, _] rfl rfl (cells_four_at (Blk.new w8 _ _)) (by simp [Value.oneCell']) (by unfold maxLen; omega) (by omega) (by have := hoff8.size; simp; omega) ?_; intro v' W6 hown' hgrow _)
              refine ⟨⟨i + 1, false, X ++ [x], by congr 1, rfl, by omega, HNXT, hXm, ?_, own_grown (hoff8.alloc _) (hown8.alloc _) hgrow, Lib.hid (.inl ⟨rfl, by omega⟩)⟩, by simp only [intOf]; omega⟩
              rw [cellsOf_append, List.length_append]
              exact hown'
          · obtain rfl : i = n := by omega
            go_wp2_with fail
            go_loopw [11, 8] (fun x z wr => ∃ k : Nat, x = .int .i64 k ∧ k ≤ m ∧ wr.ownsRow w.heap.size 29 4 z (X.length + k) (cellsOf (X ++ (moved path v).take k)) ∧ Off [] w wr ∧ Hid (AllTo path v k)) (fun x _ _ => m - (intOf x).toNat)
            case atStart => exact ⟨0, rfl, by omega, by simpa using hown, hof, Lib.hid (fun i x hi _ => by omega)⟩
            case round =>
              clear hown hof
              obtain ⟨k, rfl, hk, hownk, hofk, hall⟩ := hrel
              by_cases hkm : k < m
              · have hkl : k < v.length := by rw [HM.out]; exact hkm
                obtain ⟨av, rfl, hna, hab⟩ := (HV.out.off hofk).get k hkl
                have hxk := List.getElem?_eq_getElem hkl
                have hysz := okVal_small HOV.out (List.getElem_mem hkl)
                generalize v[k] = y at *
                have HXK := Lib.hid hxk
                have c0 := hna.path
                have c1 := hna.kind
                have c2 := hna.data
                have c3 := hna.mode
                clear hna hxk
                by_cases hk0 : k = 0
                · subst hk0
                  have c0 : wr.cell? av = some (.string y.path) := c0
                  have c1 : wr.cell? ⟨av.block, av.off + 1, none⟩ = some (.int .i64 y.kind) := c1
                  have c2 : wr.cell? ⟨av.block, av.off + 2, none⟩ = some (.string y.data) := c2
                  have c3 : wr.cell? ⟨av.block, av.off + 3, none⟩ = some (.int .i64 y.mode) := c3
                  have hnp : newPath path 0 y.path = path := by rfl
                  have HNP := Lib.hid hnp
                  clear hnp
                  have hb1 := Blk.new wr 29 #[.string path, .int .i64 y.kind, .string y.data, .int .i64 y.mode]
                  have ho1 : Off [] wr (wr.alloc (.cells #[.string path, .int .i64 y.kind, .string y.data, .int .i64 y.mode] 29)) := (Off.refl _ wr).alloc _
                  have HB1 := Lib.hid hb1
                  have HO1 := Lib.hid ho1
                  clear hb1 ho1
                  cases hpk : okPath (str (newPath path 0 y.path))
                  · have HPB := Lib.hid (putC_bad (t := t) HXK.out hpk)
                    have HPK := Lib.hid (show okPath (str path) = false by rw [← HNP.out]; exact hpk)
                    clear hpk
                    go_wp2_with fail
                    refine (rpath_v path _ (by omega) false HPK.out).mono ?_
                    rintro e w7 ⟨rfl, ho7⟩
                    have hoff7 := (hofk.trans_nil HO1.out).trans_nil ho7
                    clear ho7
                    go_wp2_with fail
                    go_ret2
                    rw [E.out, HPB.out]; exact PutP.bad hoff7
                  · have HNX := Lib.hid (hall.out.succ HXK.out hpk)
                    have HPK := Lib.hid (show okPath (str path) = true by rw [← HNP.out]; exact hpk)
                    clear hpk
                    go_wp2_with fail
                    refine (rpath_v path _ (by omega) true HPK.out).mono ?_
                    rintro e w7 ⟨rfl, ho7⟩
                    have hoff7 := (hofk.trans_nil HO1.out).trans_nil ho7
                    have hown7 := own_keep hownk (HO1.out.trans_nil ho7)
                    have hb7 : Blk w7 wr.heap.size 29 #[.string path, .int .i64 y.kind, .string y.data, .int .i64 y.mode] := HB1.out.off ho7 (by simp)
                    have hc7 := hb7.cell
                    have hl7 := hb7.lt
                    clear ho7 hb7 hownk hofk c0 c1 c2 c3
                    go_wp2_with (at_builtin; refine wpList_append_own _ rfl _ _ 22 rfl w.heap.size 29 i0 node0.val 4 48 Tryd.underlying22 hi0 hz0 hz1 hz2 rfl (by decide) _ _ _ rfl (hown7.alloc _) ⟨w7.heap.size, 0, none⟩ 1 1 [_, _, _, _] rfl rfl (cells_four_at (Blk.new w7 _ _)) (by simp [Value.oneCell']) (by unfold maxLen; omega) (by omega) (by have := hoff7.size; simp; omega) ?_; intro v' W6 hown' hgrow _)
                    refine ⟨⟨0 + 1, rfl, by omega, ?_, own_grown (hoff7.alloc _) (hown7.alloc _) hgrow, HNX⟩, by simp only [intOf]; omega⟩
                    have hmg := moved_get (path := path) HXK.out
                    rw [take_get hmg, ← List.append_assoc, cellsOf_append, ← Nat.add_assoc, HNP.out]
                    exact hown'
                · have hkb : ((k : Int) == 0) = false := beq_eq_false_iff_ne.2 (by omega)
                  have cA : (wr.alloc (.cells #[.string y.path, .int .i64 y.kind, .string y.data, .int .i64 y.mode] 29)).cell? (av.add (k * 4)) = some (.string y.path) := Lib.cell?_alloc_some _ c0
                  have hnp : newPath path k y.path = path ++ (⟨#[47]⟩ : ByteArray) ++ y.path := by unfold newPath; rw [if_neg hk0]
                  have HNP := Lib.hid hnp
                  clear hnp
                  have hb1 := Blk.new wr 29 #[.string (path ++ (⟨#[47]⟩ : ByteArray) ++ y.path), .int .i64 y.kind, .string y.data, .int .i64 y.mode]
                  have ho1 : Off [] wr (wr.alloc (.cells #[.string (path ++ (⟨#[47]⟩ : ByteArray) ++ y.path), .int .i64 y.kind, .string y.data, .int .i64 y.mode] 29)) := (Off.refl _ wr).alloc _
                  have HB1 := Lib.hid hb1
                  have HO1 := Lib.hid ho1
                  clear hb1 ho1
                  cases hpk : okPath (str (newPath path k y.path))
                  · have HPB := Lib.hid (putC_bad (t := t) HXK.out hpk)
                    have HPK := Lib.hid (show okPath (str (path ++ (⟨#[47]⟩ : ByteArray) ++ y.path)) = false by rw [← HNP.out]; exact hpk)
                    clear hpk
                    have a1 : ∀ wx : World, (Op.stringOp .add path ⟨#[47]⟩).run Tryd.prog wx = .ok (.string (path ++ ⟨#[47]⟩)) wx := fun wx => run_string_add_sum wx _ _ (by show path.size + 1 ≤ _; omega)
                    have a2 : ∀ wx : World, (Op.stringOp .add (path ++ ⟨#[47]⟩) y.path).run Tryd.prog wx = .ok (.string (path ++ ⟨#[47]⟩ ++ y.path)) wx := fun wx => run_string_add_sum wx _ _ (by rw [ByteArray.size_append]; show path.size + 1 + y.path.size ≤ _; omega)
                    go_wp2_with fail
                    refine (rpath_v (path ++ (⟨#[47]⟩ : ByteArray) ++ y.path) _ (by rw [ByteArray.size_append, ByteArray.size_append]; show path.size + 1 + y.path.size ≤ _; omega) false HPK.out).mono ?_
                    rintro e w7 ⟨rfl, ho7⟩
                    have hoff7 := (hofk.trans_nil HO1.out).trans_nil ho7
                    clear ho7
                    go_wp2_with fail
                    go_ret2
                    rw [E.out, HPB.out]; exact PutP.bad hoff7
                  · have HNX := Lib.hid (hall.out.succ HXK.out hpk)
                    have HPK := Lib.hid (show okPath (str (path ++ (⟨#[47]⟩ : ByteArray) ++ y.path)) = true by rw [← HNP.out]; exact hpk)
                    clear hpk
                    have a1 : ∀ wx : World, (Op.stringOp .add path ⟨#[47]⟩).run Tryd.prog wx = .ok (.string (path ++ ⟨#[47]⟩)) wx := fun wx => run_string_add_sum wx _ _ (by show path.size + 1 ≤ _; omega)
                    have a2 : ∀ wx : World, (Op.stringOp .add (path ++ ⟨#[47]⟩) y.path).run Tryd.prog wx = .ok (.string (path ++ ⟨#[47]⟩ ++ y.path)) wx := fun wx => run_string_add_sum wx _ _ (by rw [ByteArray.size_append]; show path.size + 1 + y.path.size ≤ _; omega)
                    go_wp2_with fail
                    refine (rpath_v (path ++ (⟨#[47]⟩ : ByteArray) ++ y.path) _ (by rw [ByteArray.size_append, ByteArray.size_append]; show path.size + 1 + y.path.size ≤ _; omega) true HPK.out).mono ?_
                    rintro e w7 ⟨rfl, ho7⟩
                    have hoff7 := (hofk.trans_nil HO1.out).trans_nil ho7
                    have hown7 := own_keep hownk (HO1.out.trans_nil ho7)
                    have hb7 : Blk w7 wr.heap.size 29 #[.string (path ++ (⟨#[47]⟩ : ByteArray) ++ y.path), .int .i64 y.kind, .string y.data, .int .i64 y.mode] := HB1.out.off ho7 (by simp)
                    have hc7 := hb7.cell
                    have hl7 := hb7.lt
                    clear ho7 hb7 hownk hofk c0 c1 c2 c3
                    go_wp2_with (at_builtin; refine wpList_append_own _ rfl _ _ 22 rfl w.heap.size 29 i0 node0.val 4 48 Tryd.underlying22 hi0 hz0 hz1 hz2 rfl (by decide) _ _ _ rfl (hown7.alloc _) ⟨w7.heap.size, 0, none⟩ 1 1 [_, _, _, _] rfl rfl (cells_four_at (Blk.new w7 _ _)) (by simp [Value.oneCell']) (by unfold maxLen; omega) (by omega) (by have := hoff7.size; simp; omega) ?_; intro v' W6 hown' hgrow _)
                    refine ⟨⟨k + 1, by congr 1, by omega, ?_, own_grown (hoff7.alloc _) (hown7.alloc _) hgrow, HNX⟩, by simp only [intOf]; omega⟩
                    have hmg := moved_get (path := path) HXK.out
                    rw [take_get hmg, ← List.append_assoc, cellsOf_append, ← Nat.add_assoc, HNP.out]
                    exact hown'
              · obtain rfl : k = m := by omega
                have hownX := hownk
                have hall' := hall
                rw [List.take_of_length_le (by rw [moved_len, HM.out]; exact Nat.le_refl _)] at hownX
                have hXl2 : (X ++ moved path v).length = X.length + k := by rw [List.length_append, moved_len, HM.out]
                rw [← hXl2] at hownX
                clear hownk
                have HNXT := Lib.hid (show PutAtI t path v i (i + 1) true (X ++ moved path v) from by simpa using hat.out.last HN.out)
                have HALL := Lib.hid (show AllTo path v v.length by rw [HM.out]; exact hall'.out)
                have hXm : (X ++ moved path v).length ≤ 3000 := HNXT.out.len (by rw [HN.out]; exact hn1000) (by rw [HM.out]; exact hm1000)
                clear hat
                go_wp2_with fail
                refine ⟨⟨i + 1, true, X ++ moved path v, by congr 1, rfl, by omega, HNXT, hXm, hownX, hofk, Lib.hid (.inr HALL.out)⟩, by simp only [intOf]; omega⟩
        · have HALL := Lib.hid (hal.out.resolve_left (by simp))
          by_cases hlt : i < n
          · have hil : i < t.length := by rw [HN.out]; exact hlt
            obtain ⟨a, rfl, hna, hab⟩ := HR.out.get i hil
            have hxi := List.getElem?_eq_getElem hil
            have hxs := (HFT.out _ (List.getElem_mem hil)).1
            generalize t[i] = x at *
            have HX := Lib.hid hxi
            have HRX := Lib.hid (fun (W : World) (ho : Off [] w W) => hna.off ho (by rw [add_block]; exact hab))
            clear hna hxi
            cases hw : within x.p (str path)
            · have HW := Lib.hid (show within (str x.path) (str path) = false from hw)
              have HNXT := Lib.hid (show PutAtI t path v n (i + 1) true (X ++ [x]) from by simpa [hw, bool_self] using hat.out.next HN.out HS.out HOP.out HX.out)
              have hXm : (X ++ [x]).length ≤ 3000 := HNXT.out.len (by rw [HN.out]; exact hn1000) (by rw [HM.out]; exact hm1000)
              clear hw hat
              have c0 := (HRX.out _ hof).path
              go_wp2_with fail
              refine (rwithin_v x.path path _ hxs hps false HW.out).mono ?_
              rintro e w8 ⟨rfl, ho8⟩
              have hoff8 := hof.trans_nil ho8
              have hown8 := own_keep hown ho8
              clear c0 ho8 hown hof
              have e0 := (HRX.out _ hoff8).path
              have e1 := (HRX.out _ hoff8).kind
              have e2 := (HRX.out _ hoff8).data
              have e3 := (HRX.out _ hoff8).mode
              go_wp2_with (at_builtin; refine wpList_append_own _ rfl _ _ 22 rfl w.heap.size 29 i0 node0.val 4 48 Tryd.underlying22 hi0 hz0 hz1 hz2 rfl (by decide) _ _ _ rfl (hown8.alloc _) ⟨w8.heap.size, 0, none⟩ 1 1 [_, _, _, _] rfl rfl (cells_four_at (Blk.new w8 _ _)) (by simp [Value.oneCell']) (by unfold maxLen; omega) (by omega) (by have := hoff8.size; simp; omega) ?_; intro v' W6 hown' hgrow _)
              refine ⟨⟨i + 1, true, X ++ [x], by congr 1, rfl, by omega, HNXT, hXm, ?_, own_grown (hoff8.alloc _) (hown8.alloc _) hgrow, Lib.hid (.inr HALL.out)⟩, by simp only [intOf]; omega⟩
              rw [cellsOf_append, List.length_append]
              exact hown'
            · have HW := Lib.hid (show within (str x.path) (str path) = true from hw)
              have HNXT := Lib.hid (show PutAtI t path v n (i + 1) true (X) from by simpa [hw, bool_self] using hat.out.next HN.out HS.out HOP.out HX.out)
              have hXm : (X).length ≤ 3000 := HNXT.out.len (by rw [HN.out]; exact hn1000) (by rw [HM.out]; exact hm1000)
              clear hw hat
              have c0 := (HRX.out _ hof).path
              go_wp2_with fail
              refine (rwithin_v x.path path _ hxs hps true HW.out).mono ?_
              rintro e w8 ⟨rfl, ho8⟩
              have hoff8 := hof.trans_nil ho8
              have hown8 := own_keep hown ho8
              clear c0 ho8 hown hof
              go_wp2_with fail
              refine ⟨⟨i + 1, true, X, by congr 1, rfl, by omega, HNXT, hXm, hown8, hoff8, Lib.hid (.inr HALL.out)⟩, by simp only [intOf]; omega⟩
          · obtain rfl : i = n := by omega
            have HNXT := Lib.hid (show PutAtI t path v i (i + 1) true X from by simpa using hat.out.last HN.out)
            go_wp2_with fail
            refine ⟨⟨i + 1, true, X, by congr 1, rfl, by omega, HNXT, hXl, hown, hof, Lib.hid (.inr HALL.out)⟩, by simp only [intOf]; omega⟩
      · have hin' : n < i := by omega
        have HX := Lib.hid (hat.out.end_ hin)
        have HALL := Lib.hid (hal.out.resolve_left (fun h => hin h.2))
        have HOWN := Lib.hid hown
        obtain ⟨pz, cz, rfl, -, hcz, -, -⟩ := own_row hown
        clear hown
        by_cases hbig : X.length ≤ 1000
        · go_wp2_with fail
          go_ret2
          rw [E.out, putC_len HALL.out, ← HX.out, if_pos hbig]
          exact ⟨_, rfl, HOWN.out, hof⟩
        · go_wp2_with fail
          go_ret2
          rw [E.out, putC_len HALL.out, ← HX.out, if_neg hbig]
          exact PutP.bad hof
end Go.Proofs.YtpaeihdkggbeoaaDoor
