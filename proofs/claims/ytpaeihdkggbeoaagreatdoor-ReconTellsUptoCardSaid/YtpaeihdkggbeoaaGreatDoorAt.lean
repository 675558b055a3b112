/- tree.At: the walk. Conditions: the tables of unicode/utf8 are laid. -/
import Derived.Test.YtpaeihdkggbeoaaGreatDoorPut2
import Derived.Test.YtpaeihdkggbeoaaGreatDoorBack2
namespace Go.Proofs.YtpaeihdkggbeoaaGreatDoor
open Go.RowKit Go.Op

def OwnT (t : List Node) (w : World) (e : Ending) (w' : World) : Prop :=
  ∃ x, e = .returned x ∧ w'.ownsRow w.heap.size 40 4 x t.length (cellsOf t) ∧ Off [] w w'
theorem OwnT.nil {w w' : World} (ho : Off [] w w') : OwnT [] w (.returned (.slice none 0 0)) w' := ⟨_, rfl, ⟨rfl, .inl ⟨rfl, rfl⟩⟩, ho⟩
theorem trim_eq {p s : Str} (h : s = p ∨ ∃ r, s = p ++ 47 :: r) : Lib.trimPrefix (Lib.trimPrefix s p) [47] = s.drop (p.length + 1) := by
  unfold Lib.trimPrefix Lib.hasPrefix
  rcases h with rfl | ⟨r, rfl⟩
  · have h1 : s.isPrefixOf s = true := by rw [List.isPrefixOf_iff_prefix]; exact List.prefix_refl _
    rw [if_pos h1, List.drop_length, if_neg (by decide), List.drop_eq_nil_of_le (Nat.le_succ _)]
  · have h1 : p.isPrefixOf (p ++ 47 :: r) = true := by rw [List.isPrefixOf_iff_prefix]; exact List.prefix_append _ _
    rw [if_pos h1]
    have h2 : (p ++ 47 :: r).drop p.length = 47 :: r := by simp
    rw [h2, if_pos (by simp)]
    rw [List.drop_append]
    simp
theorem trim1_any (x p : ByteArray) (w : World) : Calls Tryz.prog 32 #[.string x, .string p] w fun e w' => e = .returned (.string (bs (Lib.trimPrefix (str x) (str p)))) ∧ w' = w := Tryz.strings_TrimPrefix x p w
theorem trim2_any (x : Str) (q : Str) (w : World) (h : Lib.trimPrefix x [47] = q) : Calls Tryz.prog 32 #[.string (bs x), .string ⟨#[47]⟩] w fun e w' => e = .returned (.string (bs q)) ∧ w' = w := by
  have := Tryz.strings_TrimPrefix (bs x) ⟨#[47]⟩ w
  have e : (bs x).data.toList = x := str_bs x
  rw [e] at this
  have e2 : (⟨#[47]⟩ : ByteArray).data.toList = [47] := rfl
  rw [e2, h] at this
  exact this
/-- as far as the paths are trimmed -/
def trimTo (p : Str) (v : List Node) (k : Nat) : List Node := v.mapIdx fun i n => if i < k then trimN p n else n
theorem trimTo_zero (p : Str) (v : List Node) : trimTo p v 0 = v := by
  unfold trimTo
  apply List.ext_getElem?
  intro i
  rw [List.getElem?_mapIdx]
  cases v[i]? <;> simp
theorem trimTo_get {p : Str} {v : List Node} {k i : Nat} {x : Node} (h : v[i]? = some x) : (trimTo p v k)[i]? = some (if i < k then trimN p x else x) := by
  unfold trimTo; rw [List.getElem?_mapIdx, h]; rfl
theorem trimTo_succ {p : Str} {v : List Node} {k : Nat} {x : Node} (h : v[k]? = some x) : trimTo p v (k + 1) = (trimTo p v k).set k (trimN p x) := by
  apply List.ext_getElem?
  intro i
  rw [List.getElem?_set]
  unfold trimTo
  rw [List.getElem?_mapIdx, List.getElem?_mapIdx, List.length_mapIdx]
  have hk := (List.getElem?_eq_some_iff.1 h).1
  by_cases hik : k = i
  · subst hik
    rw [h]; simp [hk]
  · rw [if_neg hik]
    cases v[i]? with
    | none => rfl
    | some y =>
      have : (i < k + 1) = (i < k) := by apply propext; omega
      simp [this]
theorem trimTo_all (p : Str) (v : List Node) : trimTo p v v.length = v.map (trimN p) := by
  apply List.ext_getElem?
  intro i
  unfold trimTo
  rw [List.getElem?_mapIdx, List.getElem?_map]
  cases h : v[i]? with
  | none => rfl
  | some y => simp [(List.getElem?_eq_some_iff.1 h).1]
theorem Sl.midV {w : World} {a : Addr} {t : List Node} {n i j : Nat} (h : Row w (some a) t) (hl : t.length = n) (hij : i ≤ j) (hj : j ≤ n) : Row w (some (a.add (i * 4))) ((t.drop i).take (j - i)) ∧ ((t.drop i).take (j - i)).length = j - i :=
  ⟨(h.drop i).take _, by rw [List.length_take, List.length_drop]; omega⟩
set_option maxRecDepth 100000 in
set_option maxHeartbeats 8000000 in
theorem at_any (p : Option Addr) (t : List Node) (n c : Nat) (path : ByteArray) (w : World) (hR : Row w p t) (hn : t.length = n) (hc : n ≤ c) (hcm : c ≤ maxLen) (hpn : p = none → t = [] ∧ c = 0) (hF : Fits t) (hT : Tabs w) :
    Calls Tryz.prog 16 #[.slice p n c, .string path] w (OwnT (atR t (str path)) w) := by
  obtain ⟨i0, hi0, hz0, hz1, hz2⟩ := info_parts infoNode
  have HN := Lib.hid hn
  have HR := Lib.hid hR
  have HPN := Lib.hid hpn
  have HRC := Lib.hid (fun (W : World) (ho : Off [] w W) (v : Int) (hv : chkV t = v) => check_v p t n c W (hR.off ho) hn hc (by omega) hF (hT.off ho) v hv)
  have HSP := Lib.hid (fun (hs : Sorted t) (hb : n ≤ 1000) (hz : path.size ≤ maxLen) (W : World) (ho : Off [] w W) => span_any p t n c path W (hR.off ho) hn (by omega) hs hF hz (hT.off ho))
  have hE : path.toList = [] ↔ str path = [] := by rw [toList_str]
  clear hn hR hpn hF
  cases hok : okTree t
  · have E := Lib.hid (show atR t (str path) = [] by unfold atR; rw [hok]; rfl)
    have HO := Lib.hid hok
    clear hok
    go_enter Tryz.func16, Tryz.ntmps16
    go_wp2_with fail
    refine (HRC.out _ (Off.refl _ _) 60 (chkV_bad HO.out)).mono ?_
    rintro e w1 ⟨rfl, ho⟩
    go_wp2_with fail
    go_ret
    rw [E.out]; exact OwnT.nil ho
  have HOK := Lib.hid hok
  have hn1 : n ≤ 1000 := by rw [← HN.out]; exact okTree_len hok
  clear hok
  by_cases h0 : str path = []
  · have g := hE.2 h0
    have g' : path.toList.isEmpty = true := by simp [g]
    have E := Lib.hid (show atR t (str path) = rootN :: t by unfold atR; rw [if_pos HOK.out, if_pos h0])
    clear hE h0
    go_enter Tryz.func16, Tryz.ntmps16
    go_wp2_with fail
    refine (HRC.out _ (Off.refl _ _) 0 (chkV_ok HOK.out)).mono ?_
    rintro e w1 ⟨rfl, ho⟩
    have hown : (w1.alloc (.cells #[.string ⟨#[]⟩, .int .i64 2, .string ⟨#[]⟩, .int .i64 0] 40)).ownsRow w1.heap.size 40 4 (.slice (some ⟨w1.heap.size, 0, none⟩) 1 1) 1 (cellsOf [rootN]) :=
      ⟨rfl, .inr ⟨_, 1, _, rfl, Nat.le_refl _, heap_alloc_new w1 _, by omega, by decide, rfl, rfl⟩⟩
    cases p with
    | none =>
      obtain ⟨rfl, rfl⟩ := HPN.out rfl
      obtain rfl : 0 = n := HN.out
      go_wp2_with (at_builtin; refine wpList_append_own_none rfl _ _ 22 rfl w1.heap.size 40 i0 4 Tryz.underlying22 hi0 _ _ _ rfl hown rfl ?_)
      go_ret
      rw [E.out]
      exact ⟨_, rfl, own_base hown ho.size, ho.alloc _⟩
    | some a =>
      have HC := Lib.hid (fun (j : Nat) (u : Value) (hj : (cellsOf t)[j]? = some u) => (HR.out.off ho).cells hj)
      have HO := Lib.hid (cellsOf_one (t := t))
      have HCL := Lib.hid (show (cellsOf t).length = n * 4 by rw [cellsOf_len, HN.out])
      go_wp2_with (at_builtin; refine wpList_append_own _ rfl _ _ 22 rfl w1.heap.size 40 i0 node0.val 4 48 Tryz.underlying22 hi0 hz0 hz1 hz2 rfl (by decide) _ _ _ rfl hown a n c (cellsOf t) rfl HCL.out (fun j u hj => Lib.cell?_alloc_some _ (HC.out j u hj)) HO.out (by unfold maxLen; omega) (by omega) (by simp) ?_; intro v' W6 hown' hgrow _)
      go_ret
      rw [E.out]
      refine ⟨v', rfl, ?_, own_grown (ho.alloc _) (own_base hown ho.size) hgrow⟩
      have e1 : (rootN :: t).length = 1 + n := by rw [List.length_cons, HN.out]; omega
      rw [e1, show rootN :: t = [rootN] ++ t from rfl, cellsOf_append]
      exact own_base hown' ho.size
  have g : ¬ path.toList = [] := fun e => h0 (hE.1 e)
  have g' : path.toList.isEmpty = false := by simpa using g
  cases hokP : okPath (str path)
  · have E := Lib.hid (show atR t (str path) = [] by unfold atR; rw [if_pos HOK.out, if_neg h0, hokP]; rfl)
    have HOP := Lib.hid hokP
    clear hokP hE h0
    go_enter Tryz.func16, Tryz.ntmps16
    go_wp2_with fail
    refine (HRC.out _ (Off.refl _ _) 0 (chkV_ok HOK.out)).mono ?_
    rintro e w1 ⟨rfl, ho⟩
    go_wp2_with fail
    refine (path_v path _ (hT.off ho) false HOP.out).mono ?_
    rintro e w2 ⟨rfl, ho2⟩
    have ho := ho.trans_nil ho2
    clear ho2
    go_wp2_with fail
    go_ret
    rw [E.out]; exact OwnT.nil ho
  have E := Lib.hid (show atR t (str path) = (inAt t (str path)).map (trimN (str path)) by unfold atR; rw [if_pos HOK.out, if_neg h0, if_pos hokP])
  have HOP := Lib.hid hokP
  have hps : path.size ≤ 400 := by rw [← str_size]; exact okPath_size hokP
  clear hokP hE h0
  go_enter Tryz.func16, Tryz.ntmps16
  go_wp2_with fail
  refine (HRC.out _ (Off.refl _ _) 0 (chkV_ok HOK.out)).mono ?_
  rintro e w1 ⟨rfl, ho⟩
  go_wp2_with fail
  refine (path_v path _ (hT.off ho) true HOP.out).mono ?_
  rintro e w2 ⟨rfl, ho2⟩
  have ho := ho.trans_nil ho2
  clear ho2
  go_wp2_with fail
  refine (HSP.out (okTree_sorted HOK.out) hn1 (by unfold maxLen; omega) _ ho).mono ?_
  rintro e w3 ⟨i, j, rfl, hsp, ho2⟩
  have ho := ho.trans_nil ho2
  have hij := hsp.ij
  have hjn : j ≤ n := by rw [← HN.out]; exact hsp.le
  have HIN := Lib.hid (show (t.drop i).take (j - i) = inAt t (str path) from hsp.mid HOK.out HOP.out)
  clear ho2 hsp
  cases p with
  | none =>
    obtain ⟨ht0, rfl⟩ := HPN.out rfl
    have HIN2 := Lib.hid (show ([] : List Node) = inAt t (str path) by rw [ht0]; rfl)
    obtain rfl : 0 = n := by rw [← HN.out, ht0]; rfl
    clear ht0
    obtain rfl : 0 = j := by omega
    obtain rfl : 0 = i := by omega
    go_wp2_with fail
    refine (clone_any none [] 0 0 _ (fun h => absurd rfl h) rfl (by omega) (fun _ => rfl)).mono ?_
    rintro e w4 ⟨own, rfl, hown, ho2⟩
    have hown := own_base hown ho.size
    have hof4 := ho.trans_nil ho2
    rw [HIN2.out] at hown
    obtain ⟨m, hm⟩ : ∃ m, 0 = m := ⟨_, rfl⟩
    rw [hm] at hown
    have hml : (inAt t (str path)).length = m := by rw [← hm, ← HIN2.out]; rfl
    have HM := Lib.hid hml
    obtain ⟨po, co, rfl⟩ : ∃ po co, own = .slice po m co := by
      rcases hown.2 with ⟨h1, h2⟩ | ⟨g, cap, cur, h1, _⟩
      · exact ⟨none, 0, by rw [h1, h2]⟩
      · exact ⟨_, _, h1⟩
    clear ho2 ho hml hm
    have hm1 : m ≤ 1000 := by rw [← HM.out]; exact Nat.le_trans (filter_len _ _) (okTree_len HOK.out)
    go_wp2_with fail
    go_loopw [34] (fun x wr => ∃ k : Nat, x = .int .i64 k ∧ k ≤ m ∧ wr.ownsRow w.heap.size 40 4 (.slice po m co) m (cellsOf (trimTo (str path) (inAt t (str path)) k)) ∧ Off [] w wr) (fun x _ => m - (intOf x).toNat)
    case atStart => exact ⟨0, rfl, by omega, by rw [trimTo_zero]; exact hown, hof4⟩
    case round =>
      clear hown hof4
      obtain ⟨k, rfl, hk, hown, hof⟩ := hrel
      by_cases hkm : k < m
      · obtain ⟨g, cg, hgv, hcg⟩ := own_some hown (by omega)
        cases hgv
        have hkl : k < (inAt t (str path)).length := by rw [HM.out]; exact hkm
        have hxk := List.getElem?_eq_getElem hkl
        have hxm := mem_inAt.1 (List.getElem_mem hkl)
        generalize (inAt t (str path))[k] = y at *
        have htr := trim_eq ((within_iff (okTree_path HOK.out hxm.1) HOP.out).1 hxm.2)
        have HTR := Lib.hid htr
        have hmk := trimTo_get (p := str path) (k := k) hxk
        rw [if_neg (by omega)] at hmk
        have c0 := own_cell hown (cellsOf_at _ _ _ hmk)
        have f0 := own_frozen hown (k * 4)
        have hg0 := own_lt hown
        have HS := Lib.hid (own_set hown (by omega) (k * 4) (.string (bs (y.p.drop ((str path).length + 1)))))
        have HO := Lib.hid (hof.setCell (p := ⟨g, k * 4, none⟩) (.inl hg0.1) (.string (bs (y.p.drop ((str path).length + 1)))))
        have HNX := Lib.hid (show (cellsOf (trimTo (str path) (inAt t (str path)) k)).set (k * 4) (.string (bs (y.p.drop ((str path).length + 1)))) = cellsOf (trimTo (str path) (inAt t (str path)) (k + 1)) by rw [cellsOf_set _ _ _ _ hmk, trimTo_succ hxk]; rfl)
        clear hown hof htr hmk hxm hxk
        go_wp2_with fail
        refine (trim1_any y.path path _).mono ?_
        rintro e w5 ⟨rfl, e5⟩
        subst e5
        go_wp2_with fail
        refine (trim2_any (Lib.trimPrefix (str y.path) (str path)) (y.p.drop ((str path).length + 1)) _ HTR.out).mono ?_
        rintro e w6 ⟨rfl, e6⟩
        subst e6
        go_wp2_with fail
        refine ⟨⟨k + 1, by congr 1, by omega, ?_, HO.out⟩, by simp only [intOf]; omega⟩
        rw [← HNX.out]
        exact HS.out
      · obtain rfl : k = m := by omega
        have e0 := trimTo_all (str path) (inAt t (str path))
        rw [HM.out] at e0
        rw [e0] at hown
        go_wp2_with fail
        go_ret
        rw [E.out]
        exact ⟨_, rfl, by rw [List.length_map, HM.out]; exact hown, hof⟩
  | some a =>
    have HRA := Lib.hid (HR.out.off ho)
    have hjci : (j : Int) ≤ c := by omega
    have hiji : (i : Int) ≤ j := by omega
    have hjc : j ≤ c := by omega
    by_cases hci : c = i
    · subst hci
      obtain rfl : c = j := by omega
      have HIN2 := Lib.hid (show ([] : List Node) = inAt t (str path) by rw [← HIN.out]; simp)
      go_wp2_with fail
      refine (clone_any (some a) [] 0 0 _ (fun h => absurd rfl h) rfl (by omega) (fun h => by cases h)).mono ?_
      rintro e w4 ⟨own, rfl, hown, ho2⟩
      have hown := own_base hown ho.size
      have hof4 := ho.trans_nil ho2
      rw [HIN2.out] at hown
      obtain ⟨m, hm⟩ : ∃ m, 0 = m := ⟨_, rfl⟩
      rw [hm] at hown
      have hml : (inAt t (str path)).length = m := by rw [← hm, ← HIN2.out]; rfl
      have HM := Lib.hid hml
      obtain ⟨po, co, rfl⟩ : ∃ po co, own = .slice po m co := by
        rcases hown.2 with ⟨h1, h2⟩ | ⟨g, cap, cur, h1, _⟩
        · exact ⟨none, 0, by rw [h1, h2]⟩
        · exact ⟨_, _, h1⟩
      clear ho2 ho hml hm
      have hm1 : m ≤ 1000 := by rw [← HM.out]; exact Nat.le_trans (filter_len _ _) (okTree_len HOK.out)
      go_wp2_with fail
      go_loopw [34] (fun x wr => ∃ k : Nat, x = .int .i64 k ∧ k ≤ m ∧ wr.ownsRow w.heap.size 40 4 (.slice po m co) m (cellsOf (trimTo (str path) (inAt t (str path)) k)) ∧ Off [] w wr) (fun x _ => m - (intOf x).toNat)
      case atStart => exact ⟨0, rfl, by omega, by rw [trimTo_zero]; exact hown, hof4⟩
      case round =>
        clear hown hof4
        obtain ⟨k, rfl, hk, hown, hof⟩ := hrel
        by_cases hkm : k < m
        · obtain ⟨g, cg, hgv, hcg⟩ := own_some hown (by omega)
          cases hgv
          have hkl : k < (inAt t (str path)).length := by rw [HM.out]; exact hkm
          have hxk := List.getElem?_eq_getElem hkl
          have hxm := mem_inAt.1 (List.getElem_mem hkl)
          generalize (inAt t (str path))[k] = y at *
          have htr := trim_eq ((within_iff (okTree_path HOK.out hxm.1) HOP.out).1 hxm.2)
          have HTR := Lib.hid htr
          have hmk := trimTo_get (p := str path) (k := k) hxk
          rw [if_neg (by omega)] at hmk
          have c0 := own_cell hown (cellsOf_at _ _ _ hmk)
          have f0 := own_frozen hown (k * 4)
          have hg0 := own_lt hown
          have HS := Lib.hid (own_set hown (by omega) (k * 4) (.string (bs (y.p.drop ((str path).length + 1)))))
          have HO := Lib.hid (hof.setCell (p := ⟨g, k * 4, none⟩) (.inl hg0.1) (.string (bs (y.p.drop ((str path).length + 1)))))
          have HNX := Lib.hid (show (cellsOf (trimTo (str path) (inAt t (str path)) k)).set (k * 4) (.string (bs (y.p.drop ((str path).length + 1)))) = cellsOf (trimTo (str path) (inAt t (str path)) (k + 1)) by rw [cellsOf_set _ _ _ _ hmk, trimTo_succ hxk]; rfl)
          clear hown hof htr hmk hxm hxk
          go_wp2_with fail
          refine (trim1_any y.path path _).mono ?_
          rintro e w5 ⟨rfl, e5⟩
          subst e5
          go_wp2_with fail
          refine (trim2_any (Lib.trimPrefix (str y.path) (str path)) (y.p.drop ((str path).length + 1)) _ HTR.out).mono ?_
          rintro e w6 ⟨rfl, e6⟩
          subst e6
          go_wp2_with fail
          refine ⟨⟨k + 1, by congr 1, by omega, ?_, HO.out⟩, by simp only [intOf]; omega⟩
          rw [← HNX.out]
          exact HS.out
        · obtain rfl : k = m := by omega
          have e0 := trimTo_all (str path) (inAt t (str path))
          rw [HM.out] at e0
          rw [e0] at hown
          go_wp2_with fail
          go_ret
          rw [E.out]
          exact ⟨_, rfl, by rw [List.length_map, HM.out]; exact hown, hof⟩
    · have hci' : ¬ (c : Int) = i := by omega
      go_wp2_with fail
      refine (clone_any (some (a.add (i * 4))) ((t.drop i).take (j - i)) (j - i) (c - i) _ (Sl.midV HRA.out HN.out hij hjn).1 (Sl.midV HRA.out HN.out hij hjn).2 (by omega) (fun h => by cases h)).mono ?_
      rintro e w4 ⟨own, rfl, hown, ho2⟩
      have hown := own_base hown ho.size
      have hof4 := ho.trans_nil ho2
      rw [HIN.out] at hown
      obtain ⟨m, hm⟩ : ∃ m, j - i = m := ⟨_, rfl⟩
      rw [hm] at hown
      have hml : (inAt t (str path)).length = m := by rw [← hm, ← HIN.out]; exact (Sl.midV HRA.out HN.out hij hjn).2
      have HM := Lib.hid hml
      obtain ⟨po, co, rfl⟩ : ∃ po co, own = .slice po m co := by
        rcases hown.2 with ⟨h1, h2⟩ | ⟨g, cap, cur, h1, _⟩
        · exact ⟨none, 0, by rw [h1, h2]⟩
        · exact ⟨_, _, h1⟩
      clear ho2 ho hml hm
      have hm1 : m ≤ 1000 := by rw [← HM.out]; exact Nat.le_trans (filter_len _ _) (okTree_len HOK.out)
      go_wp2_with fail
      go_loopw [34] (fun x wr => ∃ k : Nat, x = .int .i64 k ∧ k ≤ m ∧ wr.ownsRow w.heap.size 40 4 (.slice po m co) m (cellsOf (trimTo (str path) (inAt t (str path)) k)) ∧ Off [] w wr) (fun x _ => m - (intOf x).toNat)
      case atStart => exact ⟨0, rfl, by omega, by rw [trimTo_zero]; exact hown, hof4⟩
      case round =>
        clear hown hof4
        obtain ⟨k, rfl, hk, hown, hof⟩ := hrel
        by_cases hkm : k < m
        · obtain ⟨g, cg, hgv, hcg⟩ := own_some hown (by omega)
          cases hgv
          have hkl : k < (inAt t (str path)).length := by rw [HM.out]; exact hkm
          have hxk := List.getElem?_eq_getElem hkl
          have hxm := mem_inAt.1 (List.getElem_mem hkl)
          generalize (inAt t (str path))[k] = y at *
          have htr := trim_eq ((within_iff (okTree_path HOK.out hxm.1) HOP.out).1 hxm.2)
          have HTR := Lib.hid htr
          have hmk := trimTo_get (p := str path) (k := k) hxk
          rw [if_neg (by omega)] at hmk
          have c0 := own_cell hown (cellsOf_at _ _ _ hmk)
          have f0 := own_frozen hown (k * 4)
          have hg0 := own_lt hown
          have HS := Lib.hid (own_set hown (by omega) (k * 4) (.string (bs (y.p.drop ((str path).length + 1)))))
          have HO := Lib.hid (hof.setCell (p := ⟨g, k * 4, none⟩) (.inl hg0.1) (.string (bs (y.p.drop ((str path).length + 1)))))
          have HNX := Lib.hid (show (cellsOf (trimTo (str path) (inAt t (str path)) k)).set (k * 4) (.string (bs (y.p.drop ((str path).length + 1)))) = cellsOf (trimTo (str path) (inAt t (str path)) (k + 1)) by rw [cellsOf_set _ _ _ _ hmk, trimTo_succ hxk]; rfl)
          clear hown hof htr hmk hxm hxk
          go_wp2_with fail
          refine (trim1_any y.path path _).mono ?_
          rintro e w5 ⟨rfl, e5⟩
          subst e5
          go_wp2_with fail
          refine (trim2_any (Lib.trimPrefix (str y.path) (str path)) (y.p.drop ((str path).length + 1)) _ HTR.out).mono ?_
          rintro e w6 ⟨rfl, e6⟩
          subst e6
          go_wp2_with fail
          refine ⟨⟨k + 1, by congr 1, by omega, ?_, HO.out⟩, by simp only [intOf]; omega⟩
          rw [← HNX.out]
          exact HS.out
        · obtain rfl : k = m := by omega
          have e0 := trimTo_all (str path) (inAt t (str path))
          rw [HM.out] at e0
          rw [e0] at hown
          go_wp2_with fail
          go_ret
          rw [E.out]
          exact ⟨_, rfl, by rw [List.length_map, HM.out]; exact hown, hof⟩
end Go.Proofs.YtpaeihdkggbeoaaGreatDoor
