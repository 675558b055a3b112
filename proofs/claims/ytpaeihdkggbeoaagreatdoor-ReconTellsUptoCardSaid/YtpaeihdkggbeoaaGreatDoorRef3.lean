/- hawserref01: Path, Split, Parent, Order, Within, Texts: the walks. Conditions: no string is longer than 1048576 bytes. -/
import Derived.Test.YtpaeihdkggbeoaaGreatDoorRef2
namespace Go.Proofs.YtpaeihdkggbeoaaGreatDoor
open Go.RowKit Go.Op

theorem partsB_len (s : ByteArray) : (partsB s).length = (str s).count 47 + 1 := by unfold partsB; rw [List.length_map, parts_length]
theorem partsB_get {s : ByteArray} {i : Nat} {x : ByteArray} (h : (partsB s)[i]? = some x) : (parts (str s))[i]? = some (str x) := by
  unfold partsB at h
  rw [List.getElem?_map] at h
  cases h2 : (parts (str s))[i]? with
  | none => rw [h2] at h; cases h
  | some y => rw [h2] at h; cases h; rw [str_bs]
theorem drop_get {α : Type} {l : List α} {i : Nat} {x : α} (h : l[i]? = some x) : l.drop i = x :: l.drop (i + 1) := by
  obtain ⟨h1, h2⟩ := List.getElem?_eq_some_iff.1 h
  rw [List.drop_eq_getElem_cons h1, h2]
theorem part_size {s : ByteArray} {i : Nat} {x : ByteArray} (h : (partsB s)[i]? = some x) : x.size ≤ s.size := by
  have hm := List.mem_of_getElem? (partsB_get h)
  have hj := joinP_parts (str s)
  rw [← str_size, ← str_size, ← hj]
  generalize parts (str s) = l at *
  clear hj h
  induction l with
  | nil => cases hm
  | cons y l ih =>
    cases l with
    | nil => simp at hm; subst hm; exact Nat.le_refl _
    | cons z l =>
      rw [joinP_cons y (by simp)]
      rcases List.mem_cons.1 hm with e | hm
      · rw [e]; simp
      · have := ih hm
        simp at this ⊢
        omega
set_option maxRecDepth 100000 in
set_option maxHeartbeats 4000000 in
theorem rpath_any (s : ByteArray) (w : World) (hs : s.size ≤ 1048576) :
    Calls Tryz.prog 25 #[.string s] w fun e w' => e = .returned (.bool (okPath (str s))) ∧ Off [] w w' := by
  have hk := Lib.hid (okPath_eq s)
  have hpl := partsB_len s
  go_enter Tryz.func25, Tryz.ntmps25
  go_wp2_with fail
  refine (rparts_any s _ hs).mono ?_
  rintro e w1 ⟨v, rfl, hown, ho⟩
  obtain ⟨pl, cap, rfl, hstr⟩ := own_strs hown
  have HSTR := Lib.hid hstr
  have hcl : (str s).count 47 ≤ s.size := by rw [← str_size]; exact List.count_le_length
  clear hown hstr
  obtain ⟨m, hm⟩ : ∃ m, (partsB s).length = m := ⟨_, rfl⟩
  rw [hm]
  rw [hm] at hpl
  have HM := Lib.hid hm
  clear hm
  by_cases h1 : s.size ≤ 400
  · by_cases h2 : (str s).count 47 < 16
    · have HK := Lib.hid (show okPath (str s) = (parts (str s)).all okName by rw [hk.out]; simp [h1, h2])
      clear hk
      have hm16 : m ≤ 16 := by omega
      generalize hcn : (str s).count 47 = cn at *
      have HCN := Lib.hid hcn
      have HPL := Lib.hid hpl
      clear hcn hpl
      go_wp2_with fail
      go_loopw [4] (fun x wr => ∃ i : Nat, x = .int .i64 i ∧ i ≤ m ∧ wr = w1 ∧ Hid ((parts (str s)).all okName = ((parts (str s)).drop i).all okName)) (fun x _ => m - (intOf x).toNat)
      case atStart => exact ⟨0, rfl, by omega, rfl, Lib.hid rfl⟩
      case round =>
        obtain ⟨i, rfl, hi, rfl, hall⟩ := hrel
        by_cases hlt : i < m
        · have hil : i < (partsB s).length := by rw [HM.out]; exact hlt
          have hxi := List.getElem?_eq_getElem hil
          generalize (partsB s)[i] = x at *
          obtain ⟨g, rfl, hg, hc⟩ := HSTR.out i x hxi
          have hxs := part_size hxi
          have HDR := Lib.hid (drop_get (partsB_get hxi))
          have HXI := Lib.hid hxi
          clear hxi
          cases hv : okName (str x)
          · have HV := Lib.hid hv
            clear hv
            go_wp2_with fail
            refine (rname_any x _ (by omega)).mono ?_
            rintro e w2 ⟨rfl, e2⟩
            subst e2
            rw [HV.out]
            go_wp2_with fail
            go_ret
            exact ⟨by rw [HK.out, hall.out, HDR.out, List.all_cons, HV.out]; rfl, ho⟩
          · have HV := Lib.hid hv
            clear hv
            go_wp2_with fail
            refine (rname_any x _ (by omega)).mono ?_
            rintro e w2 ⟨rfl, e2⟩
            subst e2
            rw [HV.out]
            go_wp2_with fail
            refine ⟨⟨i + 1, by congr 1, by omega, by trivial, Lib.hid ?_⟩, by simp only [intOf]; omega⟩
            rw [hall.out, HDR.out, List.all_cons, HV.out]; rfl
        · obtain rfl : i = m := by omega
          go_wp2_with fail
          go_ret
          have : (parts (str s)).drop i = [] := List.drop_eq_nil_of_le (by have := HM.out; unfold partsB at this; rw [List.length_map] at this; omega)
          exact ⟨by rw [HK.out, hall.out, this]; rfl, ho⟩
    · have HK := Lib.hid (show okPath (str s) = false by rw [hk.out]; simp [h2])
      clear hk
      have hm16 : 16 < m := by omega
      have HPL := Lib.hid hpl
      clear hpl
      go_wp2_with fail
      go_ret
      exact ⟨by rw [HK.out]; rfl, ho⟩
  · have HK := Lib.hid (show okPath (str s) = false by rw [hk.out]; simp [h1])
    clear hk
    have HPL := Lib.hid hpl
    clear hpl
    go_wp2_with fail
    go_ret
    exact ⟨by rw [HK.out]; rfl, ho⟩
def splitB (s : ByteArray) : List ByteArray := if okPath (str s) then partsB s else []
set_option maxRecDepth 100000 in
theorem rsplit_any (s : ByteArray) (w : World) (hs : s.size ≤ 1048576) :
    Calls Tryz.prog 88 #[.string s] w (MadeS (splitB s) w) := by
  cases hk : okPath (str s)
  · have HK := Lib.hid hk
    clear hk
    go_enter Tryz.func88, Tryz.ntmps88
    go_wp2_with fail
    refine (rpath_any s _ hs).mono ?_
    rintro e w1 ⟨rfl, ho⟩
    rw [HK.out]
    go_wp2_with fail
    go_ret
    have e0 : splitB s = [] := by unfold splitB; rw [HK.out]; rfl
    exact ⟨_, rfl, by rw [e0]; exact ⟨rfl, .inl ⟨rfl, rfl⟩⟩, ho⟩
  · have HK := Lib.hid hk
    clear hk
    go_enter Tryz.func88, Tryz.ntmps88
    go_wp2_with fail
    refine (rpath_any s _ hs).mono ?_
    rintro e w1 ⟨rfl, ho⟩
    rw [HK.out]
    go_wp2_with fail
    refine (rparts_any s _ hs).mono ?_
    rintro e w2 ⟨v, rfl, hown, ho2⟩
    go_wp2_with fail
    go_ret
    have e0 : splitB s = partsB s := by unfold splitB; rw [HK.out]; rfl
    refine ⟨_, rfl, ?_, ho.trans_nil ho2⟩
    rw [e0]
    refine ⟨hown.1, ?_⟩
    rcases hown.2 with h | ⟨g, cp, cur, h1, h2, h3⟩
    · exact .inl h
    · exact .inr ⟨g, cp, cur, h1, Nat.le_trans ho.size h2, h3⟩
set_option maxRecDepth 100000 in
set_option maxHeartbeats 4000000 in
theorem rparent_any (s : ByteArray) (w : World) (hs : s.size ≤ 1048576) :
    Calls Tryz.prog 64 #[.string s] w fun e w' => e = .returned (.string (bs (parent (str s)))) ∧ Off [] w w' := by
  go_enter Tryz.func64, Tryz.ntmps64
  go_wp2_with fail
  refine (rsplit_any s _ hs).mono ?_
  rintro e w1 ⟨v, rfl, hown, ho⟩
  obtain ⟨pl, cap, rfl, hstr⟩ := own_strs hown
  clear hown
  cases hk : okPath (str s)
  · have e0 : splitB s = [] := by unfold splitB; rw [hk]; rfl
    have ep : bs (parent (str s)) = ⟨#[]⟩ := by unfold parent; rw [hk]; rfl
    have EP := Lib.hid ep
    rw [e0]
    clear hstr e0 ep hk
    go_wp2_with fail
    go_ret
    exact ⟨by rw [EP.out]; rfl, ho⟩
  · have e0 : splitB s = partsB s := by unfold splitB; rw [hk]; rfl
    rw [e0] at hstr ⊢
    have hlen := partsB_len s
    obtain ⟨m, hm⟩ : ∃ m, (partsB s).length = m := ⟨_, rfl⟩
    rw [hm]
    by_cases h2 : m < 2
    · have ep : bs (parent (str s)) = ⟨#[]⟩ := by
        have h47 : 47 ∉ str s := by
          rw [← List.count_eq_zero]; omega
        unfold parent; rw [parts_clean _ h47]; split <;> rfl
      have EP := Lib.hid ep
      have HM := Lib.hid hm
      clear hstr e0 ep hk hm hlen
      go_wp2_with fail
      go_ret
      exact ⟨by rw [EP.out]; rfl, ho⟩
    · obtain ⟨j, rfl⟩ : ∃ j, m = j + 2 := ⟨m - 2, by omega⟩
      have hlast : (partsB s)[j + 1]? = some (bs (base (str s))) := by
        have h3 := parts_split hk
        unfold partsB
        rw [List.getElem?_map]
        have h4 : (parts (str s)).dropLast.length = j + 1 := by
          rw [List.length_dropLast]
          unfold partsB at hm
          rw [List.length_map] at hm
          omega
        have h5 : (parts (str s))[j + 1]? = some (base (str s)) := by
          rw [h3, List.getElem?_append_right (by omega), h4]; simp
        rw [h5]; rfl
      have hd : (parts (str s)).dropLast ≠ [] := by
        intro e
        have := congrArg List.length e
        rw [List.length_dropLast] at this
        unfold partsB at hm
        rw [List.length_map] at hm
        simp at this
        omega
      have hpne : parent (str s) ≠ [] := by rw [parent_eq hk]; exact joinP_ne hd (drop_names hk)
      have hwh := path_whole hk
      rw [if_neg hpne] at hwh
      have hsz : s.size = (parent (str s)).length + 1 + (bs (base (str s))).size := by
        have := congrArg List.length hwh
        rw [str_size, List.length_append, List.length_cons] at this
        rw [bs_size]; omega
      have hex : s.extract 0 (parent (str s)).length = bs (parent (str s)) := by
        rw [extract_bs]
        congr 1
        rw [List.drop_zero, Nat.sub_zero]
        have h6 : (str s).take (parent (str s)).length = (parent (str s) ++ 47 :: base (str s)).take (parent (str s)).length := by rw [← hwh]
        rw [h6]; simp
      obtain ⟨g, rfl, hg, hc⟩ := hstr (j + 1) _ hlast
      obtain ⟨q, hq⟩ : ∃ q, (parent (str s)).length = q := ⟨_, rfl⟩
      rw [hq] at hsz hex
      generalize bs (base (str s)) = bb at *
      obtain ⟨pp, hpp⟩ : ∃ pp, bs (parent (str s)) = pp := ⟨_, rfl⟩
      rw [hpp] at hex
      have HPP := Lib.hid hpp
      have HEX := Lib.hid hex
      have hsz1 : bb.size + 1 + q = s.size := by omega
      have hq1 : (s.size : Int) - (bb.size : Int) - 1 = (q : Int) := by omega
      have hjl : j ≤ 1048576 := by have := @List.count_le_length _ _ 47 (str s); rw [str_size] at this; omega
      have hjw : wrap64 ((j : Int) + 1) = (j : Int) + 1 := by unfold wrap64; omega
      have hjt : ((j : Int) + 1).toNat = j + 1 := by omega
      have HSZ := Lib.hid hsz
      have HM := Lib.hid hm
      clear hstr e0 hk hm hlen hlast hd hpne hwh hsz hex hq hsz1 hpp
      go_wp2_with fail
      go_ret
      exact ⟨by rw [HPP.out, ← HEX.out]; rfl, ho⟩
end Go.Proofs.YtpaeihdkggbeoaaGreatDoor
