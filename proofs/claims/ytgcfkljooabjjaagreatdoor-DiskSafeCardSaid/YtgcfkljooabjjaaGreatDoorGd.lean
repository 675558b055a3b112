/- Texts of this claim, one behind the other: Ref2 Ref3 Ref4 Ref6a RLaw Ref6b Same DifLaw RDif Concat DBoot Big DSync DGet DWrite. Conditions: what each lemma states. -/
import Derived.Test.YtgcfkljooabjjaaGreatDoorGc
import Derived.Test.YtgcfkljooabjjaaGreatDoorGb
import Derived.Laws.StructEq
import Derived.Lib.AppendZeros
import Derived.Lib.Walk
import Derived.Laws.AppendOwnNone
import Derived.Deep.Slices
import Derived.Lib.SliceRun
import Derived.StillTailTactics
/- hawserref01: Parts, Path, Split, Parent: the walks. Conditions: no string is longer than 1048576 bytes. -/
namespace Go.Proofs.YtgcfkljooabjjaaGreatDoor
open Go.RowKit Go.Op

def partsB (s : ByteArray) : List ByteArray := (parts (str s)).map bs
/-- a list of strings that the call has made -/
def MadeS (L : List ByteArray) (w : World) (e : Ending) (w' : World) : Prop :=
  ∃ v, e = .returned v ∧ w'.ownsRow w.heap.size 9 1 v L.length (L.map Value.string) ∧ Off [] w w'
/-- how far Parts has come: the parts in D; the next one begins at fr; none ends before i -/
structure PtAt (s : Str) (D : List Str) (fr i : Nat) : Prop where
  le : fr ≤ i
  run : i ≤ s.length → parts s = D ++ parts (s.drop fr) ∧ 47 ∉ (s.drop fr).take (i - fr)
  fin : i = s.length + 1 → parts s = D
theorem PtAt.len {s : Str} {D : List Str} {fr i : Nat} (h : PtAt s D fr i) (hi : i ≤ s.length + 1) : D.length ≤ s.length + 1 := by
  have hl := parts_length s
  have hc : s.count 47 ≤ s.length := List.count_le_length
  rcases Nat.lt_or_ge s.length i with h1 | h1
  · rw [h.fin (by omega)] at hl; omega
  · rw [(h.run h1).1, List.length_append] at hl; omega
theorem PtAt.start (s : Str) : PtAt s [] 0 0 := ⟨Nat.le_refl _, fun _ => ⟨by simp, by simp⟩, fun h => by omega⟩
theorem PtAt.pass {s : Str} {D : List Str} {fr i : Nat} (h : PtAt s D fr i) (hi : i < s.length) (hx : s[i] ≠ 47) : PtAt s D fr (i + 1) := by
  refine ⟨by have := h.le; omega, fun _ => ⟨(h.run (by omega)).1, fun hm => ?_⟩, fun e => by omega⟩
  have h2 := (h.run (by omega)).2
  have hle := h.le
  have : (s.drop fr).take (i + 1 - fr) = (s.drop fr).take (i - fr) ++ [s[i]] := by
    rw [show i + 1 - fr = (i - fr) + 1 by omega, List.take_succ_eq_append_getElem (by rw [List.length_drop]; omega), List.getElem_drop]
    congr 3
    omega
  rw [this, List.mem_append, List.mem_singleton] at hm
  rcases hm with hm | hm
  · exact h2 hm
  · exact hx hm.symm
theorem PtAt.hit {s : Str} {D : List Str} {fr i : Nat} (h : PtAt s D fr i) (hi : i < s.length) (hx : s[i] = 47) : PtAt s (D ++ [(s.drop fr).take (i - fr)]) (i + 1) (i + 1) := by
  obtain ⟨h1, h2⟩ := h.run (by omega)
  have hle := h.le
  have hcut : s.drop fr = (s.drop fr).take (i - fr) ++ 47 :: (s.drop fr).drop (i - fr + 1) := by
    have e1 := List.take_append_drop (i - fr) (s.drop fr)
    have e2 : (s.drop fr).drop (i - fr) = 47 :: (s.drop fr).drop (i - fr + 1) := by
      rw [List.drop_eq_getElem_cons (by rw [List.length_drop]; omega), List.getElem_drop]
      congr 1
      have : fr + (i - fr) = i := by omega
      simp only [this]
      exact hx
    rw [e2] at e1
    exact e1.symm
  have hp := parts_cut h2 hcut
  rw [List.drop_drop, show fr + (i - fr + 1) = i + 1 by omega] at hp
  refine ⟨Nat.le_refl _, fun _ => ⟨?_, by simp⟩, fun e => by omega⟩
  rw [h1, hp]; simp
theorem PtAt.last {s : Str} {D : List Str} {fr : Nat} (h : PtAt s D fr s.length) : PtAt s (D ++ [(s.drop fr).take (s.length - fr)]) (s.length + 1) (s.length + 1) := by
  obtain ⟨h1, h2⟩ := h.run (Nat.le_refl _)
  have e : (s.drop fr).take (s.length - fr) = s.drop fr := List.take_of_length_le (by simp)
  rw [e] at h2 ⊢
  refine ⟨Nat.le_refl _, fun h => by omega, fun _ => ?_⟩
  rw [h1, parts_clean _ h2]
theorem extract_bs (s : ByteArray) (a b : Nat) : s.extract a b = bs (((str s).drop a).take (b - a)) := str_inj (by rw [str_extract, str_bs])

def PtRel (w : World) (s : ByteArray) (i : Nat) (f v : Value) (wr : World) : Prop :=
  ∃ (fr : Nat) (D : List Str), f = .int .i64 fr ∧ PtAt (str s) D fr i ∧ wr.ownsRow w.heap.size 9 1 v (D.map bs).length ((D.map bs).map Value.string) ∧ Off [] w wr

set_option maxRecDepth 100000 in
set_option maxHeartbeats 4000000 in
theorem rparts_any (s : ByteArray) (w : World) (hs : s.size ≤ 1048576) :
    Calls Tryz.prog 114 #[.string s] w (MadeS (partsB s) w) := by
  obtain ⟨i0, hi0, hz0, hz1, hz2⟩ := info_parts infoStr
  have hsl := str_size s
  have HSL := Lib.hid hsl
  clear hsl
  go_enter Tryz.func114, Tryz.ntmps114
  go_wp2_with fail
  go_loopw [5, 4, 3] (fun x f v wr => ∃ i : Nat, x = .int .i64 i ∧ i ≤ s.size + 1 ∧ PtRel w s i f v wr) (fun x _ _ _ => s.size + 1 - (intOf x).toNat)
  case atStart => exact ⟨0, rfl, by omega, 0, [], rfl, PtAt.start _, ⟨rfl, .inl ⟨rfl, rfl⟩⟩, Off.refl _ _⟩
  case round =>
    obtain ⟨i, rfl, hi, fr, D, rfl, hpt, hown, hoff⟩ := hrel
    have HPT := Lib.hid hpt
    have hle := hpt.le
    have hDl := hpt.len (by rw [HSL.out]; omega)
    rw [HSL.out] at hDl
    have hDm : (D.map bs).length = D.length := List.length_map _
    have hDl2 : (D.map bs).length ≤ s.size + 1 := by omega
    clear hpt hDm hDl
    by_cases hlt : i < s.size
    · obtain ⟨x, hx⟩ : ∃ x : UInt8, s[i]'hlt = x := ⟨_, rfl⟩
      have hxl : (str s)[i]'(by rw [HSL.out]; exact hlt) = x := by rw [← hx]; rfl
      have HXL := Lib.hid hxl
      have hine : ((i : Int) == (s.size : Int)) = false := beq_eq_false_iff_ne.2 (by omega)
      clear hxl
      by_cases hx7 : x.toNat = 47
      · have f2 : ((x.toNat : Int) == 47) = true := by simp [hx7]
        have HX := Lib.hid (show x = 47 from UInt8.toNat_inj.1 hx7)
        have HNEW := Lib.hid (HPT.out.hit (by rw [HSL.out]; exact hlt) (HXL.out.trans HX.out))
        have HEX := Lib.hid (extract_bs s fr i)
        clear hx7
        go_wp2_with (at_builtin; refine wpList_append_own _ rfl _ _ 47 rfl w.heap.size 9 i0 (.string ⟨#[]⟩) 1 16 Tryz.underlying47 hi0 hz0 hz1 hz2 rfl (by decide) _ _ _ rfl (hown.alloc _) ⟨wr.heap.size, 0, none⟩ 1 1 [_] rfl rfl (cell_one_at (Blk.new wr _ _)) (by simp [Value.oneCell']) (by unfold maxLen; omega) (by omega) (by have := hoff.size; simp; omega) ?_; intro v' w6 hown' hgrow _)
        refine ⟨⟨i + 1, by congr 1, by omega, i + 1, D ++ [((str s).drop fr).take (i - fr)], by congr 1, HNEW.out, ?_, own_off hoff hown hgrow⟩, by simp only [intOf]; omega⟩
        rw [HEX.out] at hown'
        simpa using hown'
      · have f2 : ((x.toNat : Int) == 47) = false := by simp; omega
        have HNEW := Lib.hid (HPT.out.pass (by rw [HSL.out]; exact hlt) (fun e => hx7 (by rw [← HXL.out, e]; rfl)))
        clear hx7
        go_wp2_with fail
        exact ⟨⟨i + 1, by congr 1, by omega, fr, D, rfl, HNEW.out, hown, hoff⟩, by simp only [intOf]; omega⟩
    · by_cases heq : i = s.size
      · have hieq : ((i : Int) == (s.size : Int)) = true := beq_iff_eq.2 (by omega)
        have hptl : PtAt (str s) D fr (str s).length := by rw [HSL.out, ← heq]; exact HPT.out
        have HNEW := Lib.hid hptl.last
        have HEX := Lib.hid (extract_bs s fr i)
        have HEQ := Lib.hid heq
        have hile : i ≤ s.size := by omega
        clear heq hptl
        go_wp2_with (at_builtin; refine wpList_append_own _ rfl _ _ 47 rfl w.heap.size 9 i0 (.string ⟨#[]⟩) 1 16 Tryz.underlying47 hi0 hz0 hz1 hz2 rfl (by decide) _ _ _ rfl (hown.alloc _) ⟨wr.heap.size, 0, none⟩ 1 1 [_] rfl rfl (cell_one_at (Blk.new wr _ _)) (by simp [Value.oneCell']) (by unfold maxLen; omega) (by omega) (by have := hoff.size; simp; omega) ?_; intro v' w6 hown' hgrow _)
        refine ⟨⟨i + 1, by congr 1, by omega, i + 1, D ++ [((str s).drop fr).take (i - fr)], by congr 1, ?_, ?_, own_off hoff hown hgrow⟩, by simp only [intOf]; omega⟩
        · have h := HNEW.out
          rw [HSL.out, ← HEQ.out] at h
          exact h
        · rw [HEX.out] at hown'
          simpa using hown'
      · have hfin : parts (str s) = D := HPT.out.fin (by rw [HSL.out]; omega)
        have HFIN := Lib.hid hfin
        clear hfin
        have hgt : s.size < i := by omega
        go_wp2_with fail
        go_ret
        exact ⟨_, rfl, by unfold partsB; rw [HFIN.out]; exact hown, hoff⟩
end Go.Proofs.YtgcfkljooabjjaaGreatDoor

/- hawserref01: Path, Split, Parent, Order, Within, Texts: the walks. Conditions: no string is longer than 1048576 bytes. -/
namespace Go.Proofs.YtgcfkljooabjjaaGreatDoor
open Go.RowKit Go.Op

theorem partsB_len (s : ByteArray) : (partsB s).length = (str s).count 47 + 1 := by unfold partsB; rw [List.length_map, parts_length]
theorem partsB_get {s : ByteArray} {i : Nat} {x : ByteArray} (h : (partsB s)[i]? = some x) : (parts (str s))[i]? = some (str x) := by
  unfold partsB at h
  rw [List.getElem?_map] at h
  cases h2 : (parts (str s))[i]? with
  | none => rw [h2] at h; cases h
  | some y => rw [h2] at h; cases h; rw [str_bs]
theorem drop_get {α : Type} {l : List α} {i : Nat} {x : α} (h : l[i]? = some x) : l.drop i = x :: l.drop (i + 1) := by
  obtain ⟨h1, h2⟩ := List.getElem?_eq_some_iff.1 h
  rw [List.drop_eq_getElem_cons h1, h2]
theorem part_size {s : ByteArray} {i : Nat} {x : ByteArray} (h : (partsB s)[i]? = some x) : x.size ≤ s.size := by
  have hm := List.mem_of_getElem? (partsB_get h)
  have hj := joinP_parts (str s)
  rw [← str_size, ← str_size, ← hj]
  generalize parts (str s) = l at *
  clear hj h
  induction l with
  | nil => cases hm
  | cons y l ih =>
    cases l with
    | nil => simp at hm; subst hm; exact Nat.le_refl _
    | cons z l =>
      rw [joinP_cons y (by simp)]
      rcases List.mem_cons.1 hm with e | hm
      · rw [e]; simp
      · have := ih hm
        simp at this ⊢
        omega
set_option maxRecDepth 100000 in
set_option maxHeartbeats 4000000 in
theorem rpath_any (s : ByteArray) (w : World) (hs : s.size ≤ 1048576) :
    Calls Tryz.prog 80 #[.string s] w fun e w' => e = .returned (.bool (okPath (str s))) ∧ Off [] w w' := by
  have hk := Lib.hid (okPath_eq s)
  have hpl := partsB_len s
  go_enter Tryz.func80, Tryz.ntmps80
  go_wp2_with fail
  refine (rparts_any s _ hs).mono ?_
  rintro e w1 ⟨v, rfl, hown, ho⟩
  obtain ⟨pl, cap, rfl, hstr⟩ := own_strs hown
  have HSTR := Lib.hid hstr
  have hcl : (str s).count 47 ≤ s.size := by rw [← str_size]; exact List.count_le_length
  clear hown hstr
  obtain ⟨m, hm⟩ : ∃ m, (partsB s).length = m := ⟨_, rfl⟩
  rw [hm]
  rw [hm] at hpl
  have HM := Lib.hid hm
  clear hm
  by_cases h1 : s.size ≤ 400
  · by_cases h2 : (str s).count 47 < 16
    · have HK := Lib.hid (show okPath (str s) = (parts (str s)).all okName by rw [hk.out]; simp [h1, h2])
      clear hk
      have hm16 : m ≤ 16 := by omega
      generalize hcn : (str s).count 47 = cn at *
      have HCN := Lib.hid hcn
      have HPL := Lib.hid hpl
      clear hcn hpl
      go_wp2_with fail
      go_loopw [4] (fun x wr => ∃ i : Nat, x = .int .i64 i ∧ i ≤ m ∧ wr = w1 ∧ Hid ((parts (str s)).all okName = ((parts (str s)).drop i).all okName)) (fun x _ => m - (intOf x).toNat)
      case atStart => exact ⟨0, rfl, by omega, rfl, Lib.hid rfl⟩
      case round =>
        obtain ⟨i, rfl, hi, rfl, hall⟩ := hrel
        by_cases hlt : i < m
        · have hil : i < (partsB s).length := by rw [HM.out]; exact hlt
          have hxi := List.getElem?_eq_getElem hil
          generalize (partsB s)[i] = x at *
          obtain ⟨g, rfl, hg, hc⟩ := HSTR.out i x hxi
          have hxs := part_size hxi
          have HDR := Lib.hid (drop_get (partsB_get hxi))
          have HXI := Lib.hid hxi
          clear hxi
          cases hv : okName (str x)
          · have HV := Lib.hid hv
            clear hv
            go_wp2_with fail
            refine (rname_any x _ (by omega)).mono ?_
            rintro e w2 ⟨rfl, e2⟩
            subst e2
            rw [HV.out]
            go_wp2_with fail
            go_ret
            exact ⟨by rw [HK.out, hall.out, HDR.out, List.all_cons, HV.out]; rfl, ho⟩
          · have HV := Lib.hid hv
            clear hv
            go_wp2_with fail
            refine (rname_any x _ (by omega)).mono ?_
            rintro e w2 ⟨rfl, e2⟩
            subst e2
            rw [HV.out]
            go_wp2_with fail
            refine ⟨⟨i + 1, by congr 1, by omega, by trivial, Lib.hid ?_⟩, by simp only [intOf]; omega⟩
            rw [hall.out, HDR.out, List.all_cons, HV.out]; rfl
        · obtain rfl : i = m := by omega
          go_wp2_with fail
          go_ret
          have : (parts (str s)).drop i = [] := List.drop_eq_nil_of_le (by have := HM.out; unfold partsB at this; rw [List.length_map] at this; omega)
          exact ⟨by rw [HK.out, hall.out, this]; rfl, ho⟩
    · have HK := Lib.hid (show okPath (str s) = false by rw [hk.out]; simp [h2])
      clear hk
      have hm16 : 16 < m := by omega
      have HPL := Lib.hid hpl
      clear hpl
      go_wp2_with fail
      go_ret
      exact ⟨by rw [HK.out]; rfl, ho⟩
  · have HK := Lib.hid (show okPath (str s) = false by rw [hk.out]; simp [h1])
    clear hk
    have HPL := Lib.hid hpl
    clear hpl
    go_wp2_with fail
    go_ret
    exact ⟨by rw [HK.out]; rfl, ho⟩
def splitB (s : ByteArray) : List ByteArray := if okPath (str s) then partsB s else []
set_option maxRecDepth 100000 in
theorem rsplit_any (s : ByteArray) (w : World) (hs : s.size ≤ 1048576) :
    Calls Tryz.prog 117 #[.string s] w (MadeS (splitB s) w) := by
  cases hk : okPath (str s)
  · have HK := Lib.hid hk
    clear hk
    go_enter Tryz.func117, Tryz.ntmps117
    go_wp2_with fail
    refine (rpath_any s _ hs).mono ?_
    rintro e w1 ⟨rfl, ho⟩
    rw [HK.out]
    go_wp2_with fail
    go_ret
    have e0 : splitB s = [] := by unfold splitB; rw [HK.out]; rfl
    exact ⟨_, rfl, by rw [e0]; exact ⟨rfl, .inl ⟨rfl, rfl⟩⟩, ho⟩
  · have HK := Lib.hid hk
    clear hk
    go_enter Tryz.func117, Tryz.ntmps117
    go_wp2_with fail
    refine (rpath_any s _ hs).mono ?_
    rintro e w1 ⟨rfl, ho⟩
    rw [HK.out]
    go_wp2_with fail
    refine (rparts_any s _ hs).mono ?_
    rintro e w2 ⟨v, rfl, hown, ho2⟩
    go_wp2_with fail
    go_ret
    have e0 : splitB s = partsB s := by unfold splitB; rw [HK.out]; rfl
    refine ⟨_, rfl, ?_, ho.trans_nil ho2⟩
    rw [e0]
    refine ⟨hown.1, ?_⟩
    rcases hown.2 with h | ⟨g, cp, cur, h1, h2, h3⟩
    · exact .inl h
    · exact .inr ⟨g, cp, cur, h1, Nat.le_trans ho.size h2, h3⟩
set_option maxRecDepth 100000 in
set_option maxHeartbeats 4000000 in
theorem rparent_any (s : ByteArray) (w : World) (hs : s.size ≤ 1048576) :
    Calls Tryz.prog 83 #[.string s] w fun e w' => e = .returned (.string (bs (parent (str s)))) ∧ Off [] w w' := by
  go_enter Tryz.func83, Tryz.ntmps83
  go_wp2_with fail
  refine (rsplit_any s _ hs).mono ?_
  rintro e w1 ⟨v, rfl, hown, ho⟩
  obtain ⟨pl, cap, rfl, hstr⟩ := own_strs hown
  clear hown
  cases hk : okPath (str s)
  · have e0 : splitB s = [] := by unfold splitB; rw [hk]; rfl
    have ep : bs (parent (str s)) = ⟨#[]⟩ := by unfold parent; rw [hk]; rfl
    have EP := Lib.hid ep
    rw [e0]
    clear hstr e0 ep hk
    go_wp2_with fail
    go_ret
    exact ⟨by rw [EP.out]; rfl, ho⟩
  · have e0 : splitB s = partsB s := by unfold splitB; rw [hk]; rfl
    rw [e0] at hstr ⊢
    have hlen := partsB_len s
    obtain ⟨m, hm⟩ : ∃ m, (partsB s).length = m := ⟨_, rfl⟩
    rw [hm]
    by_cases h2 : m < 2
    · have ep : bs (parent (str s)) = ⟨#[]⟩ := by
        have h47 : 47 ∉ str s := by
          rw [← List.count_eq_zero]; omega
        unfold parent; rw [parts_clean _ h47]; split <;> rfl
      have EP := Lib.hid ep
      have HM := Lib.hid hm
      clear hstr e0 ep hk hm hlen
      go_wp2_with fail
      go_ret
      exact ⟨by rw [EP.out]; rfl, ho⟩
    · obtain ⟨j, rfl⟩ : ∃ j, m = j + 2 := ⟨m - 2, by omega⟩
      have hlast : (partsB s)[j + 1]? = some (bs (base (str s))) := by
        have h3 := parts_split hk
        unfold partsB
        rw [List.getElem?_map]
        have h4 : (parts (str s)).dropLast.length = j + 1 := by
          rw [List.length_dropLast]
          unfold partsB at hm
          rw [List.length_map] at hm
          omega
        have h5 : (parts (str s))[j + 1]? = some (base (str s)) := by
          rw [h3, List.getElem?_append_right (by omega), h4]; simp
        rw [h5]; rfl
      have hd : (parts (str s)).dropLast ≠ [] := by
        intro e
        have := congrArg List.length e
        rw [List.length_dropLast] at this
        unfold partsB at hm
        rw [List.length_map] at hm
        simp at this
        omega
      have hpne : parent (str s) ≠ [] := by rw [parent_eq hk]; exact joinP_ne hd (drop_names hk)
      have hwh := path_whole hk
      rw [if_neg hpne] at hwh
      have hsz : s.size = (parent (str s)).length + 1 + (bs (base (str s))).size := by
        have := congrArg List.length hwh
        rw [str_size, List.length_append, List.length_cons] at this
        rw [bs_size]; omega
      have hex : s.extract 0 (parent (str s)).length = bs (parent (str s)) := by
        rw [extract_bs]
        congr 1
        rw [List.drop_zero, Nat.sub_zero]
        have h6 : (str s).take (parent (str s)).length = (parent (str s) ++ 47 :: base (str s)).take (parent (str s)).length := by rw [← hwh]
        rw [h6]; simp
      obtain ⟨g, rfl, hg, hc⟩ := hstr (j + 1) _ hlast
      obtain ⟨q, hq⟩ : ∃ q, (parent (str s)).length = q := ⟨_, rfl⟩
      rw [hq] at hsz hex
      generalize bs (base (str s)) = bb at *
      obtain ⟨pp, hpp⟩ : ∃ pp, bs (parent (str s)) = pp := ⟨_, rfl⟩
      rw [hpp] at hex
      have HPP := Lib.hid hpp
      have HEX := Lib.hid hex
      have hsz1 : bb.size + 1 + q = s.size := by omega
      have hq1 : (s.size : Int) - (bb.size : Int) - 1 = (q : Int) := by omega
      have hjl : j ≤ 1048576 := by have := @List.count_le_length _ _ 47 (str s); rw [str_size] at this; omega
      have hjw : wrap64 ((j : Int) + 1) = (j : Int) + 1 := by unfold wrap64; omega
      have hjt : ((j : Int) + 1).toNat = j + 1 := by omega
      have HSZ := Lib.hid hsz
      have HM := Lib.hid hm
      clear hstr e0 hk hm hlen hlast hd hpne hwh hsz hex hq hsz1 hpp
      go_wp2_with fail
      go_ret
      exact ⟨by rw [HPP.out, ← HEX.out]; rfl, ho⟩
end Go.Proofs.YtgcfkljooabjjaaGreatDoor

/- hawserref01: Order, Within, Texts: the walks. Conditions: no string is longer than 1048576 bytes (Order, Within); no list is longer than 2^40 (Texts). -/
namespace Go.Proofs.YtgcfkljooabjjaaGreatDoor
open Go.RowKit Go.Op

/-- the strings of a list lie in memory -/
def Strs (w : World) (p : Option Addr) (L : List ByteArray) : Prop :=
  ∀ (i : Nat) (x : ByteArray), L[i]? = some x → ∃ g, p = some ⟨g, 0, none⟩ ∧ g < w.heap.size ∧ w.cell? ⟨g, i, none⟩ = some (.string x)
theorem Strs.off {w w' : World} {p : Option Addr} {L : List ByteArray} (h : Strs w p L) (ho : Off [] w w') : Strs w' p L := fun i x hi => by
  obtain ⟨g, h1, h2, h3⟩ := h i x hi
  exact ⟨g, h1, Nat.lt_of_lt_of_le h2 ho.size, (ho.cell (p := ⟨g, i, none⟩) h2 (by simp)).trans h3⟩
theorem less_bs (x y : ByteArray) : bytesLess x.toList y.toList = decide (Lib.compareBytes (str x) (str y) < 0) := by rw [toList_str, toList_str]; exact less_cmp _ _
theorem beq_bs (x y : ByteArray) : (x.toList == y.toList) = decide (x = y) := by
  rw [toList_str, toList_str]
  by_cases h : x = y
  · subst h; simp
  · rw [decide_eq_false h]; exact beq_eq_false_iff_ne.2 (fun e => h (str_inj e))
set_option maxRecDepth 100000 in
set_option maxHeartbeats 4000000 in
theorem texts_any (L M : List ByteArray) (p q : Option Addr) (c d : Nat) (w : World) (hL : L.length ≤ 1099511627776) (hM : M.length ≤ 1099511627776) (hp : Strs w p L) (hq : Strs w q M) :
    Calls Tryz.prog 38 #[.slice p L.length c, .slice q M.length d] w fun e w' => e = .returned (.bool (decide (L = M))) ∧ Off [] w w' := by
  obtain ⟨l, hl⟩ : ∃ l, L.length = l := ⟨_, rfl⟩
  obtain ⟨m, hm⟩ : ∃ m, M.length = m := ⟨_, rfl⟩
  rw [hl, hm]
  rw [hl] at hL
  rw [hm] at hM
  have HP := Lib.hid hp
  have HQ := Lib.hid hq
  have HL := Lib.hid hl
  have HM := Lib.hid hm
  clear hp hq hl hm
  by_cases hlm : l = m
  · subst hlm
    go_enter Tryz.func38, Tryz.ntmps38
    go_wp2_with fail
    go_loopw [5] (fun x wr => ∃ i : Nat, x = .int .i64 i ∧ i ≤ l ∧ Off [] w wr ∧ Hid (L.take i = M.take i)) (fun x _ => l - (intOf x).toNat)
    case atStart => exact ⟨0, rfl, by omega, Off.refl _ _, Lib.hid rfl⟩
    case round =>
      obtain ⟨i, rfl, hi, ho, htk⟩ := hrel
      by_cases hlt : i < l
      · have hi1 := List.getElem?_eq_getElem (show i < L.length by rw [HL.out]; exact hlt)
        have hi2 := List.getElem?_eq_getElem (show i < M.length by rw [HM.out]; exact hlt)
        have hs1 := List.take_succ_eq_append_getElem (show i < L.length by rw [HL.out]; exact hlt)
        have hs2 := List.take_succ_eq_append_getElem (show i < M.length by rw [HM.out]; exact hlt)
        generalize L[i]'(by rw [HL.out]; exact hlt) = x at *
        generalize M[i]'(by rw [HM.out]; exact hlt) = y at *
        obtain ⟨g, rfl, hg, hcx⟩ := HP.out.off ho i x hi1
        obtain ⟨k, rfl, hk, hcy⟩ := HQ.out.off ho i y hi2
        have HS1 := Lib.hid hs1
        have HS2 := Lib.hid hs2
        have HI1 := Lib.hid hi1
        have HI2 := Lib.hid hi2
        clear hs1 hs2 hi1 hi2
        by_cases hxy : x = y
        · have hbq : (x.toList == y.toList) = true := by rw [beq_bs, hxy]; simp
          have HXY := Lib.hid hxy
          clear hxy
          go_wp2_with fail
          go_quiet (fail)
          go_wp2_with fail
          refine ⟨⟨i + 1, by congr 1, by omega, ho.drewN _, Lib.hid ?_⟩, by simp only [intOf]; omega⟩
          rw [HS1.out, HS2.out, htk.out, HXY.out]
        · have hbq : (x.toList == y.toList) = false := by rw [beq_bs]; simp [hxy]
          have HXY := Lib.hid hxy
          clear hxy
          go_wp2_with fail
          go_quiet (fail)
          go_wp2_with fail
          go_ret
          have hne : L ≠ M := fun e => by
            have h1 := HI1.out
            rw [e, HI2.out] at h1
            exact HXY.out (Option.some.inj h1).symm
          exact ⟨by rw [decide_eq_false hne]; rfl, ho.drewN _⟩
      · obtain rfl : i = l := by omega
        go_wp2_with fail
        go_ret
        have he : L = M := by
          have := htk.out
          rw [List.take_of_length_le (by rw [HL.out]; exact Nat.le_refl _), List.take_of_length_le (by rw [HM.out]; exact Nat.le_refl _)] at this
          exact this
        exact ⟨by rw [decide_eq_true he]; rfl, ho⟩
  · have hne : L ≠ M := fun e => hlm (by rw [← HL.out, ← HM.out, e])
    have HNE := Lib.hid hne
    clear hne
    go_enter Tryz.func38, Tryz.ntmps38
    go_wp2_with fail
    go_ret
    exact ⟨by rw [decide_eq_false HNE.out]; rfl, Off.refl _ _⟩
/-- two names by which of them comes first -/
def cmpS (x y : ByteArray) : Int := Lib.compareBytes (str x) (str y)
theorem cmpN_drop {l m : List Str} {i : Nat} {x y : Str} (hx : l[i]? = some x) (hy : m[i]? = some y) :
    cmpN (l.drop i) (m.drop i) = if Lib.compareBytes x y = 0 then cmpN (l.drop (i + 1)) (m.drop (i + 1)) else Lib.compareBytes x y := by
  rw [drop_get hx, drop_get hy, cmpN]
set_option maxRecDepth 100000 in
set_option maxHeartbeats 4000000 in
theorem rorder_any (a b : ByteArray) (w : World) (ha : a.size ≤ 1048576) (hb : b.size ≤ 1048576) :
    Calls Tryz.prog 84 #[.string a, .string b] w fun e w' => e = .returned (.int .i64 (order (str a) (str b))) ∧ Off [] w w' := by
  have hla : (partsB a).length ≤ a.size + 1 := by rw [partsB_len]; have := @List.count_le_length _ _ 47 (str a); rw [str_size] at this; omega
  have hlb : (partsB b).length ≤ b.size + 1 := by rw [partsB_len]; have := @List.count_le_length _ _ 47 (str b); rw [str_size] at this; omega
  go_enter Tryz.func84, Tryz.ntmps84
  go_wp2_with fail
  refine (rparts_any a _ ha).mono ?_
  rintro e w1 ⟨v, rfl, hown, ho1⟩
  obtain ⟨p, c, rfl, hp⟩ := own_strs hown
  have hp : Strs w1 p (partsB a) := hp
  clear hown
  obtain ⟨l, hl⟩ : ∃ l, (partsB a).length = l := ⟨_, rfl⟩
  rw [hl]
  rw [hl] at hla
  go_wp2_with fail
  refine (rparts_any b _ hb).mono ?_
  rintro e w2 ⟨v, rfl, hown, ho2⟩
  obtain ⟨q, d, rfl, hq⟩ := own_strs hown
  have hq : Strs w2 q (partsB b) := hq
  clear hown
  obtain ⟨m, hm⟩ : ∃ m, (partsB b).length = m := ⟨_, rfl⟩
  rw [hm]
  rw [hm] at hlb
  have hoff := ho1.trans_nil ho2
  have HP := Lib.hid (hp.off ho2)
  have HQ := Lib.hid hq
  have HL := Lib.hid hl
  have HM := Lib.hid hm
  have HLP : Hid ((parts (str a)).length = l) := Lib.hid (by rw [← hl, partsB, List.length_map])
  have HMP : Hid ((parts (str b)).length = m) := Lib.hid (by rw [← hm, partsB, List.length_map])
  clear hp hq hl hm ho1 ho2
  go_wp2_with fail
  go_loopw [7] (fun x wr => ∃ i : Nat, x = .int .i64 i ∧ i ≤ l ∧ i ≤ m ∧ Off [] w2 wr ∧ Hid (order (str a) (str b) = cmpN ((parts (str a)).drop i) ((parts (str b)).drop i))) (fun x _ => l - (intOf x).toNat)
  case atStart => exact ⟨0, rfl, by omega, by omega, Off.refl _ _, Lib.hid rfl⟩
  case round =>
    obtain ⟨i, rfl, hil, him, ho, hord⟩ := hrel
    by_cases hlt : i < l
    · by_cases hmt : i < m
      · have hi1 := List.getElem?_eq_getElem (show i < (partsB a).length by rw [HL.out]; exact hlt)
        have hi2 := List.getElem?_eq_getElem (show i < (partsB b).length by rw [HM.out]; exact hmt)
        generalize (partsB a)[i]'(by rw [HL.out]; exact hlt) = x at *
        generalize (partsB b)[i]'(by rw [HM.out]; exact hmt) = y at *
        obtain ⟨g, rfl, hg, hcx⟩ := HP.out.off ho i x hi1
        obtain ⟨k, rfl, hk, hcy⟩ := HQ.out.off ho i y hi2
        have HDR := Lib.hid (cmpN_drop (partsB_get hi1) (partsB_get hi2))
        clear hi1 hi2 hp hq
        rcases cmpB_range (str x) (str y) with hc | hc | hc
        · have hl : bytesLess x.toList y.toList = true := by rw [less_bs, hc]; decide
          have HC := Lib.hid hc
          clear hc
          go_wp2_with fail
          go_quiet (fail)
          go_wp2_with fail
          go_ret
          exact ⟨by rw [hord.out, HDR.out, HC.out]; rfl, (hoff.trans_nil ho).drewN _⟩
        · have hl : bytesLess x.toList y.toList = false := by rw [less_bs, hc]; decide
          have he : (x.toList == y.toList) = true := by rw [beq_bs, decide_eq_true (str_inj (cmpB_eq hc))]
          have HC := Lib.hid hc
          clear hc
          go_wp2_with fail
          go_quiet (fail)
          go_wp2_with fail
          go_quiet (fail)
          go_wp2_with fail
          refine ⟨⟨i + 1, by congr 1, by omega, by omega, by first | exact ho.drewN _ | exact (ho.drewN _).drewN _, Lib.hid ?_⟩, by simp only [intOf]; omega⟩
          rw [hord.out, HDR.out, if_pos HC.out]
        · have hl : bytesLess x.toList y.toList = false := by rw [less_bs, hc]; decide
          have he : (x.toList == y.toList) = false := by
            rw [beq_bs]
            refine decide_eq_false fun e => ?_
            rw [e, cmpB_self] at hc
            exact absurd hc (by decide)
          have HC := Lib.hid hc
          clear hc
          go_wp2_with fail
          go_quiet (fail)
          go_wp2_with fail
          go_quiet (fail)
          go_wp2_with fail
          go_ret
          exact ⟨by rw [hord.out, HDR.out, HC.out]; rfl, by first | exact (hoff.trans_nil ho).drewN _ | exact ((hoff.trans_nil ho).drewN _).drewN _⟩
      · obtain rfl : i = m := by omega
        have HB : Hid ((parts (str b)).drop i = []) := Lib.hid (List.drop_eq_nil_of_le (by rw [HMP.out]; exact Nat.le_refl _))
        have HA : Hid ((parts (str a)).drop i ≠ []) := Lib.hid (fun e => by have := List.drop_eq_nil_iff.1 e; rw [HLP.out] at this; omega)
        clear hp hq
        go_wp2_with fail
        go_ret
        refine ⟨?_, hoff.trans_nil ho⟩
        have := HA.out
        rw [hord.out, HB.out]
        cases hh : (parts (str a)).drop i with
        | nil => exact absurd hh this
        | cons _ _ => rfl
    · obtain rfl : i = l := by omega
      have HA : Hid ((parts (str a)).drop i = []) := Lib.hid (List.drop_eq_nil_of_le (by rw [HLP.out]; exact Nat.le_refl _))
      clear hp hq
      by_cases hmt : i < m
      · have HB : Hid ((parts (str b)).drop i ≠ []) := Lib.hid (fun e => by have := List.drop_eq_nil_iff.1 e; rw [HMP.out] at this; omega)
        go_wp2_with fail
        go_ret
        refine ⟨?_, hoff.trans_nil ho⟩
        have := HB.out
        rw [hord.out, HA.out]
        cases hh : (parts (str b)).drop i with
        | nil => exact absurd hh this
        | cons _ _ => rfl
      · obtain rfl : i = m := by omega
        have HB : Hid ((parts (str b)).drop i = []) := Lib.hid (List.drop_eq_nil_of_le (by rw [HMP.out]; exact Nat.le_refl _))
        go_wp2_with fail
        go_ret
        exact ⟨by rw [hord.out, HA.out, HB.out]; rfl, hoff.trans_nil ho⟩
theorem prefix_take (l m : List Str) : l.isPrefixOf m = decide (m.take l.length = l) := by
  rw [Bool.eq_iff_iff, decide_eq_true_iff, List.isPrefixOf_iff_prefix, List.prefix_iff_eq_take]
  exact ⟨fun h => h.symm, fun h => h.symm⟩
theorem take_get {α : Type} {l : List α} {i : Nat} {x : α} (h : l[i]? = some x) : l.take (i + 1) = l.take i ++ [x] := by
  obtain ⟨h1, h2⟩ := List.getElem?_eq_some_iff.1 h
  rw [List.take_succ_eq_append_getElem h1, h2]
set_option maxRecDepth 100000 in
set_option maxHeartbeats 4000000 in
theorem rwithin_any (a b : ByteArray) (w : World) (ha : a.size ≤ 1048576) (hb : b.size ≤ 1048576) :
    Calls Tryz.prog 112 #[.string a, .string b] w fun e w' => e = .returned (.bool (within (str a) (str b))) ∧ Off [] w w' := by
  have hla : (partsB a).length ≤ a.size + 1 := by rw [partsB_len]; have := @List.count_le_length _ _ 47 (str a); rw [str_size] at this; omega
  have hlb : (partsB b).length ≤ b.size + 1 := by rw [partsB_len]; have := @List.count_le_length _ _ 47 (str b); rw [str_size] at this; omega
  have hE : b.toList = [] ↔ str b = [] := by rw [toList_str]
  cases hka : okPath (str a)
  · have HK := Lib.hid hka
    clear hka hE
    go_enter Tryz.func112, Tryz.ntmps112
    go_wp2_with fail
    refine (rpath_any a _ ha).mono ?_
    rintro e w1 ⟨rfl, ho⟩
    rw [HK.out]
    go_wp2_with fail
    go_ret
    exact ⟨by unfold within; rw [HK.out]; rfl, ho⟩
  have HK := Lib.hid hka
  clear hka
  by_cases hb0 : str b = []
  · have g := hE.2 hb0
    have g' : b.toList.isEmpty = true := by simp [g]
    have HB0 := Lib.hid hb0
    clear hE hb0
    go_enter Tryz.func112, Tryz.ntmps112
    go_wp2_with fail
    refine (rpath_any a _ ha).mono ?_
    rintro e w1 ⟨rfl, ho⟩
    rw [HK.out]
    go_wp2_with fail
    go_ret
    exact ⟨by unfold within; rw [HK.out, decide_eq_true HB0.out]; rfl, ho⟩
  · have g : ¬ b.toList = [] := fun e => hb0 (hE.1 e)
    have g' : b.toList.isEmpty = false := by simpa using g
    have HB0 := Lib.hid hb0
    clear hE hb0
    cases hkb : okPath (str b)
    · have HKB := Lib.hid hkb
      clear hkb
      go_enter Tryz.func112, Tryz.ntmps112
      go_wp2_with fail
      refine (rpath_any a _ ha).mono ?_
      rintro e w1 ⟨rfl, ho⟩
      rw [HK.out]
      go_wp2_with fail
      refine (rpath_any b _ hb).mono ?_
      rintro e w2 ⟨rfl, ho2⟩
      rw [HKB.out]
      go_wp2_with fail
      go_ret
      exact ⟨by unfold within; rw [HK.out, HKB.out, decide_eq_false HB0.out]; rfl, ho.trans_nil ho2⟩
    have HKB := Lib.hid hkb
    have HW : Hid (within (str a) (str b) = decide ((parts (str a)).take (parts (str b)).length = parts (str b))) := Lib.hid (by
      unfold within; rw [HK.out, HKB.out, decide_eq_false HB0.out, prefix_take]; rfl)
    clear hkb
    go_enter Tryz.func112, Tryz.ntmps112
    go_wp2_with fail
    refine (rpath_any a _ ha).mono ?_
    rintro e w1 ⟨rfl, ho⟩
    rw [HK.out]
    go_wp2_with fail
    refine (rpath_any b _ hb).mono ?_
    rintro e w2 ⟨rfl, ho2⟩
    rw [HKB.out]
    go_wp2_with fail
    have ho02 := ho.trans_nil ho2
    clear ho ho2
    refine (rparts_any a _ ha).mono ?_
    rintro e w3 ⟨v, rfl, hown, ho1⟩
    obtain ⟨p, c, rfl, hp⟩ := own_strs hown
    have hp : Strs w3 p (partsB a) := hp
    clear hown
    obtain ⟨l, hl⟩ : ∃ l, (partsB a).length = l := ⟨_, rfl⟩
    rw [hl]
    rw [hl] at hla
    go_wp2_with fail
    refine (rparts_any b _ hb).mono ?_
    rintro e w4 ⟨v, rfl, hown, ho2⟩
    obtain ⟨q, d, rfl, hq⟩ := own_strs hown
    have hq : Strs w4 q (partsB b) := hq
    clear hown
    obtain ⟨m, hm⟩ : ∃ m, (partsB b).length = m := ⟨_, rfl⟩
    rw [hm]
    rw [hm] at hlb
    have hoff := (ho02.trans_nil ho1).trans_nil ho2
    have HP := Lib.hid (hp.off ho2)
    have HQ := Lib.hid hq
    have HL := Lib.hid hl
    have HM := Lib.hid hm
    have HLP : Hid ((parts (str a)).length = l) := Lib.hid (by rw [← hl, partsB, List.length_map])
    have HMP : Hid ((parts (str b)).length = m) := Lib.hid (by rw [← hm, partsB, List.length_map])
    clear hp hq hl hm ho1 ho2 ho02
    by_cases hlm : l < m
    · go_wp2_with fail
      go_ret
      refine ⟨?_, hoff⟩
      rw [HW.out, decide_eq_false]
      · rfl
      · intro e
        have := congrArg List.length e
        rw [List.length_take, HLP.out, HMP.out] at this
        omega
    · go_wp2_with fail
      go_loopw [7] (fun x wr => ∃ i : Nat, x = .int .i64 i ∧ i ≤ m ∧ Off [] w4 wr ∧ Hid ((parts (str a)).take i = (parts (str b)).take i)) (fun x _ => m - (intOf x).toNat)
      case atStart => exact ⟨0, rfl, by omega, Off.refl _ _, Lib.hid rfl⟩
      case round =>
        obtain ⟨i, rfl, hi, ho, htk⟩ := hrel
        by_cases hlt : i < m
        · have hi1 := List.getElem?_eq_getElem (show i < (partsB a).length by rw [HL.out]; omega)
          have hi2 := List.getElem?_eq_getElem (show i < (partsB b).length by rw [HM.out]; exact hlt)
          generalize (partsB a)[i]'(by rw [HL.out]; omega) = x at *
          generalize (partsB b)[i]'(by rw [HM.out]; exact hlt) = y at *
          obtain ⟨g, rfl, hg, hcx⟩ := HP.out.off ho i x hi1
          obtain ⟨k, rfl, hk, hcy⟩ := HQ.out.off ho i y hi2
          have hil : i < l := by omega
          have HI1 := Lib.hid (partsB_get hi1)
          have HI2 := Lib.hid (partsB_get hi2)
          clear hi1 hi2
          by_cases hxy : x = y
          · have hbq : (x.toList == y.toList) = true := by rw [beq_bs, hxy]; simp
            have HXY := Lib.hid hxy
            clear hxy
            go_wp2_with fail
            go_quiet (fail)
            go_wp2_with fail
            refine ⟨⟨i + 1, by congr 1, by omega, ho.drewN _, Lib.hid ?_⟩, by simp only [intOf]; omega⟩
            rw [take_get HI1.out, take_get HI2.out, htk.out, HXY.out]
          · have hbq : (x.toList == y.toList) = false := by rw [beq_bs]; simp [hxy]
            have HXY := Lib.hid hxy
            clear hxy
            go_wp2_with fail
            go_quiet (fail)
            go_wp2_with fail
            go_ret
            refine ⟨?_, (hoff.trans_nil ho).drewN _⟩
            rw [HW.out, decide_eq_false]
            · rfl
            · intro e
              have h1 : (parts (str a))[i]? = (parts (str b))[i]? := by
                rw [← e, List.getElem?_take, if_pos (by rw [HMP.out]; exact hlt)]
              rw [HI1.out, HI2.out] at h1
              exact HXY.out (str_inj (Option.some.inj h1))
        · obtain rfl : i = m := by omega
          go_wp2_with fail
          go_ret
          refine ⟨?_, hoff.trans_nil ho⟩
          rw [HW.out, decide_eq_true]
          · rfl
          · rw [HMP.out, htk.out, List.take_of_length_le (by rw [HMP.out]; exact Nat.le_refl _)]
end Go.Proofs.YtgcfkljooabjjaaGreatDoor

/- hawserref06: find, dir, right: the walks. Conditions: no list is longer than 2^40; no string is longer than Go's can be. -/
namespace Go.Proofs.YtgcfkljooabjjaaGreatDoor
open Go.RowKit Go.Op

/-- what find answers -/
def FindAt (t : List Node) (s : ByteArray) (r : Int) : Prop :=
  (r = -1 ∧ ∀ (j : Nat) (n : Node), t[j]? = some n → n.path ≠ s) ∨ ∃ (i : Nat) (n : Node), r = (i : Int) ∧ t[i]? = some n ∧ n.path = s ∧ ∀ (j : Nat) (m : Node), j < i → t[j]? = some m → m.path ≠ s
set_option maxRecDepth 100000 in
theorem find_any (p : Option Addr) (t : List Node) (n cap : Nat) (s : ByteArray) (w : World) (hR : Row w p t) (hn : t.length = n) (hbig : n ≤ 1099511627776) :
    Calls Tryz.prog 116 #[.slice p n cap, .string s] w fun e w' => ∃ r, e = .returned (.int .i64 r) ∧ FindAt t s r ∧ Off [] w w' := by
  have HN := Lib.hid hn
  have HR := Lib.hid hR
  clear hn hR
  go_enter Tryz.func116, Tryz.ntmps116
  go_wp2_with fail
  go_loopw [5] (fun x wr => ∃ i : Nat, x = .int .i64 i ∧ i ≤ n ∧ Off [] w wr ∧ Hid (∀ (j : Nat) (m : Node), j < i → t[j]? = some m → m.path ≠ s)) (fun x _ => n - (intOf x).toNat)
  case atStart => exact ⟨0, rfl, by omega, Off.refl _ _, Lib.hid (fun j m hj => by omega)⟩
  case round =>
    obtain ⟨i, rfl, hi, ho, hall⟩ := hrel
    by_cases hlt : i < n
    · have hil : i < t.length := by rw [HN.out]; exact hlt
      obtain ⟨a, rfl, hna, hab⟩ := (HR.out.off ho).get i hil
      have hgi := List.getElem?_eq_getElem hil
      generalize t[i] = nd at *
      have c0 := hna.path
      have HGI := Lib.hid hgi
      clear hna hgi hil
      by_cases hxy : nd.path = s
      · have hbq : (nd.path.toList == s.toList) = true := by rw [beq_bs, hxy]; simp
        have HXY := Lib.hid hxy
        clear hxy
        go_wp2_with fail
        go_ret
        exact ⟨_, rfl, .inr ⟨i, nd, rfl, HGI.out, HXY.out, hall.out⟩, ho⟩
      · have hbq : (nd.path.toList == s.toList) = false := by rw [beq_bs]; simp [hxy]
        have HXY := Lib.hid hxy
        clear hxy
        go_wp2_with fail
        refine ⟨⟨i + 1, by congr 1, by omega, ho, Lib.hid ?_⟩, by simp only [intOf]; omega⟩
        intro j m hj hm
        rcases Nat.lt_or_ge j i with h | h
        · exact hall.out j m h hm
        · obtain rfl : j = i := by omega
          rw [HGI.out] at hm
          cases hm
          exact HXY.out
    · obtain rfl : i = n := by omega
      go_wp2_with fail
      go_ret
      refine ⟨-1, rfl, .inl ⟨rfl, fun j m hm => hall.out j m ?_ hm⟩, ho⟩
      rw [← HN.out]
      exact (List.getElem?_eq_some_iff.1 hm).1
/-- the reference's dir -/
def rdir (t : List Node) (p : Str) : Bool := decide (p = []) || ((t.find? fun n => decide (n.p = p)).map fun n => decide (n.kind = 2)).getD false
theorem rdir_find {t : List Node} {s : ByteArray} {r : Int} (h : FindAt t s r) (hs : str s ≠ []) :
    (r = -1 ∧ rdir t (str s) = false) ∨ ∃ (i : Nat) (n : Node), r = (i : Int) ∧ t[i]? = some n ∧ rdir t (str s) = decide (n.kind = 2) := by
  unfold rdir
  rw [decide_eq_false hs, Bool.false_or]
  rcases h with ⟨h1, h2⟩ | ⟨i, n, h1, h2, h3, h4⟩
  · refine .inl ⟨h1, ?_⟩
    rw [List.find?_eq_none.2]
    · rfl
    · intro m hm
      obtain ⟨j, hj⟩ := List.getElem?_of_mem hm
      have h5 : ¬ m.p = str s := fun e => h2 j m hj (str_inj e)
      simp [h5]
  · refine .inr ⟨i, n, h1, h2, ?_⟩
    obtain ⟨hi, hii⟩ := List.getElem?_eq_some_iff.1 h2
    have : (t.find? fun n => decide (n.p = str s)) = some n := by
      rw [List.find?_eq_some_iff_getElem]
      refine ⟨by simp [Node.p, h3], i, hi, hii, fun j hj => ?_⟩
      have h5 : ¬ t[j].p = str s := fun e => h4 j t[j] hj (List.getElem?_eq_getElem _) (str_inj e)
      simp [h5]
    rw [this]; rfl
set_option maxRecDepth 100000 in
theorem rdir_any (p : Option Addr) (t : List Node) (n cap : Nat) (s : ByteArray) (w : World) (hR : Row w p t) (hn : t.length = n) (hbig : n ≤ 1099511627776) :
    Calls Tryz.prog 82 #[.slice p n cap, .string s] w fun e w' => e = .returned (.bool (rdir t (str s))) ∧ Off [] w w' := by
  have hE : s.toList = [] ↔ str s = [] := by rw [toList_str]
  by_cases hs : str s = []
  · have g := hE.2 hs
    have g' : s.toList.isEmpty = true := by simp [g]
    have HS := Lib.hid hs
    clear hE hs hR
    go_enter Tryz.func82, Tryz.ntmps82
    go_wp2_with fail
    go_ret
    exact ⟨by unfold rdir; rw [decide_eq_true HS.out]; rfl, Off.refl _ _⟩
  · have g : ¬ s.toList = [] := fun e => hs (hE.1 e)
    have g' : s.toList.isEmpty = false := by simpa using g
    have HS := Lib.hid hs
    have HR := Lib.hid hR
    have HN := Lib.hid hn
    clear hE hs hR hn
    go_enter Tryz.func82, Tryz.ntmps82
    go_wp2_with fail
    refine (find_any p t n cap s _ HR.out HN.out hbig).mono ?_
    rintro e w1 ⟨r, rfl, hf, ho⟩
    rcases rdir_find hf HS.out with ⟨h1, h2⟩ | ⟨i, nd, h1, h2, h3⟩
    · subst h1
      have H2 := Lib.hid h2
      clear h2 hf
      go_wp2_with fail
      go_ret
      exact ⟨by rw [H2.out]; rfl, ho⟩
    · subst h1
      obtain ⟨hi, hii⟩ := List.getElem?_eq_some_iff.1 h2
      obtain ⟨a, rfl, hna, hab⟩ := (HR.out.off ho).get i hi
      rw [hii] at hna
      have hin : i < n := by rw [← HN.out]; exact hi
      have c1 := hna.kind
      have H3 := Lib.hid h3
      clear hna hf h2 h3 hi hii
      go_wp2_with fail
      go_ret
      exact ⟨by rw [H3.out, ← beq2]; rfl, ho⟩
set_option maxRecDepth 100000 in
theorem rright_any (n : Node) (w : World) (hbig : n.data.size ≤ maxLen) : Calls Tryz.prog 81 #[n.val] w fun e w' => e = .returned (.bool (rightN n)) ∧ Off [] w w' := by
  obtain ⟨path, kind, data, mode⟩ := n
  replace hbig : data.size ≤ maxLen := hbig
  unfold maxLen at hbig
  have hE : data.toList = [] ↔ data.size = 0 := by rw [toList_str, ← str_size]; simp
  unfold Node.val
  dsimp only
  by_cases h1 : kind = 1
  · subst h1
    clear hE
    by_cases a : data.size ≤ 65536
    · by_cases b : 0 ≤ mode
      · go_enter Tryz.func81, Tryz.ntmps81
        go_wp2_with fail
        go_ret
        exact ⟨by simp [rightN, a, b], (Off.refl _ _).alloc _⟩
      · go_enter Tryz.func81, Tryz.ntmps81
        go_wp2_with fail
        go_ret
        exact ⟨by simp [rightN, a]; omega, (Off.refl _ _).alloc _⟩
    · go_enter Tryz.func81, Tryz.ntmps81
      go_wp2_with fail
      go_ret
      exact ⟨by simp [rightN, a], (Off.refl _ _).alloc _⟩
  by_cases h2 : kind = 2
  · subst h2
    clear h1
    by_cases a : data.size = 0
    · have g := hE.2 a
      have g' : data.toList.isEmpty = true := by simp [g]
      clear hE
      go_enter Tryz.func81, Tryz.ntmps81
      go_wp2_with fail
      go_ret
      exact ⟨by simp [rightN, a, beq0], (Off.refl _ _).alloc _⟩
    · have g : ¬ data.toList = [] := fun e => a (hE.1 e)
      have g' : data.toList.isEmpty = false := by simpa using g
      clear hE
      go_enter Tryz.func81, Tryz.ntmps81
      go_wp2_with fail
      go_ret
      exact ⟨by simp [rightN, a], (Off.refl _ _).alloc _⟩
  by_cases h3 : kind = 3
  · subst h3
    clear h1 h2 hE
    have hsl := str_size data
    have HSL := Lib.hid hsl
    clear hsl
    have hB := Blk.new w 30 #[.string path, .int .i64 3, .string data, .int .i64 mode]
    have HB := Lib.hid hB
    clear hB
    go_enter Tryz.func81, Tryz.ntmps81
    go_wp2_with fail
    go_loopw [3] (fun x wr => ∃ i : Nat, x = .int .i64 i ∧ i ≤ data.size ∧ (Off [] w wr ∧ Blk wr w.heap.size 30 #[.string path, .int .i64 3, .string data, .int .i64 mode]) ∧ Hid (0 ∉ (str data).take i)) (fun x _ => data.size - (intOf x).toNat)
    case atStart => exact ⟨0, rfl, by omega, ⟨(Off.refl _ _).alloc _, HB.out⟩, Lib.hid (by simp)⟩
    case round =>
      obtain ⟨i, rfl, hi, ⟨ho, hB⟩, hall⟩ := hrel
      have hc := hB.cell
      have hlB := hB.lt
      by_cases hlt : i < data.size
      · obtain ⟨x, hx⟩ : ∃ x : UInt8, data[i]'hlt = x := ⟨_, rfl⟩
        have hxl : (str data)[i]? = some x := by rw [← hx, List.getElem?_eq_getElem (by rw [HSL.out]; exact hlt)]; rfl
        have HXL := Lib.hid hxl
        clear hxl
        by_cases hx0 : x.toNat = 0
        · have f2 : ((x.toNat : Int) == 0) = true := by simp [hx0]
          have HX := Lib.hid (show x = 0 from UInt8.toNat_inj.1 hx0)
          clear hx0
          go_wp2_with fail
          go_ret
          have hm : 0 ∈ str data := by have := List.mem_of_getElem? HXL.out; rw [HX.out] at this; exact this
          exact ⟨by simp [rightN, hm], ho⟩
        · have f2 : ((x.toNat : Int) == 0) = false := by simp; omega
          have HX := Lib.hid (show x ≠ 0 from fun e => hx0 (by rw [e]; rfl))
          clear hx0
          go_wp2_with fail
          refine ⟨⟨i + 1, by congr 1, by omega, ⟨ho, hB⟩, Lib.hid ?_⟩, by simp only [intOf]; omega⟩
          rw [take_get HXL.out, List.mem_append, List.mem_singleton]
          exact fun h => h.elim hall.out (fun e => HX.out e.symm)
      · obtain rfl : i = data.size := by omega
        have hm : 0 ∉ str data := by have := hall.out; rw [List.take_of_length_le (by rw [HSL.out]; exact Nat.le_refl _)] at this; exact this
        have HM := Lib.hid hm
        clear hm
        by_cases a : data.size = 0
        · have a1 : ((1 : Int) ≤ (data.size : Int)) = False := by simp; omega
          go_wp2_with fail
          go_ret
          exact ⟨by simp [rightN, a], ho⟩
        · have a1 : ((1 : Int) ≤ (data.size : Int)) = True := by simp; omega
          by_cases b : data.size ≤ 400
          · go_wp2_with fail
            go_ret
            exact ⟨by simp [rightN, a, b, HM.out, beq0], ho⟩
          · go_wp2_with fail
            go_ret
            exact ⟨by simp [rightN, a, b], ho⟩
  · have k1 : (kind == 1) = false := beq_eq_false_iff_ne.2 h1
    have k2 : (kind == 2) = false := beq_eq_false_iff_ne.2 h2
    have k3 : (kind == 3) = false := beq_eq_false_iff_ne.2 h3
    clear hE
    go_enter Tryz.func81, Tryz.ntmps81
    go_wp2_with fail
    go_ret
    exact ⟨by simp [rightN, h1, h2, h3], (Off.refl _ _).alloc _⟩
end Go.Proofs.YtgcfkljooabjjaaGreatDoor

/- The reference's way to say what is a tree, and that it is the program's. Conditions: none beyond what each lemma states. -/
namespace Go.Proofs.YtgcfkljooabjjaaGreatDoor
open Go.RowKit Go.Op

/-- the reference looks at a node -/
def rok (t done : List Node) (n : Node) : Bool := okPath n.p && rightN n && rdir t (parent n.p) && lastOk done n
theorem cmpN_snoc (x : Str) : ∀ l : List Str, cmpN l (l ++ [x]) = -1
  | [] => rfl
  | a :: l => by simp only [List.cons_append, cmpN, cmpB_self, if_true]; exact cmpN_snoc x l
theorem parent_before {p : Str} (h : okPath p = true) (hp : parent p ≠ []) : order (parent p) p < 0 := by
  have hd : (parts p).dropLast ≠ [] := fun e => by rw [parent_eq h, e] at hp; exact hp rfl
  have e1 : parts (parent p) = (parts p).dropLast := by rw [parent_eq h]; exact parts_joinP _ hd drop_clean
  unfold order
  rw [e1]
  conv => lhs; rw [parts_split h]
  rw [List.dropLast_concat, cmpN_snoc]
  decide
theorem rdir_dir {t : List Node} {p : Str} (h : rdir t p = true) : p = [] ∨ ∃ n ∈ t, n.p = p ∧ n.kind = 2 := by
  unfold rdir at h
  rw [Bool.or_eq_true, decide_eq_true_eq] at h
  rcases h with h | h
  · exact .inl h
  · right
    cases hf : t.find? fun n => decide (n.p = p) with
    | none => rw [hf] at h; cases h
    | some n =>
      rw [hf] at h
      have h1 := List.find?_some hf
      exact ⟨n, List.mem_of_find?_eq_some hf, by simpa using h1, by simpa using h⟩
theorem dir_rdir {t : List Node} {p : Str} (hs : Sorted t) (h : isDir t p = true) : rdir t p = true := by
  unfold isDir at h
  unfold rdir
  rw [Bool.or_eq_true] at h ⊢
  rcases h with h | h
  · exact .inl h
  · right
    rw [List.any_eq_true] at h
    obtain ⟨n, hn, hp⟩ := h
    simp only [Bool.and_eq_true, decide_eq_true_eq] at hp
    cases hf : t.find? fun n => decide (n.p = p) with
    | none =>
      have := List.find?_eq_none.1 hf n hn
      simp [hp.1] at this
    | some m =>
      have h1 := List.find?_some hf
      have h2 : m = n := hs.unique (List.mem_of_find?_eq_some hf) hn (by rw [hp.1]; simpa using h1)
      subst h2
      simp [hp.2]
theorem rok_of {t done : List Node} {n : Node} (v1 v2 v3 : Bool) (h1 : okPath (str n.path) = v1) (h2 : v1 = true → rightN n = v2) (h3 : v1 = true → v2 = true → rdir t (parent (str n.path)) = v3) (h4 : v1 = true → v2 = true → v3 = true → lastOk done n = true) :
    rok t done n = (v1 && v2 && v3) := by
  unfold rok
  have e1 : okPath n.p = v1 := h1
  rw [e1]
  cases v1
  · rfl
  · rw [h2 rfl]
    cases v2
    · rfl
    · have e3 : rdir t (parent n.p) = v3 := h3 rfl rfl
      rw [e3]
      cases v3
      · rfl
      · rw [h4 rfl rfl rfl]; rfl
theorem rok_bad {t : List Node} {k : Nat} (hk : k < t.length) (h : rok t (t.take k) t[k] = false) : okTree t = false := by
  cases ho : okTree t
  · rfl
  · have h1 := okTree_next ho k hk
    rw [okNext_eq] at h1
    simp only [Bool.and_eq_true] at h1
    have h2 := dir_rdir (okTree_sorted ho) (parent_dir ho (List.getElem_mem hk))
    unfold rok at h
    rw [h1.1.1.1, h1.1.1.2, h2, h1.1.2] at h
    cases h
/-- as far as the reference has come -/
def RokTo (t : List Node) (k : Nat) : Prop := ∀ (j : Nat) (hj : j < t.length), j < k → rok t (t.take j) t[j] = true
theorem RokTo.succ {t : List Node} {k : Nat} (h : RokTo t k) (hk : k < t.length) (hn : rok t (t.take k) t[k] = true) : RokTo t (k + 1) := fun j hj hjk => by
  rcases Nat.lt_or_ge j k with h1 | h1
  · exact h j hj h1
  · obtain rfl : j = k := by omega
    exact hn
theorem RokTo.tree {t : List Node} (hl : t.length ≤ 1000) (h : RokTo t t.length) : okTree t = true := by
  have hs : ∀ k, k ≤ t.length → Sorted (t.take k) := fun k => by
    induction k with
    | zero => intro _; simp [Sorted]
    | succ k ih =>
      intro hk
      rw [List.take_succ_eq_append_getElem (by omega)]
      have h1 := h k (by omega) (by omega)
      unfold rok at h1
      simp only [Bool.and_eq_true] at h1
      exact sorted_snoc (ih (by omega)) h1.2
  have hst : Sorted t := by have := hs t.length (Nat.le_refl _); rwa [List.take_length] at this
  have ho : ∀ k, k ≤ t.length → okFrom [] (t.take k) = true := fun k => by
    induction k with
    | zero => intro _; simp [okFrom]
    | succ k ih =>
      intro hk
      have hkl : k < t.length := by omega
      refine okFrom_take_succ hkl (ih (by omega)) ?_
      have h1 := h k (by omega) (by omega)
      unfold rok at h1
      simp only [Bool.and_eq_true] at h1
      rw [okNext_eq, h1.1.1.1, h1.1.1.2, h1.2, Bool.true_and, Bool.true_and, Bool.true_and]
      unfold isDir
      rw [Bool.or_eq_true]
      rcases rdir_dir h1.1.2 with h2 | ⟨m, hm, hp, hk2⟩
      · exact .inl (decide_eq_true h2)
      · by_cases he : parent t[k].p = []
        · exact .inl (decide_eq_true he)
        right
        rw [List.any_eq_true]
        refine ⟨m, ?_, by simp [hp, hk2]⟩
        obtain ⟨j, hj, rfl⟩ := List.getElem_of_mem hm
        have hlt : j < k := by
          rcases Nat.lt_trichotomy j k with h3 | h3 | h3
          · exact h3
          · subst h3
            have := parent_before h1.1.1.1 he
            rw [← hp, order_self] at this
            omega
          · have h4 := List.pairwise_iff_getElem.1 hst k j hkl hj h3
            have h5 := parent_before h1.1.1.1 he
            rw [← hp] at h5
            have := order_trans h4 h5
            rw [order_self] at this
            omega
        have : (t.take k)[j]? = some t[j] := by rw [List.getElem?_take, if_pos hlt, List.getElem?_eq_getElem]
        exact List.mem_of_getElem? this
  unfold okTree
  have := ho t.length (Nat.le_refl _)
  rw [List.take_length] at this
  rw [this, decide_eq_true hl]; rfl
end Go.Proofs.YtgcfkljooabjjaaGreatDoor

/- hawserref06.Check: the walk. Conditions: no path is longer than 1048576 bytes; no list is longer than 2^40. -/
namespace Go.Proofs.YtgcfkljooabjjaaGreatDoor
open Go.RowKit Go.Op

/-- no path is longer than a walk of the reference allows -/
def Fits1 (t : List Node) : Prop := ∀ n ∈ t, n.path.size ≤ 1048576 ∧ n.data.size ≤ 1048576
theorem Fits1.fits {t : List Node} (h : Fits1 t) : Fits t := fun n hn => by have := h n hn; unfold maxLen; omega
theorem rpath_v (s : ByteArray) (w : World) (hs : s.size ≤ 1048576) (v : Bool) (hv : okPath (str s) = v) : Calls Tryz.prog 80 #[.string s] w fun e w' => e = .returned (.bool v) ∧ Off [] w w' := hv ▸ rpath_any s w hs
theorem rright_v (n : Node) (w : World) (hs : n.data.size ≤ 1048576) (v : Bool) (hv : rightN n = v) : Calls Tryz.prog 81 #[.agg #[.string n.path, .int .i64 n.kind, .string n.data, .int .i64 n.mode]] w fun e w' => e = .returned (.bool v) ∧ Off [] w w' := hv ▸ rright_any n w (by unfold maxLen; omega)
theorem rorder_v (a b : ByteArray) (w : World) (ha : a.size ≤ 1048576) (hb : b.size ≤ 1048576) (c : Int) (hc : order (str a) (str b) = c) : Calls Tryz.prog 84 #[.string a, .string b] w fun e w' => e = .returned (.int .i64 c) ∧ Off [] w w' := hc ▸ rorder_any a b w ha hb
theorem rdir_v (p : Option Addr) (t : List Node) (n cap : Nat) (s : ByteArray) (w : World) (hR : Row w p t) (hn : t.length = n) (hbig : n ≤ 1099511627776) (v : Bool) (hv : rdir t (str s) = v) :
    Calls Tryz.prog 82 #[.slice p n cap, .string s] w fun e w' => e = .returned (.bool v) ∧ Off [] w w' := hv ▸ rdir_any p t n cap s w hR hn hbig
set_option maxRecDepth 100000 in
set_option maxHeartbeats 4000000 in
theorem rcheck_any (p : Option Addr) (t : List Node) (n cap : Nat) (w : World) (hR : Row w p t) (hn : t.length = n) (hbig : n ≤ 1099511627776) (hF : Fits1 t) :
    Calls Tryz.prog 40 #[.slice p n cap] w fun e w' => e = .returned (.int .i64 (chkV t)) ∧ Off [] w w' := by
  have HN := Lib.hid hn
  have HR := Lib.hid hR
  have HF := Lib.hid hF
  clear hn hR hF
  by_cases hlen : n ≤ 1000
  · go_enter Tryz.func40, Tryz.ntmps40
    go_wp2_with fail
    go_loopw [3] (fun x wr => ∃ k : Nat, x = .int .i64 k ∧ k ≤ n ∧ Off [] w wr ∧ Hid (RokTo t k)) (fun x _ => n - (intOf x).toNat)
    case atStart => exact ⟨0, rfl, by omega, Off.refl _ _, Lib.hid (fun j hj h => by omega)⟩
    case round =>
      obtain ⟨k, rfl, hk, ho, hok⟩ := hrel
      by_cases hkn : k < n
      · have hkl : k < t.length := by rw [HN.out]; omega
        obtain ⟨a, rfl, hna, hab⟩ := (HR.out.off ho).get k hkl
        have hfit := HF.out _ (List.getElem_mem hkl)
        have HBAD := Lib.hid (fun h => rok_bad (t := t) hkl h)
        have HGOOD := Lib.hid (fun h => hok.out.succ hkl h)
        generalize hnd : t[k] = nd at *
        clear hnd
        have HNA := Lib.hid hna
        have habk : (a.add (k * 4)).block < wr.heap.size := by rw [add_block]; exact hab
        have c0 := hna.path
        have hf0 := hfit.1
        have hf1 := hfit.2
        have hpsz : (bs (parent (str nd.path))).size ≤ 1048576 := by have := bs_parent_size nd.path; omega
        clear hna hfit
        cases hv1 : okPath (str nd.path)
        · have HV1 := Lib.hid hv1
          clear hv1
          go_wp2_with fail
          refine (rpath_v nd.path _ hf0 false HV1.out).mono ?_
          rintro e w1 ⟨rfl, ho1⟩
          clear c0
          go_wp2_with fail
          go_ret
          exact ⟨by rw [chkV, HBAD.out (rok_of false true true HV1.out (fun h => by cases h) (fun h => by cases h) (fun h => by cases h))]; rfl, ho.trans_nil ho1⟩
        have HV1 := Lib.hid hv1
        clear hv1
        cases hv2 : rightN nd
        · have HV2 := Lib.hid hv2
          clear hv2
          go_wp2_with fail
          refine (rpath_v nd.path _ hf0 true HV1.out).mono ?_
          rintro e w1 ⟨rfl, ho1⟩
          clear c0
          have hna1 := HNA.out.off ho1 habk
          have c0 := hna1.path
          have c1 := hna1.kind
          have c2 := hna1.data
          have c3 := hna1.mode
          clear hna1
          go_wp2_with fail
          refine (rright_v nd _ hf1 false HV2.out).mono ?_
          rintro e w2 ⟨rfl, ho2⟩
          clear c0 c1 c2 c3
          go_wp2_with fail
          go_ret
          exact ⟨by rw [chkV, HBAD.out (rok_of true false true HV1.out (fun _ => HV2.out) (fun _ h => by cases h) (fun _ h => by cases h))]; rfl, (ho.trans_nil ho1).trans_nil ho2⟩
        have HV2 := Lib.hid hv2
        clear hv2
        go_wp2_with fail
        refine (rpath_v nd.path _ hf0 true HV1.out).mono ?_
        rintro e w1 ⟨rfl, ho1⟩
        clear c0
        have hna1 := HNA.out.off ho1 habk
        have hab1 := Nat.lt_of_lt_of_le habk ho1.size
        have c0 := hna1.path
        have c1 := hna1.kind
        have c2 := hna1.data
        have c3 := hna1.mode
        have HNA1 := Lib.hid hna1
        clear hna1
        go_wp2_with fail
        refine (rright_v nd _ hf1 true HV2.out).mono ?_
        rintro e w2 ⟨rfl, ho2⟩
        clear c0 c1 c2 c3
        have c0 := (HNA1.out.off ho2 hab1).path
        have HNA2 := Lib.hid (HNA1.out.off ho2 hab1)
        have hv3' : ∀ v, rdir t (parent (str nd.path)) = v → rdir t (str (bs (parent (str nd.path)))) = v := fun v h => by rw [str_bs]; exact h
        go_wp2_with fail
        refine (rparent_any nd.path _ hf0).mono ?_
        rintro e w3 ⟨rfl, ho3⟩
        clear c0
        have hoA := (((ho.trans_nil ho1).trans_nil ho2).trans_nil ho3)
        have hab2 := Nat.lt_of_lt_of_le hab1 ho2.size
        have HNA3 := Lib.hid (HNA2.out.off ho3 hab2)
        have hab3 := Nat.lt_of_lt_of_le hab2 ho3.size
        go_wp2_with fail
        cases hv3 : rdir t (parent (str nd.path))
        · have HV3 := Lib.hid hv3
          refine (rdir_v (some a) t n cap _ _ (HR.out.off hoA) HN.out hbig false (hv3' _ hv3)).mono ?_
          rintro e w4 ⟨rfl, ho4⟩
          clear hv3 hv3'
          go_wp2_with fail
          go_ret
          exact ⟨by rw [chkV, HBAD.out (rok_of true true false HV1.out (fun _ => HV2.out) (fun _ _ => HV3.out) (fun _ _ h => by cases h))]; rfl, hoA.trans_nil ho4⟩
        have HV3 := Lib.hid hv3
        refine (rdir_v (some a) t n cap _ _ (HR.out.off hoA) HN.out hbig true (hv3' _ hv3)).mono ?_
        rintro e w4 ⟨rfl, ho4⟩
        clear hv3 hv3'
        have hoB := hoA.trans_nil ho4
        have HNA4 := Lib.hid (HNA3.out.off ho4 hab3)
        have hab4 := Nat.lt_of_lt_of_le hab3 ho4.size
        clear ho1 ho2 ho3 ho4 hab1 hab2 hab3 hoA
        by_cases hk0 : k = 0
        · have H3 := Lib.hid (show lastOk (t.take k) nd = true from lastOk_none (by rw [hk0]; simp))
          have hkz : ¬ ((0 : Int) < (k : Int)) := by omega
          have hkz' : ¬ (0 < k) := by omega
          clear hk0
          go_wp2_with fail
          refine wp_region_ext (by kernel_rfl) (by kernel_rfl) ?_
          repeat (go_big_quiet_step (fail))
          refine wpQuiet_nil ?_
          rintro W2 ⟨x, rfl⟩
          have hoE := hoB.trans_nil (ext_off w4 x)
          generalize ext w4 x = W2 at *
          go_wp2_with fail
          refine ⟨⟨k + 1, by congr 1, by omega, hoE, Lib.hid (HGOOD.out ?_)⟩, by simp only [intOf]; omega⟩
          unfold rok
          have e1 : okPath nd.p = true := HV1.out
          have e3 : rdir t (parent nd.p) = true := HV3.out
          rw [e1, HV2.out, e3, H3.out]; rfl
        · obtain ⟨j, rfl⟩ : ∃ j, k = j + 1 := ⟨k - 1, by omega⟩
          clear hk0
          have hjl : j < t.length := by omega
          obtain ⟨a', ea, hnp, hblk⟩ := HR.out.get j hjl
          have ea : a' = a := (Option.some.inj ea).symm
          subst ea
          have hpfit := (HF.out _ (List.getElem_mem hjl)).1
          have hlast : (t.take (j + 1)).getLast? = some t[j] := by rw [List.take_succ_eq_append_getElem hjl, List.getLast?_concat]
          have HLAST := Lib.hid hlast
          generalize t[j] = pn at *
          have hblk0 : (a'.add (j * 4)).block < w.heap.size := by rw [add_block]; exact hblk
          have hpb : (a'.add (j * 4)).block < w4.heap.size := Nat.lt_of_lt_of_le hblk0 hoB.size
          have hpc := (hoB.cell (p := a'.add (j * 4)) hblk0 (by simp)).trans hnp.path
          have hnc := HNA4.out.path
          clear ea hnp hlast
          obtain ⟨c, hc⟩ : ∃ c, order (str pn.path) (str nd.path) = c := ⟨_, rfl⟩
          have HC := Lib.hid hc
          clear hc
          have hwj : IntKind.i64.wrap (j : Int) = j := by rw [IntWalk.i64_in] <;> omega
          have hj0 : (0 : Int) ≤ j := by omega
          have hj1 : (j : Int) < n := by omega
          have hx := fun (x : World) (p : Addr) (hp : p.block < w4.heap.size) => ext_cell hp x
          by_cases hc0 : 0 ≤ c
          · go_wp2_with fail
            refine wp_region_ext (by kernel_rfl) (by kernel_rfl) ?_
            repeat (go_big_quiet_step (first
              | (go_at_call 84; exact Calls.ext_of (rorder_v pn.path nd.path _ hpfit hf0 c HC.out))))
            refine wpQuiet_nil ?_
            rintro W2 ⟨x, rfl⟩
            have hoE := hoB.trans_nil (ext_off w4 x)
            clear hx hpb hpc hnc
            generalize ext w4 x = W2 at *
            go_wp2_with fail
            go_ret
            refine ⟨?_, hoE⟩
            have hb : rok t (t.take (j + 1)) nd = false := by
              unfold rok
              have e4 : lastOk (t.take (j + 1)) nd = false := by
                rw [lastOk_some HLAST.out]
                have : order pn.p nd.p = c := HC.out
                rw [this]
                exact decide_eq_false (by omega)
              rw [e4]
              simp
            rw [chkV, HBAD.out hb]; rfl
          · have hcd : decide (0 ≤ c) = false := decide_eq_false hc0
            go_wp2_with fail
            refine wp_region_ext (by kernel_rfl) (by kernel_rfl) ?_
            repeat (go_big_quiet_step (first
              | (go_at_call 84; exact Calls.ext_of (rorder_v pn.path nd.path _ hpfit hf0 c HC.out))))
            refine wpQuiet_nil ?_
            rintro W2 ⟨x, rfl⟩
            have hoE := hoB.trans_nil (ext_off w4 x)
            clear hx hpb hpc hnc
            generalize ext w4 x = W2 at *
            go_wp2_with fail
            refine ⟨⟨j + 1 + 1, by congr 1, by omega, hoE, Lib.hid (HGOOD.out ?_)⟩, by simp only [intOf]; omega⟩
            unfold rok
            have e1 : okPath nd.p = true := HV1.out
            have e3 : rdir t (parent nd.p) = true := HV3.out
            have e4 : lastOk (t.take (j + 1)) nd = true := by
              rw [lastOk_some HLAST.out]
              have : order pn.p nd.p = c := HC.out
              rw [this]
              exact decide_eq_true (by omega)
            rw [e1, HV2.out, e3, e4]; rfl
      · obtain rfl : k = n := by omega
        go_wp2_with fail
        go_ret
        have hall : okTree t = true := RokTo.tree (by rw [HN.out]; exact hlen) (by rw [HN.out]; exact hok.out)
        exact ⟨by rw [chkV, hall]; rfl, ho⟩
  · go_enter Tryz.func40, Tryz.ntmps40
    go_wp2_with fail
    go_ret
    have hbad : okTree t = false := by unfold okTree; rw [HN.out]; simp [hlen]
    exact ⟨by rw [chkV, hbad]; rfl, Off.refl _ _⟩
end Go.Proofs.YtgcfkljooabjjaaGreatDoor

/- hawserref06.Same and tree.Same: the walks. Conditions: no list is longer than 2^40. -/
namespace Go.Proofs.YtgcfkljooabjjaaGreatDoor
open Go.RowKit Go.Op

instance : DecidableEq Node := fun a b => by
  rcases a with ⟨a1, a2, a3, a4⟩
  rcases b with ⟨b1, b2, b3, b4⟩
  exact decidable_of_iff (a1 = b1 ∧ a2 = b2 ∧ a3 = b3 ∧ a4 = b4) (by simp)
theorem toList_iff {x y : ByteArray} : x.toList = y.toList ↔ x = y := ⟨fun h => str_inj (by rwa [toList_str, toList_str] at h), fun h => by rw [h]⟩
theorem eqNode (x y : Node) (w : World) : (Op.equalIn 10000 30 (.agg #[.string x.path, .int .i64 x.kind, .string x.data, .int .i64 x.mode]) (.agg #[.string y.path, .int .i64 y.kind, .string y.data, .int .i64 y.mode])).run Tryz.prog w = .ok (decide (x = y)) w := by
  have u3 := Tryz.underlying3
  have a3 := Tryz.isAgg3
  have z3 := Tryz.sizeOf3
  have u9 := Tryz.underlying9
  have a9 := Tryz.isAgg9
  have z9 := Tryz.sizeOf9
  have hS : Tryz.prog.underlying 30 = some (.struct (Tryz.prog.fieldsOf 30)) := by kernel_rfl
  have hp : Tryz.prog.stoodInHeld 30 = false := by kernel_rfl
  rw [show (10000 : Nat) = 9999 + 1 from rfl, run_equalIn_agg w 9999 30 _ _ hS hp]
  simp only [Program.fieldsOf, Tryz.underlying30]
  go_simp
  obtain ⟨x1, x2, x3, x4⟩ := x
  obtain ⟨y1, y2, y3, y4⟩ := y
  by_cases h1 : x1 = y1 <;> by_cases h2 : x2 = y2 <;> by_cases h3 : x3 = y3 <;> by_cases h4 : x4 = y4 <;> simp [toList_iff, h1, h2, h3, h4]
set_option maxRecDepth 100000 in
set_option maxHeartbeats 4000000 in
theorem rsame_any (L M : List Node) (p q : Option Addr) (c d : Nat) (w : World) (hL : L.length ≤ 1099511627776) (hM : M.length ≤ 1099511627776) (hp : Row w p L) (hq : Row w q M) :
    Calls Tryz.prog 32 #[.slice p L.length c, .slice q M.length d] w fun e w' => e = .returned (.bool (decide (L = M))) ∧ Off [] w w' := by
  obtain ⟨l, hl⟩ : ∃ l, L.length = l := ⟨_, rfl⟩
  obtain ⟨m, hm⟩ : ∃ m, M.length = m := ⟨_, rfl⟩
  rw [hl, hm]
  rw [hl] at hL
  rw [hm] at hM
  have HP := Lib.hid hp
  have HQ := Lib.hid hq
  have HL := Lib.hid hl
  have HM := Lib.hid hm
  clear hp hq hl hm
  by_cases hlm : l = m
  · subst hlm
    go_enter Tryz.func32, Tryz.ntmps32
    go_wp2_with fail
    go_loopw [5] (fun x wr => ∃ i : Nat, x = .int .i64 i ∧ i ≤ l ∧ Off [] w wr ∧ Hid (L.take i = M.take i)) (fun x _ => l - (intOf x).toNat)
    case atStart => exact ⟨0, rfl, by omega, Off.refl _ _, Lib.hid rfl⟩
    case round =>
      obtain ⟨i, rfl, hi, ho, htk⟩ := hrel
      by_cases hlt : i < l
      · have hi1 := List.getElem?_eq_getElem (show i < L.length by rw [HL.out]; exact hlt)
        have hi2 := List.getElem?_eq_getElem (show i < M.length by rw [HM.out]; exact hlt)
        obtain ⟨a, rfl, hna, hab⟩ := (HP.out.off ho).get i (show i < L.length by rw [HL.out]; exact hlt)
        obtain ⟨b, rfl, hnb, hbb⟩ := (HQ.out.off ho).get i (show i < M.length by rw [HM.out]; exact hlt)
        generalize L[i]'(by rw [HL.out]; exact hlt) = x at *
        generalize M[i]'(by rw [HM.out]; exact hlt) = y at *
        have c0 := hna.path
        have c1 := hna.kind
        have c2 := hna.data
        have c3 := hna.mode
        have d0 := hnb.path
        have d1 := hnb.kind
        have d2 := hnb.data
        have d3 := hnb.mode
        have heq := eqNode x y
        have hgd : Tryz.prog.eqGuardType Tryz.prog.depth 30 = false := by kernel_rfl
        have HI1 := Lib.hid hi1
        have HI2 := Lib.hid hi2
        have habk : (a.add (i * 4)).block < wr.heap.size := by rw [add_block]; exact hab
        have hbbk : (b.add (i * 4)).block < wr.heap.size := by rw [add_block]; exact hbb
        clear hna hnb hi1 hi2
        by_cases hxy : x = y
        · have hd : decide (x = y) = true := decide_eq_true hxy
          have HXY := Lib.hid hxy
          rw [hd] at heq
          clear hxy hd
          go_wp2_with fail
          go_quiet (fail)
          go_wp2_with fail
          refine ⟨⟨i + 1, by congr 1, by omega, ho.drewN _, Lib.hid ?_⟩, by simp only [intOf]; omega⟩
          rw [take_get HI1.out, take_get HI2.out, htk.out, HXY.out]
        · have hd : decide (x = y) = false := decide_eq_false hxy
          have HXY := Lib.hid hxy
          rw [hd] at heq
          clear hxy hd
          go_wp2_with fail
          go_quiet (fail)
          go_wp2_with fail
          go_ret
          have hne : L ≠ M := fun e => by
            have h1 := HI1.out
            rw [e, HI2.out] at h1
            exact HXY.out (Option.some.inj h1).symm
          exact ⟨by rw [decide_eq_false hne]; rfl, ho.drewN _⟩
      · obtain rfl : i = l := by omega
        go_wp2_with fail
        go_ret
        have he : L = M := by
          have := htk.out
          rw [List.take_of_length_le (by rw [HL.out]; exact Nat.le_refl _), List.take_of_length_le (by rw [HM.out]; exact Nat.le_refl _)] at this
          exact this
        exact ⟨by rw [decide_eq_true he]; rfl, ho⟩
  · have hne : L ≠ M := fun e => hlm (by rw [← HL.out, ← HM.out, e])
    have HNE := Lib.hid hne
    clear hne
    go_enter Tryz.func32, Tryz.ntmps32
    go_wp2_with fail
    go_ret
    exact ⟨by rw [decide_eq_false HNE.out]; rfl, Off.refl _ _⟩
end Go.Proofs.YtgcfkljooabjjaaGreatDoor

/- Where two lists of nodes differ, in plain words. Conditions: none beyond what each lemma states. -/
namespace Go.Proofs.YtgcfkljooabjjaaGreatDoor
open Go.RowKit Go.Op

def pathsOf (t : List Node) : List ByteArray := t.map fun n => n.path
def oneDif (x y : Node) : List ByteArray := if x = y then [] else [x.path]
def differ : List Node → List Node → List ByteArray
  | [], b => pathsOf b
  | x :: a, [] => pathsOf (x :: a)
  | x :: a, y :: b =>
    if order x.p y.p < 0 then x.path :: differ a (y :: b)
    else if 0 < order x.p y.p then y.path :: differ (x :: a) b
    else oneDif x y ++ differ a b
termination_by a b => a.length + b.length
theorem differ_nil (b : List Node) : differ [] b = pathsOf b := by rw [differ]
theorem differ_nil2 (a : List Node) : differ a [] = pathsOf a := by cases a with | nil => rw [differ] | cons x a => rw [differ]
theorem differ_lt {x y : Node} {a b : List Node} (h : order x.p y.p < 0) : differ (x :: a) (y :: b) = x.path :: differ a (y :: b) := by rw [differ, if_pos h]
theorem differ_gt {x y : Node} {a b : List Node} (h : 0 < order x.p y.p) : differ (x :: a) (y :: b) = y.path :: differ (x :: a) b := by rw [differ, if_neg (by omega), if_pos h]
theorem differ_eq {x y : Node} {a b : List Node} (h : order x.p y.p = 0) : differ (x :: a) (y :: b) = oneDif x y ++ differ a b := by rw [differ, if_neg (by omega), if_neg (by omega)]
theorem differ_self : ∀ a : List Node, differ a a = []
  | [] => by rw [differ_nil]; rfl
  | x :: a => by rw [differ_eq (order_self _), differ_self a]; simp [oneDif]
theorem differ_len : ∀ (k : Nat) (a b : List Node), a.length + b.length ≤ k → (differ a b).length ≤ a.length + b.length
  | 0, a, b, h => by
    have e1 : a = [] := List.length_eq_zero_iff.1 (by omega)
    have e2 : b = [] := List.length_eq_zero_iff.1 (by omega)
    subst e1; subst e2
    rw [differ_nil]; simp [pathsOf]
  | k + 1, [], b, h => by rw [differ_nil]; simp [pathsOf]
  | k + 1, x :: a, [], h => by rw [differ_nil2]; simp [pathsOf]
  | k + 1, x :: a, y :: b, h => by
    simp only [List.length_cons] at h
    rcases Int.lt_trichotomy (order x.p y.p) 0 with h1 | h1 | h1
    · rw [differ_lt h1]
      have := differ_len k a (y :: b) (by simp only [List.length_cons]; omega)
      simp only [List.length_cons] at this ⊢; omega
    · rw [differ_eq h1]
      have := differ_len k a b (by omega)
      simp only [List.length_cons, List.length_append, oneDif]
      split <;> simp only [List.length_cons, List.length_nil] <;> omega
    · rw [differ_gt h1]
      have := differ_len k (x :: a) b (by simp only [List.length_cons]; omega)
      simp only [List.length_cons] at this ⊢; omega
theorem differ_none : ∀ (k : Nat) (a b : List Node), a.length + b.length ≤ k → differ a b = [] → a = b
  | 0, a, b, h, _ => by
    have e1 : a = [] := List.length_eq_zero_iff.1 (by omega)
    have e2 : b = [] := List.length_eq_zero_iff.1 (by omega)
    rw [e1, e2]
  | k + 1, [], b, h, hd => by rw [differ_nil] at hd; exact (List.map_eq_nil_iff.1 hd).symm
  | k + 1, x :: a, [], h, hd => by rw [differ_nil2] at hd; exact List.map_eq_nil_iff.1 hd
  | k + 1, x :: a, y :: b, h, hd => by
    simp only [List.length_cons] at h
    rcases Int.lt_trichotomy (order x.p y.p) 0 with h1 | h1 | h1
    · rw [differ_lt h1] at hd; cases hd
    · rw [differ_eq h1] at hd
      have h2 := List.append_eq_nil_iff.1 hd
      have h3 : x = y := by
        by_cases hxy : x = y
        · exact hxy
        · have := h2.1; unfold oneDif at this; rw [if_neg hxy] at this; cases this
      rw [h3, differ_none k a b (by omega) h2.2]
    · rw [differ_gt h1] at hd; cases hd
/-- what Differ answers -/
def differR (a b : List Node) : List ByteArray := if okTree a && okTree b then differ a b else []
/-- how far Differ has come -/
structure DifAt (A B : List Node) (i j : Nat) (D : List ByteArray) : Prop where
  li : i ≤ A.length
  lj : j ≤ B.length
  eq : differ A B = D ++ differ (A.drop i) (B.drop j)
  len : D.length ≤ i + j
theorem DifAt.start (A B : List Node) : DifAt A B 0 0 [] := ⟨Nat.zero_le _, Nat.zero_le _, rfl, Nat.le_refl _⟩
theorem DifAt.left {A B : List Node} {i j : Nat} {D : List ByteArray} (h : DifAt A B i j D) {x : Node} (hx : A[i]? = some x) (hc : j = B.length ∨ ∃ y, B[j]? = some y ∧ order x.p y.p < 0) : DifAt A B (i + 1) j (D ++ [x.path]) := by
  have hi := (List.getElem?_eq_some_iff.1 hx).1
  refine ⟨hi, h.lj, ?_, by have := h.len; simp; omega⟩
  rw [h.eq, drop_get hx]
  rcases hc with hc | ⟨y, hy, hc⟩
  · rw [List.drop_eq_nil_of_le (by omega : B.length ≤ j), differ_nil2, differ_nil2]; simp [pathsOf]
  · rw [drop_get hy, differ_lt hc]; simp
theorem DifAt.right {A B : List Node} {i j : Nat} {D : List ByteArray} (h : DifAt A B i j D) {y : Node} (hy : B[j]? = some y) (hc : i = A.length ∨ ∃ x, A[i]? = some x ∧ 0 < order x.p y.p) : DifAt A B i (j + 1) (D ++ [y.path]) := by
  have hj := (List.getElem?_eq_some_iff.1 hy).1
  refine ⟨h.li, hj, ?_, by have := h.len; simp; omega⟩
  rw [h.eq, drop_get hy]
  rcases hc with hc | ⟨x, hx, hc⟩
  · rw [List.drop_eq_nil_of_le (by omega : A.length ≤ i), differ_nil, differ_nil]; simp [pathsOf]
  · rw [drop_get hx, differ_gt hc]; simp
theorem DifAt.both {A B : List Node} {i j : Nat} {D : List ByteArray} (h : DifAt A B i j D) {x y : Node} (hx : A[i]? = some x) (hy : B[j]? = some y) (hc : order x.p y.p = 0) : DifAt A B (i + 1) (j + 1) (D ++ oneDif x y) := by
  have hi := (List.getElem?_eq_some_iff.1 hx).1
  have hj := (List.getElem?_eq_some_iff.1 hy).1
  refine ⟨hi, hj, ?_, ?_⟩
  · rw [h.eq, drop_get hx, drop_get hy, differ_eq hc]; simp
  · have := h.len
    rw [List.length_append]
    unfold oneDif
    split <;> simp only [List.length_cons, List.length_nil] <;> omega
theorem DifAt.fin {A B : List Node} {D : List ByteArray} (h : DifAt A B A.length B.length D) : differ A B = D := by
  rw [h.eq, List.drop_length, List.drop_length, differ_nil]; simp [pathsOf]
theorem DifAt.tail {A B : List Node} {i j : Nat} {D : List ByteArray} (h : DifAt A B i j D) (hc : i = A.length ∨ j = B.length) : differ A B = D ++ pathsOf (A.drop i ++ B.drop j) := by
  rw [h.eq]
  rcases hc with hc | hc
  · rw [hc, List.drop_length, differ_nil]; simp
  · rw [hc, List.drop_length, differ_nil2]; simp
end Go.Proofs.YtgcfkljooabjjaaGreatDoor

/- hawserref06.Differ: the walk. Conditions: no string is longer than 1048576 bytes; no list is longer than 2^40. -/
namespace Go.Proofs.YtgcfkljooabjjaaGreatDoor
open Go.RowKit Go.Op

/-- a list of strings that the call has made so far -/
def DRel (w : World) (A B : List Node) (i j : Nat) (v : Value) (wr : World) : Prop :=
  ∃ D : List ByteArray, DifAt A B i j D ∧ wr.ownsRow w.heap.size 9 1 v D.length (D.map Value.string) ∧ Off [] w wr
theorem rcheck_v (p : Option Addr) (t : List Node) (n cap : Nat) (w : World) (hR : Row w p t) (hn : t.length = n) (hbig : n ≤ 1099511627776) (hF : Fits1 t) (c : Int) (hc : chkV t = c) :
    Calls Tryz.prog 40 #[.slice p n cap] w fun e w' => e = .returned (.int .i64 c) ∧ Off [] w w' := hc ▸ rcheck_any p t n cap w hR hn hbig hF
end Go.Proofs.YtgcfkljooabjjaaGreatDoor

/- slices.Grow of nothing, slices.Concat of lists of nodes: the walks. Conditions: no more than 1000000 nodes. -/
namespace Go.Proofs.YtgcfkljooabjjaaGreatDoor
open Go.RowKit Go.Op

/-- a list of nodes that the call has made -/
def cellsOf (t : List Node) : List Value := t.flatMap fun n => [.string n.path, .int .i64 n.kind, .string n.data, .int .i64 n.mode]
theorem cellsOf_len (t : List Node) : (cellsOf t).length = t.length * 4 := by
  unfold cellsOf; rw [List.length_flatMap]; induction t with | nil => rfl | cons n t ih => simp at ih ⊢; omega
theorem cellsOf_append (a b : List Node) : cellsOf (a ++ b) = cellsOf a ++ cellsOf b := by unfold cellsOf; rw [List.flatMap_append]
theorem cellsOf_get : ∀ (t : List Node) (j : Nat) (u : Value), (cellsOf t)[j]? = some u → ∃ (i r : Nat) (n : Node), j = i * 4 + r ∧ r < 4 ∧ t[i]? = some n ∧ [Value.string n.path, .int .i64 n.kind, .string n.data, .int .i64 n.mode][r]? = some u
  | [], j, u, h => by simp [cellsOf] at h
  | n :: t, j, u, h => by
    have e : cellsOf (n :: t) = [Value.string n.path, .int .i64 n.kind, .string n.data, .int .i64 n.mode] ++ cellsOf t := by simp [cellsOf]
    rw [e] at h
    rcases Nat.lt_or_ge j 4 with hj | hj
    · rw [List.getElem?_append_left (by simpa using hj)] at h
      exact ⟨0, j, n, by omega, hj, rfl, h⟩
    · rw [List.getElem?_append_right (by simpa using hj)] at h
      obtain ⟨i, r, m, h1, h2, h3, h4⟩ := cellsOf_get t _ u h
      simp at h1
      exact ⟨i + 1, r, m, by omega, h2, by simpa using h3, h4⟩
theorem Row.cells {w : World} {a : Addr} {t : List Node} (h : Row w (some a) t) {j : Nat} {u : Value} (hj : (cellsOf t)[j]? = some u) : w.cell? (a.add j) = some u := by
  obtain ⟨i, r, n, rfl, hr, hi, hu⟩ := cellsOf_get t j u hj
  obtain ⟨a', ha, _, hn⟩ := h (fun e => by subst e; simp at hi)
  cases ha
  have hn := hn i n hi
  rw [← Go.Deep.add_add]
  match r, hr, hu with
  | 0, _, hu => cases hu; rw [show (a.add (i * 4)).add 0 = a.add (i * 4) by rw [Go.Deep.add_add]; rfl]; exact hn.path
  | 1, _, hu => cases hu; exact hn.kind
  | 2, _, hu => cases hu; exact hn.data
  | 3, _, hu => cases hu; exact hn.mode
theorem cellsOf_one {t : List Node} : ∀ u ∈ cellsOf t, u.oneCell' = true := by
  intro u hu
  unfold cellsOf at hu
  rw [List.mem_flatMap] at hu
  obtain ⟨n, _, hn⟩ := hu
  simp only [List.mem_cons, List.not_mem_nil, or_false] at hn
  rcases hn with rfl | rfl | rfl | rfl <;> rfl
/-- a list of nodes that the call owns reads so -/
theorem own_row {W : World} {base : Nat} {v : Value} {t : List Node} (h : W.ownsRow base 30 4 v t.length (cellsOf t)) :
    ∃ p cap, v = .slice p t.length cap ∧ Row W p t ∧ t.length ≤ cap ∧ (p = none → t = [] ∧ cap = 0) ∧ ∀ a, p = some a → base ≤ a.block := by
  rcases h.2 with ⟨rfl, h1⟩ | ⟨g, cap, cur, rfl, hb, hh, hc, _, hsz, ht⟩
  · have h2 := List.length_eq_zero_iff.1 h1
    subst h2
    exact ⟨none, 0, rfl, fun h => absurd rfl h, Nat.le_refl _, fun _ => ⟨rfl, rfl⟩, fun a h => by cases h⟩
  · refine ⟨some ⟨g, 0, none⟩, cap, rfl, fun _ => ⟨⟨g, 0, none⟩, rfl, (Array.getElem?_eq_some_iff.1 hh).1, fun i n hi => ?_⟩, hc, fun h => (by cases h), fun a h => by cases h; exact hb⟩
    have hil := (List.getElem?_eq_some_iff.1 hi).1
    have key : ∀ r : Nat, r < 4 → W.cell? ⟨g, i * 4 + r, none⟩ = (cellsOf t)[i * 4 + r]? := fun r hr => by
      rw [cell_of_row W g _ cur 30 (0, 0) hh, ← ht, List.getElem?_take, if_pos (by omega)]; simp
    have hcell : ∀ (t : List Node) (i : Nat) (n : Node), t[i]? = some n → ∀ r, r < 4 → (cellsOf t)[i * 4 + r]? = [Value.string n.path, .int .i64 n.kind, .string n.data, .int .i64 n.mode][r]? := fun t => by
      induction t with
      | nil => intro i n h; simp at h
      | cons m t ih =>
        intro i n h r hr
        have e : cellsOf (m :: t) = [Value.string m.path, .int .i64 m.kind, .string m.data, .int .i64 m.mode] ++ cellsOf t := by simp [cellsOf]
        rw [e]
        cases i with
        | zero => simp at h; subst h; rw [Nat.zero_mul, Nat.zero_add, List.getElem?_append_left (by simpa using hr)]
        | succ i =>
          rw [List.getElem?_append_right (by simp; omega)]
          have := ih i n (by simpa using h) r hr
          rw [← this]
          congr 1
          simp; omega
    rw [addr_add]
    exact ⟨(key 0 (by omega)).trans (hcell t i n hi 0 (by omega)), (key 1 (by omega)).trans (hcell t i n hi 1 (by omega)), (key 2 (by omega)).trans (hcell t i n hi 2 (by omega)), (key 3 (by omega)).trans (hcell t i n hi 3 (by omega))⟩
theorem own_base {W : World} {b b' e sz n : Nat} {v : Value} {xs : List Value} (h : W.ownsRow b e sz v n xs) (hb : b' ≤ b) : W.ownsRow b' e sz v n xs := by
  refine ⟨h.1, ?_⟩
  rcases h.2 with h | ⟨g, cap, cur, h1, h2, h3⟩
  · exact .inl h
  · exact .inr ⟨g, cap, cur, h1, Nat.le_trans hb h2, h3⟩
theorem own_grown {w wr W6 : World} {e sz n : Nat} {v : Value} {xs : List Value} (ho : Off [] w wr) (hown : wr.ownsRow w.heap.size e sz v n xs) (hg : wr.grownBy W6 v.ownBlock) : Off [] w W6 := by
  refine ho.grown hg (fun g hg' => .inl ?_)
  rcases hown.2 with ⟨rfl, _⟩ | ⟨g', cap, cur, rfl, hb, _⟩
  · cases hg'
  · cases hg'; exact hb
/-- lists of nodes, side by side -/
abbrev Pt := Option Addr × List Node × Nat
structure PtsAt (w : World) (g : Nat) (L : List Pt) : Prop where
  lt : g < w.heap.size
  at_ : ∀ (i : Nat) (x : Pt), L[i]? = some x → w.cell? ⟨g, i, none⟩ = some (.slice x.1 x.2.1.length x.2.2) ∧ Row w x.1 x.2.1 ∧ (x.1 = none → x.2.1 = [] ∧ x.2.2 = 0)
theorem PtsAt.off {w w' : World} {g : Nat} {L : List Pt} (h : PtsAt w g L) (ho : Off [] w w') : PtsAt w' g L :=
  ⟨Nat.lt_of_lt_of_le h.lt ho.size, fun i x hi => ⟨(ho.cell (p := ⟨g, i, none⟩) h.lt (by simp)).trans (h.at_ i x hi).1, (h.at_ i x hi).2.1.off ho, (h.at_ i x hi).2.2⟩⟩
def nodesIn (L : List Pt) : List Node := L.flatMap fun x => x.2.1
theorem nodesIn_take {L : List Pt} {i : Nat} {x : Pt} (h : L[i]? = some x) : nodesIn (L.take (i + 1)) = nodesIn (L.take i) ++ x.2.1 := by
  unfold nodesIn; rw [take_get h, List.flatMap_append]; simp
theorem nodesIn_le (L : List Pt) (i : Nat) : (nodesIn (L.take i)).length ≤ (nodesIn L).length := by
  conv => rhs; rw [← List.take_append_drop i L]
  unfold nodesIn; rw [List.flatMap_append, List.length_append]; omega
end Go.Proofs.YtgcfkljooabjjaaGreatDoor

/- slices.Clone of fates; a disk's Boot, where no edit is laid: the walks. Conditions: what each contract states. -/
namespace Go.Proofs.YtgcfkljooabjjaaGreatDoor
open Go.RowKit Go.Op Go.Maps

/-- fates in memory -/
def FRow (w : World) (p : Option Addr) (fs : List FateP) : Prop :=
  fs ≠ [] → ∃ a, p = some a ∧ a.block < w.heap.size ∧ ∀ (j : Nat) (u : Value), (fs.flatMap fateCells)[j]? = some u → w.cell? (a.add j) = some u
theorem FRow.off {w w' : World} {p : Option Addr} {fs : List FateP} (h : FRow w p fs) (ho : Off [] w w') : FRow w' p fs := fun hne => by
  obtain ⟨a, rfl, hb, hc⟩ := h hne
  exact ⟨a, rfl, Nat.lt_of_lt_of_le hb ho.size, fun j u hj => (ho.cell (p := a.add j) (by rw [add_block]; exact hb) (by simp)).trans (hc j u hj)⟩
theorem FRow.nil (w : World) (p : Option Addr) : FRow w p [] := fun h => absurd rfl h
theorem FRow.one {w : World} {g : Nat} (f : FateP) (h : Blk w g 23 #[.int .i64 f.at_, .int .i64 f.what, .int .i64 f.keep, .int .i64 f.torn]) : FRow w (some ⟨g, 0, none⟩) [f] := fun _ =>
  ⟨_, rfl, h.lt, fun j u hj => by
    rw [addr_add, h.cell]
    simpa [fateCells] using hj⟩
theorem fate_len : ∀ (fs : List FateP), (fs.flatMap fateCells).length = fs.length * 4
  | [] => rfl
  | f :: fs => by rw [List.flatMap_cons, List.length_append, fate_len fs]; simp [fateCells]; omega
theorem fate_at : ∀ (fs : List FateP) (j : Nat) (f : FateP), fs[j]? = some f → ∀ (i : Nat) (u : Value), (fateCells f)[i]? = some u → (fs.flatMap fateCells)[j * 4 + i]? = some u
  | [], j, f, h, _, _, _ => by simp at h
  | x :: fs, 0, f, h, i, u, hu => by
    simp at h
    subst h
    rw [List.flatMap_cons, Nat.zero_mul, Nat.zero_add, List.getElem?_append_left (List.getElem?_eq_some_iff.1 hu).1]
    exact hu
  | x :: fs, j + 1, f, h, i, u, hu => by
    rw [List.flatMap_cons, List.getElem?_append_right (by simp [fateCells]; omega)]
    rw [show (j + 1) * 4 + i - (fateCells x).length = j * 4 + i by simp [fateCells]; omega]
    exact fate_at fs j f (by simpa using h) i u hu
theorem fate_one (fs : List FateP) : ∀ u ∈ fs.flatMap fateCells, u.oneCell' = true := by
  intro u hu
  obtain ⟨n, _, hn⟩ := List.mem_flatMap.1 hu
  simp [fateCells] at hn
  rcases hn with rfl | rfl | rfl | rfl <;> rfl
theorem infoFate : (Tryz.prog.info? 23).map (fun i => (i.zero, i.size, i.bytes)) = some (some (.agg #[.int .i64 0, .int .i64 0, .int .i64 0, .int .i64 0]), 4, 32) := by kernel_rfl
set_option maxRecDepth 100000 in
set_option maxHeartbeats 4000000 in
theorem fclone_any (p : Option Addr) (fs : List FateP) (n cap : Nat) (w : World) (hR : FRow w p fs) (hn : fs.length = n) (hbig : n ≤ 1048576) (hpn : p = none → fs = []) :
    Calls Tryz.prog 45 #[.slice p n cap] w fun e w' => ∃ v, e = .returned v ∧ w'.ownsRow w.heap.size 23 4 v n (fs.flatMap fateCells) ∧ Off [] w w' := by
  obtain ⟨i0, hi0, hz0, hz1, hz2⟩ := info_parts infoFate
  have q22 : ∀ (w : World) (a : Option Addr) (n c n' c' : Nat), (binOp .eql 33 (.slice a n c) (.slice none n' c')).run Tryz.prog w = .ok (.bool a.isNone) w := fun w a n c n' c' => Lib.run_eql_slice_nil w _ _ a n c n' c' Tryz.underlying33
  cases p with
  | none =>
    obtain rfl := hpn rfl
    obtain rfl : 0 = n := hn
    clear hR hpn
    go_enter Tryz.func45, Tryz.ntmps45
    go_wp2_with fail
    go_ret
    exact ⟨_, rfl, ⟨rfl, .inl ⟨rfl, rfl⟩⟩, Off.refl _ _⟩
  | some a =>
    have HC := Lib.hid (show ∀ (j : Nat) (u : Value), (fs.flatMap fateCells)[j]? = some u → w.cell? (a.add j) = some u from fun j u hj => by
      obtain ⟨a', e, _, h⟩ := hR (fun e => by subst e; simp at hj)
      cases e
      exact h j u hj)
    have HO := Lib.hid (fate_one fs)
    have HCL := Lib.hid (show (fs.flatMap fateCells).length = n * 4 by rw [fate_len, hn])
    clear hR hpn hn
    go_enter Tryz.func45, Tryz.ntmps45
    go_wp2_with (at_builtin; refine wpList_append_own _ rfl _ _ 33 rfl w.heap.size 23 i0 _ 4 32 Tryz.underlying33 hi0 hz0 hz1 hz2 rfl (by decide) _ _ _ rfl (World.ownsRow_made w #[] 0 (Nat.le_refl _) (Nat.zero_le _) rfl) a n cap (fs.flatMap fateCells) rfl HCL.out ?qc2 HO.out ?qc4 ?qc5 ?qc6 ?_)
    case qc2 =>
      intro j u hj
      exact Lib.cell?_alloc_some _ (HC.out j u hj)
    case qc4 => unfold maxLen; omega
    case qc5 => omega
    case qc6 => simp
    intro v' w1 hown hgrow hnil
    go_wp2_with fail
    go_ret
    refine ⟨v', rfl, by simpa using hown, ?_⟩
    exact ((Off.refl _ w).alloc _).grown hgrow (by intro k hk; simp [Value.ownBlock] at hk; omega)
/-- the fates that a disk keeps -/
theorem fatesAt_own {w : World} {base : Nat} {v : Value} {fs : List FateP} (h : w.ownsRow base 23 4 v fs.length (fs.flatMap fateCells)) : FatesAt w v v.ownBlock.toList fs ∧ ∀ b ∈ v.ownBlock.toList, base ≤ b ∧ ∃ cs, Blk w b 23 cs := by
  rcases h.2 with ⟨rfl, h1⟩ | ⟨g, cap, cur, rfl, hb, hh, hc, _, hsz, ht⟩
  · refine ⟨⟨none, 0, by rw [h1], by omega, fun hne => absurd (List.length_eq_zero_iff.1 h1) hne⟩, fun b hb => by simp [Value.ownBlock] at hb⟩
  · have hB : Blk w g 23 cur := hh
    refine ⟨⟨some ⟨g, 0, none⟩, cap, rfl, hc, fun _ => ⟨g, rfl, by simp [Value.ownBlock], hB.lt, fun j f hj i u hu => ?_⟩⟩, fun b hb' => ?_⟩
    · rw [hB.cell]
      have h3 := fate_at fs j f hj i u hu
      rw [← ht, List.getElem?_take] at h3
      split at h3
      · simpa using h3
      · cases h3
    · simp [Value.ownBlock] at hb'
      subst hb'
      exact ⟨hb, _, hB⟩
set_option maxRecDepth 100000 in
set_option maxHeartbeats 8000000 in
theorem dboot_call (p n : Nat) (G : Geo) (D : PDisk) (fp : Option Addr) (fs : List FateP) (nf c : Nat) (w : World) (h : DS w p G D n) (hF : FRow w fp fs) (hn : fs.length = nf) (hb : nf ≤ 1000000) (hpn : fp = none → fs = []) :
    Calls Tryz.prog 15 #[.pointer (some ⟨p, 0, none⟩), .slice fp nf c, .slice none 0 0] w fun e w' => e = .returned (.tuple #[]) ∧ DSTo w p G.parts w' (D.boot fs) n := by
  have H := Lib.hid h
  have HCL := Lib.hid (fclone_any fp fs nf c w hF hn (by omega) hpn)
  have HN := Lib.hid hn
  have hc0 := h.m.blk.cell
  unfold diskCells at hc0
  clear h hF hn hpn
  go_enter Tryz.func15, Tryz.ntmps15
  go_wp2_with fail
  refine HCL.out.mono ?_
  rintro e w1 ⟨v0, rfl, hown, ho⟩
  obtain ⟨pv, cv, rfl⟩ := row_len hown
  have H1 := Lib.hid (H.out.off ho)
  have HOWN := Lib.hid hown
  have HO := Lib.hid ho
  have hc := H1.out.m.blk.cell
  have hf := H1.out.m.blk.frozen
  have hl := H1.out.m.blk.lt
  unfold diskCells at hc
  clear hown ho hc0
  go_upto_region 2 with fail
  refine code_gen (fun W => Blk W p 99 (((((diskCells G D).setIfInBounds 5 (.bool false)).setIfInBounds 7 (.slice none 0 0)).setIfInBounds 8 (.slice pv nf cv)).setIfInBounds 9 (.slice none 0 0)) ∧ Off [p] w1 W)
    ⟨(((H1.out.m.blk.set_ 5 _).set_ 7 _).set_ 8 _).set_ 9 _, ((((Off.refl [p] w1).setCell (.inr (by simp)) _).setCell (.inr (by simp)) _).setCell (.inr (by simp)) _).setCell (.inr (by simp)) _⟩ ?_
  rintro W ⟨hB, hoW⟩
  have HB := Lib.hid hB
  have HOW := Lib.hid hoW
  clear hc hf hl hB hoW
  go_wp2_with fail
  go_loopw [26] (fun x wr => x = .int .i64 0 ∧ wr = W) (fun _ _ => 0)
  case atStart => exact ⟨rfl, rfl⟩
  case round =>
    obtain ⟨rfl, rfl⟩ := hrel
    go_wp2_with fail
    refine bodyPost_end (results_none rfl _ _ _) rfl ?_
    refine ⟨rfl, ?_⟩
    have hown := HOWN.out
    generalize (Value.slice pv nf cv) = v at hown HB
    rw [← HN.out] at hown
    obtain ⟨hFA, hFB⟩ := fatesAt_own hown
    have hpl : ∀ b ∈ v.ownBlock.toList, b ≠ p := fun b hb e => by
      have := (hFB b hb).1
      have := H.out.m.blk.lt
      omega
    have hPW := H1.out.m.parts.off HOW.out (fun b hb h => by simp at h; subst h; exact H1.out.m.far hb)
    refine H.out.to (Off.refl _ _) ⟨{ G with tv := .slice none 0 0, fv := v, fb := v.ownBlock.toList }, ⟨?_, ?_⟩, ?_, ?_, H.out.sb⟩ (PDisk.boot_ok H.out.ok fs (by rw [HN.out]; omega))
    · have := HB.out
      unfold diskCells at this ⊢
      simpa [PDisk.boot] using this
    · exact {
        names := hPW.names
        safe := hPW.safe
        later := hPW.later
        lbl := hPW.lbl
        laters := hPW.laters
        ino := hPW.ino
        qsl := hPW.qsl
        inos := hPW.inos
        nodup := hPW.nodup
        trace := World.ownsRow_nil _ 0 _ 3
        fates := hFA.off HOW.out (fun b hb h => by simp at h; exact hpl b hb h)
        fbl := fun g hg => by
          obtain ⟨_, cs, hB⟩ := hFB g hg
          exact ⟨cs, hB.off HOW.out (fun h => by simp at h; exact hpl g hg h)⟩
        apart := hPW.apart }
    · exact (HO.out.mono (fun _ _ h => by simp at h)).trans HOW.out (fun x _ h => by simp at h; subst h; exact List.mem_cons_self ..)
    · intro b hb
      rcases List.mem_cons.1 hb with rfl | hb
      · exact .inl (List.mem_cons_self ..)
      · rcases mem_rest.1 hb with h | h | h | h | h | h | h
        · exact .inl (List.mem_cons_of_mem _ (mem_rest.2 (.inl h)))
        · exact .inl (List.mem_cons_of_mem _ (mem_rest.2 (.inr (.inl h))))
        · exact .inl (List.mem_cons_of_mem _ (mem_rest.2 (.inr (.inr (.inl h)))))
        · exact .inl (List.mem_cons_of_mem _ (mem_rest.2 (.inr (.inr (.inr (.inl h))))))
        · exact .inl (List.mem_cons_of_mem _ (mem_rest.2 (.inr (.inr (.inr (.inr (.inl h)))))))
        · simp [Value.ownBlock] at h
        · exact .inr (hFB b h).1
end Go.Proofs.YtgcfkljooabjjaaGreatDoor

/- name.Parent and (*Disk).parent at every length that a string can have: the walks. Conditions: what each contract states. -/
namespace Go.Proofs.YtgcfkljooabjjaaGreatDoor
open Go.RowKit Go.Op Go.Maps

set_option maxRecDepth 100000 in
set_option maxHeartbeats 4000000 in
theorem lastB_big (s : ByteArray) (w : World) (hs : s.size ≤ 9223372036854775807) :
    Calls Tryz.prog 147 #[.string s, .int .u8 47] w fun e w' => e = .returned (.int .i64 (Lib.lastIndexByte s 47)) ∧ w = w' := by
  go_enter Tryz.func147, Tryz.ntmps147
  go_wp2
  go_loop [5] (fun x => ∃ k : Nat, k ≤ s.size ∧ x = .int .i64 ((k : Int) - 1) ∧ Hid (Lib.lastIndexByte s 47 = Lib.lastIdx s 47 k)) (fun x => (intOf x + 1).toNat)
  case atStart => exact ⟨s.size, Nat.le_refl _, by first | rfl | go_num | (congr 1; omega), Lib.hid rfl⟩
  case round =>
    obtain ⟨k, hk, rfl, hh⟩ := hrel
    have hat : ∀ j : Nat, (hj : j < s.size) → s.data[j]! = s[j] := fun j hj => by rw [getElem!_pos s.data j (by simpa using hj)]; rfl
    go_wp2
    · have hc : (((s[k - 1]).toNat : Int) == 47) = true := by assumption
      have k1 : 1 ≤ k := by omega
      have e1 : Lib.lastIdx s 47 k = ((k - 1 : Nat) : Int) := by
        have := Lib.lastIdx_hit s 47 (k - 1) (by rw [hat (k - 1) (by omega)]; simpa using hc)
        rwa [show k - 1 + 1 = k by omega] at this
      have e2 : ((k - 1 : Nat) : Int) = (k : Int) - 1 := by omega
      go_ret
      rw [hh.out, e1, e2]
      exact ⟨rfl, rfl⟩
    · have hc : (((s[k - 1]).toNat : Int) == 47) = false := by assumption
      have k1 : 1 ≤ k := by omega
      have e1 : Lib.lastIdx s 47 k = Lib.lastIdx s 47 (k - 1) := by
        have := Lib.lastIdx_miss s 47 (k - 1) (by rw [hat (k - 1) (by omega)]; simpa using hc)
        rwa [show k - 1 + 1 = k by omega] at this
      refine ⟨⟨k - 1, by omega, by congr 1; omega, Lib.hid (hh.out.trans e1)⟩, ?_⟩
      simp [intOf]; omega
    · have k0 : k = 0 := by omega
      subst k0
      go_ret
      rw [hh.out]
      exact ⟨rfl, rfl⟩
set_option maxRecDepth 100000 in
theorem lastIdx_big (s : ByteArray) (w : World) (hs : s.size ≤ 9223372036854775807) : Calls Tryz.prog 124 #[.string s, .int .u8 47] w fun e w' => e = .returned (.int .i64 (Lib.lastIndexByte s 47)) ∧ w = w' := by
  go_enter Tryz.func124, Tryz.ntmps124
  go_wp2_with fail
  refine (lastB_big s w hs).mono ?_
  rintro e w1 ⟨rfl, rfl⟩
  go_wp2_with fail
  go_ret
  exact ⟨rfl, rfl⟩
set_option maxRecDepth 100000 in
theorem parent_big (s : ByteArray) (w : World) (hs : s.size ≤ 9223372036854775807) (hT : Tabs w) :
    Calls Tryz.prog 89 #[.string s] w fun e w' => e = .returned (.string (bs (parent (str s)))) ∧ Off [] w w' := by
  rcases last_cases s with ⟨h, hn⟩ | ⟨i, h, hi, hc, hn⟩
  · have e1 : bs (parent (str s)) = ⟨#[]⟩ := by
      unfold parent; rw [parts_clean _ hn]; split <;> rfl
    have H := Lib.hid h
    have E := Lib.hid e1
    clear h e1
    go_enter Tryz.func89, Tryz.ntmps89
    go_wp2_with fail
    refine (lastIdx_big s _ hs).mono ?_
    rintro e w1 ⟨rfl, e1⟩
    subst e1
    rw [H.out]
    go_wp2_with fail
    go_ret
    exact ⟨by rw [E.out]; rfl, Off.refl _ _⟩
  · have H := Lib.hid h
    have HC := Lib.hid hc
    clear h hc
    have c1 : (0 : Int) ≤ ↑i := by omega
    have c2 : (↑i : Int) ≤ ↑s.size := by omega
    cases hk : okPath (str s)
    · have e1 : bs (parent (str s)) = ⟨#[]⟩ := by unfold parent; rw [hk]; rfl
      have HK := Lib.hid hk
      have E := Lib.hid e1
      clear hk e1
      go_enter Tryz.func89, Tryz.ntmps89
      go_wp2_with fail
      refine (lastIdx_big s _ (by omega)).mono ?_
      rintro e w1 ⟨rfl, e1⟩
      subst e1
      rw [H.out]
      go_wp2_with fail
      refine (path_any s _ hT).mono ?_
      rintro e w2 ⟨rfl, ho⟩
      rw [HK.out]
      go_wp2_with fail
      go_ret
      exact ⟨by rw [E.out]; rfl, ho⟩
    · have e1 : bs (parent (str s)) = s.extract 0 i := by
        apply str_inj
        unfold parent; rw [hk, str_bs, if_pos rfl, parts_last HC.out hn, List.dropLast_concat, joinP_parts, str_extract]; simp
      have HK := Lib.hid hk
      have E := Lib.hid e1
      clear hk e1
      go_enter Tryz.func89, Tryz.ntmps89
      go_wp2_with fail
      refine (lastIdx_big s _ (by omega)).mono ?_
      rintro e w1 ⟨rfl, e1⟩
      subst e1
      rw [H.out]
      go_wp2_with fail
      refine (path_any s _ hT).mono ?_
      rintro e w2 ⟨rfl, ho⟩
      rw [HK.out]
      go_wp2_with fail
      go_ret
      exact ⟨by rw [E.out]; rfl, ho⟩
theorem dparent_big (p : Nat) (G : Geo) (D : PDisk) (path : ByteArray) (w : World) (hM : DiskM w p G D) (hs : path.size ≤ 9223372036854775807) (hi : ∀ x, lookN D.names x ≤ 4611686018427387904) (hT : Tabs w) :
    Calls Tryz.prog 50 #[.pointer (some ⟨p, 0, none⟩), .string path] w fun e w' => e = .returned (rsn (D.parentE path)) ∧ Off [] w w' := by
  unfold PDisk.parentE rsn
  obtain ⟨v, hv⟩ : ∃ v, D.dir (bs (parent (str path))) = v := ⟨_, rfl⟩
  have HP := Lib.hid (fun (W : World) (h : Off [] w W) => parent_big path W hs (hT.off h))
  have HD := Lib.hid (fun (W : World) (h : Off [] w W) => ddir_v p G D (bs (parent (str path))) W (hM.off h (by simp) (by simp)) (Nat.le_trans (bs_parent_size path) (Nat.le_trans hs (by decide))) (hi _) v hv)
  rw [hv]
  generalize bs (parent (str path)) = u at HP HD
  clear hv hT hM hs hi
  go_enter Tryz.func50, Tryz.ntmps50
  go_wp2_with fail
  have hB := Blk.new w 111 #[.bool false, .int .i64 0]
  have hof := (Off.refl [] w).alloc (.cells #[.bool false, .int .i64 0] 111)
  refine (HP.out _ hof).mono ?_
  rintro e w1 ⟨rfl, ho⟩
  have hB := hB.off ho (by simp)
  have hof := hof.trans_nil ho
  clear ho
  go_wp2_with fail
  refine (HD.out _ hof).mono ?_
  rintro e w2 ⟨rfl, ho⟩
  have hB := hB.off ho (by simp)
  have ho := hof.trans_nil ho
  have hc := hB.cell
  have hf := hB.frozen
  have hl := hB.lt
  clear hof
  go_wp2_with fail
  have hB2 := (hB.set_ 0 (.bool (!v))).set_ 1 (.int .i64 62)
  have ho2 := (ho.setCell (p := ⟨w.heap.size, 0, none⟩) (.inl (Nat.le_refl _)) (.bool (!v))).setCell (p := ⟨w.heap.size, 1, none⟩) (.inl (Nat.le_refl _)) (.int .i64 62)
  have hc2 := hB2.cell
  clear hB hB2 ho hc hf hl
  refine bodyPost_ret (v := .agg #[.bool (!v), .int .i64 62]) ?_ rfl ?_
  · have hres : Tryz.f50.results = #[.cell 4 111] := rfl
    simp only [results, hres]
    go_simp
  · exact ⟨rfl, ho2⟩
end Go.Proofs.YtgcfkljooabjjaaGreatDoor

/- A disk's Sync: the walk. Conditions: what the contract states. -/
namespace Go.Proofs.YtgcfkljooabjjaaGreatDoor
open Go.RowKit Go.Op Go.Maps

/-- a list of reasons that has just been laid -/
theorem rsns_new (w : World) (l : List (Bool × Int)) (cs : Array Value) (h : (rsnCells l).toArray = cs) : RsnsAt (w.alloc (.cells cs 111)) w.heap.size l := by
  subst h
  exact Rsns.at_ (Blk.new w 111 _)
theorem sync_end {w w' : World} {p q n : Nat} {G : Geo} {D : PDisk} {i : Nat} {m : Ino} (h : DS w p G D n) (hq : G.qs[i]? = some q) (hw : Off [q] w w') (hB : Blk w' q 114 (inoCells m)) (hp : p ≠ q) : DSTo w p G.parts w' { D with inos := D.inos.set i m } n := by
  have hqp : q ∈ G.parts := List.mem_cons_of_mem _ (mem_rest.2 (.inr (.inr (.inr (.inl (List.mem_of_getElem? hq))))))
  have hM : DiskM w' p G { D with inos := D.inos.set i m } := by
    refine ⟨?_, h.m.parts.inoSet hw (fun b hb _ => by simpa using hb) hq hB⟩
    have := h.m.blk.off hw (by simpa using hp)
    unfold diskCells at this ⊢
    simpa using this
  have ho : Off (p :: G.parts) w w' := hw.mono (fun x _ hx => by simp at hx; subst hx; exact List.mem_cons_of_mem _ hqp)
  exact ⟨G, ⟨hM, h.sb, PDisk.set_ok h.ok i m, h.tabs.next ho (fun _ hb => .inl hb)⟩, ho, fun _ hb => .inl hb⟩
set_option maxRecDepth 100000 in
set_option maxHeartbeats 8000000 in
theorem dsync_call (p n : Nat) (G : Geo) (D : PDisk) (path : ByteArray) (w : World) (h : DS w p G D n) (hn : n ≤ 1000000) (hs : path.size ≤ 9223372036854775807) :
    Calls Tryz.prog 17 #[.pointer (some ⟨p, 0, none⟩), .string path] w fun e w' => e = .returned (.int .i64 (D.sync path).1) ∧ DSTo w p G.parts w' (D.sync path).2 (n + 2) := by
  have HST := Lib.hid (dstep_one p n G D ⟨#[83, 121, 110, 99]⟩ path w h hn)
  have HS := Lib.hid (show D.sync path = match D.step ⟨#[83, 121, 110, 99]⟩ path ⟨#[]⟩ with | (full, e, E) => if e ≠ 0 then (e, E) else E.sync_ path from rfl)
  clear h
  generalize D.step ⟨#[83, 121, 110, 99]⟩ path ⟨#[]⟩ = st at HST HS
  obtain ⟨full, er, E⟩ := st
  have HS := Lib.hid (show D.sync path = if er ≠ 0 then (er, E) else E.sync_ path from HS.out)
  go_enter Tryz.func17, Tryz.ntmps17
  go_wp2_with fail
  refine HST.out.mono ?_
  rintro e w1 ⟨rfl, hT⟩
  have HT := Lib.hid hT
  clear hT HST
  by_cases h0 : er = 0
  · subst h0
    have HS2 := Lib.hid (show D.sync path = E.sync_ path by rw [HS.out]; simp)
    obtain ⟨G1, h1, ho1, hp1⟩ := HT.out
    have H1 := Lib.hid h1
    have HOP := Lib.hid (And.intro ho1 hp1)
    clear ho1 hp1
    obtain ⟨x1, hx1⟩ : ∃ x, PDisk.no path = x := ⟨_, rfl⟩
    obtain ⟨x2, hx2⟩ : ∃ x, E.gone path = x := ⟨_, rfl⟩
    have HX := Lib.hid (And.intro hx1 hx2)
    have hno := dno_any path w1 h1.tabs.tabs
    have HGO := Lib.hid (fun (W : World) (ho : Off [] w1 W) => dgone_any p G1 E path W (h1.m.off ho (by simp) (by simp)) (by unfold maxLen; omega) (h1.ok.look (by omega) path))
    rw [hx1] at hno
    rw [hx2] at HGO
    unfold rsn at hno HGO
    have HNO := Lib.hid hno
    clear HS h1 hx1 hx2 hno
    go_wp2_with fail
    refine HNO.out.mono ?_
    rintro e w2 ⟨rfl, ho2⟩
    go_wp2_with fail
    refine (HGO.out _ ho2).mono ?_
    rintro e w3 ⟨rfl, ho3⟩
    have HO3 := Lib.hid (ho2.trans_nil ho3)
    clear HGO HNO ho2 ho3
    go_wp2_with fail
    refine (dfirst_any w3.heap.size 2 2 [x1, x2] _ (rsns_new w3 [x1, x2] _ rfl) rfl (by omega)).mono ?_
    rintro e w4 ⟨rfl, ho4⟩
    have HO4 := Lib.hid ((HO3.out.alloc _).trans_nil ho4)
    clear ho4
    obtain ⟨v, hv⟩ : ∃ v, firstE [x1, x2] = v := ⟨_, rfl⟩
    rw [hv]
    have HV := Lib.hid hv
    clear hv
    have HSY := Lib.hid (show E.sync_ path = if v ≠ 0 then (v, E) else (0, match E.at_ path with | none => E | some n => { E with inos := E.inos.set (lookN E.names path - 1) { n with dirty := false } }) by
      unfold PDisk.sync_
      rw [HX.out.1, HX.out.2, HV.out]
      rfl)
    by_cases hv0 : v = 0
    · subst hv0
      have hat : ∃ m, E.at_ path = some m := by
        cases ha : E.at_ path with
        | some m => exact ⟨m, rfl⟩
        | none =>
          exfalso
          have h2 : E.gone path = (true, 74) := by unfold PDisk.gone; rw [ha]; rfl
          have h3 := HV.out
          rw [← HX.out.1, ← HX.out.2, h2] at h3
          unfold PDisk.no at h3
          simp only [firstE] at h3
          split at h3 <;> simp at h3
      obtain ⟨m, hm⟩ := hat
      have H4 := Lib.hid (H1.out.off HO4.out)
      obtain ⟨q, hq1, hq2, -, hq3, -⟩ := at_some H4.out.m hm
      have HAT := Lib.hid (dat_some p G1 E path w4 H4.out.m (by unfold maxLen; omega) (H4.out.ok.look (by omega) path) q hq1)
      have HQ2 := Lib.hid hq2
      have HQ3 := Lib.hid hq3
      have HF := Lib.hid (show D.sync path = (0, { E with inos := E.inos.set (lookN E.names path - 1) { m with dirty := false } }) by
        rw [HS2.out, HSY.out, hm]; simp)
      clear hm hq1 hq2 hq3 HSY
      go_wp2_with fail
      refine HAT.out.mono ?_
      rintro e w5 ⟨rfl, ho5⟩
      have HO5 := Lib.hid ho5
      have hB5 := HQ2.out.off ho5 (by simp)
      have HB5 := Lib.hid hB5
      have hc := hB5.cell
      have hf := hB5.frozen
      have hl := hB5.lt
      unfold inoCells at hc
      clear ho5 hB5 HAT
      go_wp2_with fail
      go_ret
      rw [HF.out]
      refine ⟨rfl, ?_⟩
      refine DSTo.step ((HOP.out.1.trans_nil HO4.out).trans_nil HO5.out) HOP.out.2 ((sync_end (H4.out.off HO5.out) HQ3.out ((Off.refl [q] w5).setCell (p := ⟨q, 5, none⟩) (.inr (by simp)) _) ?_ ?_).le (by omega))
      · have := HB5.out.set_ 5 (.bool false)
        simpa [inoCells] using this
      · exact Ne.symm (HB5.out.ne_ (H4.out.m.blk.off HO5.out (by simp)) (by decide))
    · have HF := Lib.hid (show D.sync path = (v, E) by rw [HS2.out, HSY.out, if_pos hv0])
      have hne : (v == 0) = false := beq_eq_false_iff_ne.2 hv0
      clear hv0 HSY
      go_wp2_with fail
      go_ret
      rw [HF.out]
      exact ⟨rfl, DSTo.step (HOP.out.1.trans_nil HO4.out) HOP.out.2 ((H1.out.off HO4.out).refl.le (by omega))⟩
  · have HS2 := Lib.hid (show D.sync path = (er, E) by rw [HS.out, if_pos h0])
    have hne : (er == 0) = false := beq_eq_false_iff_ne.2 h0
    clear h0
    go_wp2_with fail
    go_ret
    rw [HS2.out]
    exact ⟨rfl, HT.out.le (by omega)⟩
end Go.Proofs.YtgcfkljooabjjaaGreatDoor

/- A disk's Get: the walk. Conditions: what the contract states. -/
namespace Go.Proofs.YtgcfkljooabjjaaGreatDoor
open Go.RowKit Go.Op Go.Maps

/-- blocks that the call itself has made are written -/
theorem DSTo.own {w W w1 w2 : World} {p n n1 : Nat} {G : Geo} {D D1 : PDisk} {k : List Nat} (h : DS w p G D n) (hW : Off [] w W) (hT : DSTo W p G.parts w1 D1 n1) (ho : Off k w1 w2) (hk : ∀ b ∈ k, w.heap.size ≤ b ∧ b < W.heap.size) : DSTo w p G.parts w2 D1 n1 := by
  obtain ⟨G1, h1, h2, h3⟩ := hT
  have hp := h.m.blk.lt
  have ho1 : Off (p :: G.parts) w w1 := (hW.mono (fun _ _ h => by simp at h)).trans h2 (fun _ _ h => h)
  have ho2 : Off (p :: G.parts) w w2 := ho1.trans ho (fun x hx hm => by have := (hk x hm).1; omega)
  have hp3 : ∀ b ∈ G1.parts, b ∈ G.parts ∨ w.heap.size ≤ b := fun b hb => by
    rcases h3 b hb with h | h
    · exact .inl h
    · exact .inr (Nat.le_trans hW.size h)
  refine ⟨G1, ⟨h1.m.off ho (fun hm => by have := (hk p hm).1; omega) (fun b hb hm => ?_), h1.sb, h1.ok, h.tabs.next ho2 hp3⟩, ho2, hp3⟩
  have h4 := hk b hm
  rcases h3 b hb with h5 | h5
  · have := h.m.parts.lt h5; omega
  · omega
theorem put7 {w : World} {gn gs : Nat} {c0 c1 c2 c3 d0 d1 d2 a b c d x y z : Value} (hn : Blk w gn 30 #[c0, c1, c2, c3]) (hs : Blk w gs 39 #[d0, d1, d2]) :
    Blk (((((((w.setCell ⟨gn, 0, none⟩ a).setCell ⟨gn, 1, none⟩ b).setCell ⟨gn, 2, none⟩ c).setCell ⟨gn, 3, none⟩ d).setCell ⟨gs, 0, none⟩ x).setCell ⟨gs, 1, none⟩ y).setCell ⟨gs, 2, none⟩ z) gn 30 #[a, b, c, d] ∧
    Blk (((((((w.setCell ⟨gn, 0, none⟩ a).setCell ⟨gn, 1, none⟩ b).setCell ⟨gn, 2, none⟩ c).setCell ⟨gn, 3, none⟩ d).setCell ⟨gs, 0, none⟩ x).setCell ⟨gs, 1, none⟩ y).setCell ⟨gs, 2, none⟩ z) gs 39 #[x, y, z] ∧
    Off [gn, gs] w (((((((w.setCell ⟨gn, 0, none⟩ a).setCell ⟨gn, 1, none⟩ b).setCell ⟨gn, 2, none⟩ c).setCell ⟨gn, 3, none⟩ d).setCell ⟨gs, 0, none⟩ x).setCell ⟨gs, 1, none⟩ y).setCell ⟨gs, 2, none⟩ z) := by
  have hne : gn ≠ gs := hn.ne_ hs (by decide)
  refine ⟨?_, ?_, ?_⟩
  · have := (((((((hn.set_ 0 a).set_ 1 b).set_ 2 c).set_ 3 d).far (p := ⟨gs, 0, none⟩) hne x).far (p := ⟨gs, 1, none⟩) hne y).far (p := ⟨gs, 2, none⟩) hne z)
    simpa using this
  · have := (((((((hs.far (p := ⟨gn, 0, none⟩) (Ne.symm hne) a).far (p := ⟨gn, 1, none⟩) (Ne.symm hne) b).far (p := ⟨gn, 2, none⟩) (Ne.symm hne) c).far (p := ⟨gn, 3, none⟩) (Ne.symm hne) d).set_ 0 x).set_ 1 y).set_ 2 z)
    simpa using this
  · exact (((((((Off.refl [gn, gs] w).setCell (.inr (by simp)) _).setCell (.inr (by simp)) _).setCell (.inr (by simp)) _).setCell (.inr (by simp)) _).setCell (.inr (by simp)) _).setCell (.inr (by simp)) _).setCell (.inr (by simp)) _
/-- what a Get hands back -/
def getVal (r : Int × Node × Int × Int × Int) : Value := .tuple #[.agg #[.string r.2.1.path, .int .i64 r.2.1.kind, .string r.2.1.data, .int .i64 r.2.1.mode], .agg #[.int .i64 r.2.2.1, .int .i64 r.2.2.2.1, .int .i64 r.2.2.2.2], .int .i64 r.1]
set_option maxRecDepth 100000 in
set_option maxHeartbeats 8000000 in
theorem dget_call (p n : Nat) (G : Geo) (D : PDisk) (path : ByteArray) (w : World) (h : DS w p G D n) (hn : n ≤ 1000000) (hs : path.size ≤ 9223372036854775807) :
    Calls Tryz.prog 20 #[.pointer (some ⟨p, 0, none⟩), .string path] w fun e w' => e = .returned (getVal (D.get path).1) ∧ DSTo w p G.parts w' (D.get path).2 (n + 1) := by
  have H := Lib.hid h
  have HS := Lib.hid (show D.get path = match D.step ⟨#[71, 101, 116]⟩ path ⟨#[]⟩ with | (_, e, E) => if e ≠ 0 then ((e, ⟨⟨#[]⟩, 0, ⟨#[]⟩, 0⟩, 0, 0, 0), E) else (E.get_ path, E) from rfl)
  have HSTEP := Lib.hid (fun (W : World) (ho : Off [] w W) => dstep_one p n G D ⟨#[71, 101, 116]⟩ path W (h.off ho) hn)
  clear h
  generalize D.step ⟨#[71, 101, 116]⟩ path ⟨#[]⟩ = st at HS HSTEP
  obtain ⟨full, er, E⟩ := st
  have HS := Lib.hid (show D.get path = if er ≠ 0 then ((er, ⟨⟨#[]⟩, 0, ⟨#[]⟩, 0⟩, 0, 0, 0), E) else (E.get_ path, E) from HS.out)
  go_enter Tryz.func20, Tryz.ntmps20
  go_upto_region 1 with fail
  refine code_gen (fun W => Blk W w.heap.size 30 #[.string ⟨#[]⟩, .int .i64 0, .string ⟨#[]⟩, .int .i64 0] ∧ Blk W (w.heap.size + 1) 39 #[.int .i64 0, .int .i64 0, .int .i64 0] ∧ Off [] w W ∧ w.heap.size + 1 < W.heap.size)
    ⟨(Blk.new w _ _).alloc _, Blk.new1 w _ _ _, ((Off.refl _ _).alloc _).alloc _, by simp⟩ ?_
  rintro W ⟨hbn, hbs, hof, hsz⟩
  have HBN := Lib.hid hbn
  have HBS := Lib.hid hbs
  have HOF := Lib.hid hof
  have HSZ := Lib.hid hsz
  clear hbn hbs hof hsz
  go_wp2_with fail
  refine (HSTEP.out W HOF.out).mono ?_
  rintro e w1 ⟨rfl, hT⟩
  have HT := Lib.hid hT
  obtain ⟨G1, h1, ho1, hp1⟩ := hT
  have hno : ∀ b, w.heap.size ≤ b → b < W.heap.size → b ∉ p :: G.parts := fun b hb _ hm => by
    rcases List.mem_cons.1 hm with rfl | hm
    · have := H.out.m.blk.lt; omega
    · have := H.out.m.parts.lt hm; omega
  have hbn1 := HBN.out.off ho1 (hno _ (Nat.le_refl _) (by have := HSZ.out; omega))
  have hbs1 := HBS.out.off ho1 (hno _ (by omega) HSZ.out)
  have HBN1 := Lib.hid hbn1
  have HBS1 := Lib.hid hbs1
  have H1 := Lib.hid h1
  have HOP := Lib.hid (And.intro ho1 hp1)
  have HKK := Lib.hid (show ∀ b ∈ [w.heap.size, w.heap.size + 1], w.heap.size ≤ b ∧ b < W.heap.size from fun b hb => by
    have := HSZ.out
    simp at hb
    omega)
  clear h1 ho1 hp1 hno HSTEP
  have hcn := hbn1.cell
  have hfn := hbn1.frozen
  have hln := hbn1.lt
  have hcs := hbs1.cell
  have hfs := hbs1.frozen
  have hls := hbs1.lt
  clear hbn1 hbs1
  by_cases h0 : er = 0
  · subst h0
    have HS2 := Lib.hid (show D.get path = (E.get_ path, E) by rw [HS.out]; simp)
    by_cases hp : path = ⟨#[]⟩
    · subst hp
      have HS3 := Lib.hid (show D.get ⟨#[]⟩ = ((0, ⟨⟨#[]⟩, 2, ⟨#[]⟩, 0⟩, 0, 0, 0), E) by rw [HS2.out]; unfold PDisk.get_; rw [if_pos rfl])
      clear HS
      go_wp2_with fail
      obtain ⟨k1, k2, k3⟩ := put7 (a := .string ⟨#[]⟩) (b := .int .i64 2) (c := .string ⟨#[]⟩) (d := .int .i64 0) (x := .int .i64 0) (y := .int .i64 0) (z := .int .i64 0) HBN1.out HBS1.out
      have hc1 := k1.cell
      have hc2 := k2.cell
      have K3 := Lib.hid k3
      clear k1 k2 k3 hcn hfn hln hcs hfs hls
      refine bodyPost_ret (v := .tuple #[.agg #[.string ⟨#[]⟩, .int .i64 2, .string ⟨#[]⟩, .int .i64 0], .agg #[.int .i64 0, .int .i64 0, .int .i64 0], .int .i64 0]) ?_ rfl ?_
      · have hres : Tryz.f20.results = #[.cell 4 30, .cell 5 39, .tmp 6] := rfl
        simp only [results, hres]
        go_simp
      · rw [HS3.out]
        exact ⟨rfl, DSTo.own H.out HOF.out HT.out K3.out HKK.out⟩
    · obtain ⟨hpe1, hpe2⟩ := emp_ne hp
      obtain ⟨x1, hx1⟩ : ∃ x, PDisk.no path = x := ⟨_, rfl⟩
      obtain ⟨x2, hx2⟩ : ∃ x, E.gone path = x := ⟨_, rfl⟩
      have HX := Lib.hid (And.intro hx1 hx2)
      have hno := dno_any path w1 H1.out.tabs.tabs
      have HGO := Lib.hid (fun (W : World) (ho : Off [] w1 W) => dgone_any p G1 E path W (H1.out.m.off ho (by simp) (by simp)) (by unfold maxLen; omega) (H1.out.ok.look (by omega) path))
      rw [hx1] at hno
      rw [hx2] at HGO
      unfold rsn at hno HGO
      have HNO := Lib.hid hno
      clear HS hx1 hx2 hno hcn hfn hln hcs hfs hls
      go_wp2_with fail
      refine HNO.out.mono ?_
      rintro e w2 ⟨rfl, ho2⟩
      go_wp2_with fail
      refine (HGO.out _ ho2).mono ?_
      rintro e w3 ⟨rfl, ho3⟩
      have HO3 := Lib.hid (ho2.trans_nil ho3)
      clear HGO HNO ho2 ho3
      go_wp2_with fail
      refine (dfirst_any w3.heap.size 2 2 [x1, x2] _ (rsns_new w3 [x1, x2] _ rfl) rfl (by omega)).mono ?_
      rintro e w4 ⟨rfl, ho4⟩
      have HO4 := Lib.hid ((HO3.out.alloc _).trans_nil ho4)
      clear ho4
      obtain ⟨v, hv⟩ : ∃ v, firstE [x1, x2] = v := ⟨_, rfl⟩
      rw [hv]
      have HV := Lib.hid hv
      clear hv
      have HGE := Lib.hid (show E.get_ path = if v ≠ 0 then (v, ⟨⟨#[]⟩, 0, ⟨#[]⟩, 0⟩, 0, 0, 0) else match E.at_ path with | none => (0, ⟨⟨#[]⟩, 0, ⟨#[]⟩, 0⟩, 0, 0, 0) | some n => (0, { n.node with path := path }, (lookN E.names path : Int), (n.node.data.size : Int), n.time) by
        unfold PDisk.get_
        rw [if_neg hp, HX.out.1, HX.out.2, HV.out]
        rfl)
      have HBN4 := Lib.hid (HBN1.out.off HO4.out (by simp))
      have HBS4 := Lib.hid (HBS1.out.off HO4.out (by simp))
      have hcn := HBN4.out.cell
      have hfn := HBN4.out.frozen
      have hln := HBN4.out.lt
      have hcs := HBS4.out.cell
      have hfs := HBS4.out.frozen
      have hls := HBS4.out.lt
      by_cases hv0 : v = 0
      · subst hv0
        have hat : ∃ m, E.at_ path = some m := by
          cases ha : E.at_ path with
          | some m => exact ⟨m, rfl⟩
          | none =>
            exfalso
            have h2 : E.gone path = (true, 74) := by unfold PDisk.gone; rw [ha]; rfl
            have h3 := HV.out
            rw [← HX.out.1, ← HX.out.2, h2] at h3
            unfold PDisk.no at h3
            simp only [firstE] at h3
            split at h3 <;> simp at h3
        obtain ⟨m, hm⟩ := hat
        have H4 := Lib.hid (H1.out.off HO4.out)
        obtain ⟨q, hq1, hq2, -, -, -⟩ := at_some H4.out.m hm
        have HAT := Lib.hid (dat_some p G1 E path w4 H4.out.m (by unfold maxLen; omega) (H4.out.ok.look (by omega) path) q hq1)
        have HQ2 := Lib.hid hq2
        have HF := Lib.hid (show D.get path = ((0, { m.node with path := path }, (lookN E.names path : Int), (m.node.data.size : Int), m.time), E) by
          rw [HS2.out, HGE.out, hm]; simp)
        clear hm hq1 hq2 HGE hcn hfn hln hcs hfs hls
        go_wp2_with fail
        refine HAT.out.mono ?_
        rintro e w5 ⟨rfl, ho5⟩
        have HO5 := Lib.hid ho5
        have hB5 := HQ2.out.off ho5 (by simp)
        have hc := hB5.cell
        have hf := hB5.frozen
        have hl := hB5.lt
        unfold inoCells at hc
        clear ho5 hB5 HAT
        go_upto_region 11 with fail
        refine code_gen (fun W6 => Blk W6 w5.heap.size 114 #[.string path, .int .i64 m.node.kind, .string m.node.data, .int .i64 m.node.mode, .int .i64 m.time, .bool m.dirty] ∧ Off [] w5 W6) ⟨Blk.new w5 _ _, (Off.refl _ _).alloc _⟩ ?_
        clear hc hf hl
        rintro W6 ⟨hb6, ho6⟩
        have HO6 := Lib.hid ((HO4.out.trans_nil HO5.out).trans_nil ho6)
        have H6 := H1.out.off HO6.out
        have HBN6 := Lib.hid (HBN1.out.off HO6.out (by simp))
        have HBS6 := Lib.hid (HBS1.out.off HO6.out (by simp))
        have hL : (Instr.lookup 95 (.map (some G1.nb)) (.string path) false).run Tryz.prog W6.drew = .ok (.int .i64 (lookN E.names path)) W6.drew := (H6.m.drew).parts.names.look path (by unfold maxLen; omega)
        have hgn : w.heap.size ∉ G1.parts := fun hm => by
          rcases HOP.out.2 _ hm with h5 | h5
          · have := H.out.m.parts.lt h5; omega
          · have := HSZ.out; omega
        have hL2 : (Instr.lookup 95 (.map (some G1.nb)) (.string path) false).run Tryz.prog ((((W6.setCell ⟨w.heap.size, 0, none⟩ (.string path)).setCell ⟨w.heap.size, 1, none⟩ (.int .i64 m.node.kind)).setCell ⟨w.heap.size, 2, none⟩ (.string m.node.data)).setCell ⟨w.heap.size, 3, none⟩ (.int .i64 m.node.mode)).drew = .ok (.int .i64 (lookN E.names path)) ((((W6.setCell ⟨w.heap.size, 0, none⟩ (.string path)).setCell ⟨w.heap.size, 1, none⟩ (.int .i64 m.node.kind)).setCell ⟨w.heap.size, 2, none⟩ (.string m.node.data)).setCell ⟨w.heap.size, 3, none⟩ (.int .i64 m.node.mode)).drew :=
          NMat.look ((H6.m.parts.names.off (k := [w.heap.size]) (((((Off.refl _ W6).setCell (.inr (by simp)) _).setCell (.inr (by simp)) _).setCell (.inr (by simp)) _).setCell (.inr (by simp)) _).drew (by simp; intro e; exact hgn (by rw [← e]; exact List.mem_cons_self ..)))) path (by unfold maxLen; omega)
        have hne1 : p ≠ w.heap.size := by have := H.out.m.blk.lt; omega
        have hne2 : p ≠ w.heap.size + 1 := by have := H.out.m.blk.lt; omega
        have hne3 : w5.heap.size ≠ w.heap.size := by have := HO6.out.size; have := HBN1.out.lt; have := (HO4.out.trans_nil HO5.out).size; omega
        have hne4 : w5.heap.size ≠ w.heap.size + 1 := by have := HBS1.out.lt; have := (HO4.out.trans_nil HO5.out).size; omega
        have hc := hb6.cell
        have hf := hb6.frozen
        have hl := hb6.lt
        have hcd := H6.m.blk.cell
        unfold diskCells at hcd
        have hcn := HBN6.out.cell
        have hfn := HBN6.out.frozen
        have hln := HBN6.out.lt
        have hcs := HBS6.out.cell
        have hfs := HBS6.out.frozen
        have hls := HBS6.out.lt
        clear hb6 ho6 H6
        generalize hIX : (lookN E.names path : Int) = ix at hL hL2 HF
        clear hgn
        go_region
        obtain ⟨k1, k2, k3⟩ := put7 (a := .string path) (b := .int .i64 m.node.kind) (c := .string m.node.data) (d := .int .i64 m.node.mode) (x := .int .i64 ix) (y := .int .i64 m.node.data.size) (z := .int .i64 m.time) HBN6.out HBS6.out
        have hc1 := k1.drew.cell
        have hc2 := k2.drew.cell
        have hl1 := k1.drew.lt
        have K3 := Lib.hid k3.drew
        clear k1 k2 k3 hcn hfn hln hcs hfs hls hc hf hl hcd hL hL2
        go_wp2_with fail
        refine bodyPost_ret (v := .tuple #[.agg #[.string path, .int .i64 m.node.kind, .string m.node.data, .int .i64 m.node.mode], .agg #[.int .i64 ix, .int .i64 m.node.data.size, .int .i64 m.time], .int .i64 0]) ?_ rfl ?_
        · have hres : Tryz.f20.results = #[.cell 4 30, .cell 5 39, .tmp 6] := rfl
          simp only [results, hres]
          go_simp
        · rw [HF.out]
          exact ⟨rfl, DSTo.own H.out HOF.out (HT.out.off HO6.out) K3.out HKK.out⟩
      · have HF := Lib.hid (show D.get path = ((v, ⟨⟨#[]⟩, 0, ⟨#[]⟩, 0⟩, 0, 0, 0), E) by rw [HS2.out, HGE.out, if_pos hv0])
        have hne : (v == 0) = false := beq_eq_false_iff_ne.2 hv0
        clear hv0 HGE
        go_wp2_with fail
        obtain ⟨k1, k2, k3⟩ := put7 (a := .string ⟨#[]⟩) (b := .int .i64 0) (c := .string ⟨#[]⟩) (d := .int .i64 0) (x := .int .i64 0) (y := .int .i64 0) (z := .int .i64 0) HBN4.out HBS4.out
        have hc1 := k1.cell
        have hc2 := k2.cell
        have K3 := Lib.hid k3
        clear k1 k2 k3 hcn hfn hln hcs hfs hls
        refine bodyPost_ret (v := .tuple #[.agg #[.string ⟨#[]⟩, .int .i64 0, .string ⟨#[]⟩, .int .i64 0], .agg #[.int .i64 0, .int .i64 0, .int .i64 0], .int .i64 v]) ?_ rfl ?_
        · have hres : Tryz.f20.results = #[.cell 4 30, .cell 5 39, .tmp 6] := rfl
          simp only [results, hres]
          go_simp
        · rw [HF.out]
          exact ⟨rfl, DSTo.own H.out HOF.out (HT.out.off HO4.out) K3.out HKK.out⟩
  · have HS2 := Lib.hid (show D.get path = ((er, ⟨⟨#[]⟩, 0, ⟨#[]⟩, 0⟩, 0, 0, 0), E) by rw [HS.out, if_pos h0])
    have hne : (er == 0) = false := beq_eq_false_iff_ne.2 h0
    clear h0
    go_wp2_with fail
    obtain ⟨k1, k2, k3⟩ := put7 (a := .string ⟨#[]⟩) (b := .int .i64 0) (c := .string ⟨#[]⟩) (d := .int .i64 0) (x := .int .i64 0) (y := .int .i64 0) (z := .int .i64 0) HBN1.out HBS1.out
    have hc1 := k1.cell
    have hc2 := k2.cell
    have K3 := Lib.hid k3
    clear k1 k2 k3 hcn hfn hln hcs hfs hls
    refine bodyPost_ret (v := .tuple #[.agg #[.string ⟨#[]⟩, .int .i64 0, .string ⟨#[]⟩, .int .i64 0], .agg #[.int .i64 0, .int .i64 0, .int .i64 0], .int .i64 er]) ?_ rfl ?_
    · have hres : Tryz.f20.results = #[.cell 4 30, .cell 5 39, .tmp 6] := rfl
      simp only [results, hres]
      go_simp
    · rw [HS2.out]
      exact ⟨rfl, DSTo.own H.out HOF.out HT.out K3.out HKK.out⟩
end Go.Proofs.YtgcfkljooabjjaaGreatDoor

/- A disk's Write: the walk. Conditions: what the contract states. -/
namespace Go.Proofs.YtgcfkljooabjjaaGreatDoor
open Go.RowKit Go.Op Go.Maps

/-- an inode is written whole -/
theorem put6 {w : World} {q : Nat} {c0 c1 c2 c3 c4 c5 a b c d x y : Value} (hq : Blk w q 114 #[c0, c1, c2, c3, c4, c5]) :
    Blk ((((((w.setCell ⟨q, 0, none⟩ a).setCell ⟨q, 1, none⟩ b).setCell ⟨q, 2, none⟩ c).setCell ⟨q, 3, none⟩ d).setCell ⟨q, 4, none⟩ x).setCell ⟨q, 5, none⟩ y) q 114 #[a, b, c, d, x, y] ∧
    Off [q] w ((((((w.setCell ⟨q, 0, none⟩ a).setCell ⟨q, 1, none⟩ b).setCell ⟨q, 2, none⟩ c).setCell ⟨q, 3, none⟩ d).setCell ⟨q, 4, none⟩ x).setCell ⟨q, 5, none⟩ y) := by
  refine ⟨?_, ?_⟩
  · have := (((((hq.set_ 0 a).set_ 1 b).set_ 2 c).set_ 3 d).set_ 4 x).set_ 5 y
    simpa using this
  · exact ((((((Off.refl [q] w).setCell (.inr (by simp)) _).setCell (.inr (by simp)) _).setCell (.inr (by simp)) _).setCell (.inr (by simp)) _).setCell (.inr (by simp)) _).setCell (.inr (by simp)) _
theorem rsns_blk (w : World) (l : List (Bool × Int)) (cs : Array Value) (h : (rsnCells l).toArray = cs) : Rsns (w.alloc (.cells cs 111)) w.heap.size l := by
  subst h
  exact Blk.new w 111 _
set_option maxRecDepth 100000 in
set_option maxHeartbeats 16000000 in
theorem dwrite_call (p n : Nat) (G : Geo) (D : PDisk) (path data : ByteArray) (mode : Int) (w : World) (h : DS w p G D n) (hn : n ≤ 1000000) (hs : path.size ≤ 9223372036854775807) :
    Calls Tryz.prog 16 #[.pointer (some ⟨p, 0, none⟩), .string path, .string data, .int .i64 mode] w fun e w' => e = .returned (.int .i64 (D.write path data mode).1) ∧ DSTo w p G.parts w' (D.write path data mode).2 (n + 2) := by
  obtain ⟨i0, hi0, hz0, hz1, hz2⟩ := info_parts infoRsn
  have HST := Lib.hid (dstep_one p n G D ⟨#[87, 114, 105, 116, 101]⟩ path w h hn)
  have HS := Lib.hid (show D.write path data mode = match D.step ⟨#[87, 114, 105, 116, 101]⟩ path ⟨#[]⟩ with | (full, e, E) => if e ≠ 0 then (e, E) else E.write_ full path data mode from rfl)
  clear h
  generalize D.step ⟨#[87, 114, 105, 116, 101]⟩ path ⟨#[]⟩ = st at HST HS
  obtain ⟨full, er, E⟩ := st
  have HS := Lib.hid (show D.write path data mode = if er ≠ 0 then (er, E) else E.write_ full path data mode from HS.out)
  go_enter Tryz.func16, Tryz.ntmps16
  go_wp2_with fail
  refine HST.out.mono ?_
  rintro e w1 ⟨rfl, hT⟩
  have HT := Lib.hid hT
  clear hT HST
  by_cases h0 : er = 0
  · subst h0
    have HS2 := Lib.hid (show D.write path data mode = E.write_ full path data mode by rw [HS.out]; simp)
    obtain ⟨G1, h1, ho1, hp1⟩ := HT.out
    have HOP := Lib.hid (And.intro ho1 hp1)
    obtain ⟨x1, hx1⟩ : ∃ x, PDisk.no path = x := ⟨_, rfl⟩
    obtain ⟨x3, hx3⟩ : ∃ x, E.parentE path = x := ⟨_, rfl⟩
    obtain ⟨b2, hb2⟩ : ∃ b, (decide (65536 < data.size) || decide (mode < 0) || decide (511 < mode)) = b := ⟨_, rfl⟩
    have HX := Lib.hid (And.intro hx1 hx3)
    have HB2 := Lib.hid hb2
    have HNO := Lib.hid (fun (W : World) (ho : Off [] w1 W) => dno_any path W (h1.tabs.off ho))
    have HPA := Lib.hid (fun (W : World) (ho : Off [] w1 W) => dparent_big p G1 E path W (h1.m.off ho (by simp) (by simp)) hs (fun x => h1.ok.look (by omega) x) (h1.tabs.off ho))
    have H1 := Lib.hid h1
    rw [hx1] at HNO
    rw [hx3] at HPA
    unfold rsn at HNO HPA
    clear HS hx1 hx3 hb2 h1 ho1 hp1
    go_upto_region 5 with fail
    refine code_gen (fun W => Blk W w1.heap.size 30 #[.string ⟨#[]⟩, .int .i64 1, .string data, .int .i64 mode] ∧ Off [] w1 W) ⟨Blk.new w1 _ _, (Off.refl _ _).alloc _⟩ ?_
    rintro W ⟨hbn, hof⟩
    have HBN := Lib.hid hbn
    have HOF := Lib.hid hof
    have HW := H1.out.off hof
    have HDW := Lib.hid HW
    cases ha : E.at_ path with
    | none =>
      have HAT := Lib.hid (dat_none p G1 E path W HW.m (by unfold maxLen; omega) (HW.ok.look (by omega) path) ha)
      have HWR := Lib.hid (show D.write path data mode = E.lay path ⟨⟨#[]⟩, 1, data, mode⟩ full [x1, (b2, 2), x3, (false, 73)] by
        rw [HS2.out]; unfold PDisk.write_; rw [ha, HX.out.1, HX.out.2, HB2.out])
      clear hbn hof HW ha
      go_wp2_with fail
      refine HAT.out.mono ?_
      rintro e w2 ⟨rfl, ho2⟩
      have HO2 := Lib.hid (HOF.out.trans_nil ho2)
      have HOW := Lib.hid ho2
      clear ho2 HAT
      go_upto_region 6 with fail
      go_cut [13] from 31 to 59 (fun s wx => ∃ g, s = .slice (some ⟨g, 0, none⟩) 4 4 ∧ Rsns wx g [x1, (b2, 2), x3, (false, 73)] ∧ Off [] w2 wx)
      case first =>
        by_cases hA : 65536 < data.size
        · have hA1 : (65536 : Int) < data.size := by omega
          have hb2 : b2 = true := by rw [← HB2.out]; simp [hA]
          subst hb2
          clear HB2 hA
          go_wp2_with fail
          refine (HNO.out _ HO2.out).mono ?_
          rintro e wa ⟨rfl, hoa⟩
          go_wp2_with fail
          refine (HPA.out _ (HO2.out.trans_nil hoa)).mono ?_
          rintro e wb ⟨rfl, hob⟩
          have hab := (hoa.trans_nil hob).alloc (.cells (rsnCells [x1, (true, 2), x3, (false, 73)]).toArray 111)
          clear hoa hob
          go_wp2_with fail
          go_meet
          exact ⟨wb.heap.size, rfl, rsns_blk wb [x1, (true, 2), x3, (false, 73)] _ rfl, hab⟩
        · have hA1 : ¬ (65536 : Int) < data.size := by omega
          by_cases hB : mode < 0
          · have hB1 := hB
            have hb2 : b2 = true := by rw [← HB2.out]; simp [hA, hB]
            subst hb2
            clear HB2 hA hB
            go_wp2_with fail
            refine (HNO.out _ HO2.out).mono ?_
            rintro e wa ⟨rfl, hoa⟩
            go_wp2_with fail
            refine (HPA.out _ (HO2.out.trans_nil hoa)).mono ?_
            rintro e wb ⟨rfl, hob⟩
            have hab := (hoa.trans_nil hob).alloc (.cells (rsnCells [x1, (true, 2), x3, (false, 73)]).toArray 111)
            clear hoa hob
            go_wp2_with fail
            go_meet
            exact ⟨wb.heap.size, rfl, rsns_blk wb [x1, (true, 2), x3, (false, 73)] _ rfl, hab⟩
          · have hB1 := hB
            by_cases hC : 511 < mode
            · have hC1 := hC
              have hb2 : b2 = true := by rw [← HB2.out]; simp [hA, hB, hC]
              subst hb2
              clear HB2 hA hB hC
              go_wp2_with fail
              refine (HNO.out _ HO2.out).mono ?_
              rintro e wa ⟨rfl, hoa⟩
              go_wp2_with fail
              refine (HPA.out _ (HO2.out.trans_nil hoa)).mono ?_
              rintro e wb ⟨rfl, hob⟩
              have hab := (hoa.trans_nil hob).alloc (.cells (rsnCells [x1, (true, 2), x3, (false, 73)]).toArray 111)
              clear hoa hob
              go_wp2_with fail
              go_meet
              exact ⟨wb.heap.size, rfl, rsns_blk wb [x1, (true, 2), x3, (false, 73)] _ rfl, hab⟩
            · have hC1 := hC
              have hb2 : b2 = false := by rw [← HB2.out]; simp [hA, hB, hC]
              subst hb2
              clear HB2 hA hB hC
              go_wp2_with fail
              refine (HNO.out _ HO2.out).mono ?_
              rintro e wa ⟨rfl, hoa⟩
              go_wp2_with fail
              refine (HPA.out _ (HO2.out.trans_nil hoa)).mono ?_
              rintro e wb ⟨rfl, hob⟩
              have hab := (hoa.trans_nil hob).alloc (.cells (rsnCells [x1, (false, 2), x3, (false, 73)]).toArray 111)
              clear hoa hob
              go_wp2_with fail
              go_meet
              rw [show (decide ((65536 : Int) < data.size) || decide (mode < 0) || decide (511 < mode)) = false from by simp only [Bool.or_eq_false_iff, decide_eq_false_iff_not]; omega]
              exact ⟨wb.heap.size, rfl, rsns_blk wb [x1, (false, 2), x3, (false, 73)] _ rfl, hab⟩
      case rest =>
        obtain ⟨g, rfl, hR, hox⟩ := hcut
        have HR := Lib.hid hR
        have HX2 := Lib.hid (HO2.out.trans_nil hox)
        have hbn := (HBN.out.off HOW.out (by simp)).off hox (by simp)
        have hcn := hbn.cell
        have hln := hbn.lt
        have HD2 := Lib.hid (H1.out.off HX2.out)
        clear hR hox hbn
        go_wp2_with fail
        refine (dlay_any p g 4 G1 E path ⟨⟨#[]⟩, 1, data, mode⟩ full [x1, (b2, 2), x3, (false, 73)] wc HD2.out.m HD2.out.sb HR.out rfl (by omega) (by have := HD2.out.ok.inos; omega) (by have := HD2.out.ok.nlen; omega) (by have := HD2.out.ok.llen; omega) (by unfold maxLen; omega)).mono ?_
        rintro e w5 ⟨rfl, hL⟩
        have HL := Lib.hid hL
        clear hL hcn hln
        go_wp2_with fail
        go_ret
        rw [HWR.out]
        refine ⟨rfl, DSTo.step (HOP.out.1.trans_nil HX2.out) HOP.out.2 (HD2.out.to (Off.refl _ _) HL.out ?_)⟩
        rw [← HX.out.1, ← HX.out.2]
        exact PDisk.lay_ok HD2.out.ok path _ full _ (by intro x hx; simp only [List.mem_cons, List.not_mem_nil, or_false] at hx; rcases hx with rfl | rfl | rfl | rfl <;> simp [PDisk.no, PDisk.parentE]) (by simp)
    | some m =>
      obtain ⟨q, hq1, hq2, -, hq3, -⟩ := at_some HW.m ha
      have HAT := Lib.hid (dat_some p G1 E path W HW.m (by unfold maxLen; omega) (HW.ok.look (by omega) path) q hq1)
      have HQ3 := Lib.hid hq3
      have hb4 : (!decide (m.node.kind = 1)) = (m.node.kind != 1) := by
        by_cases hk : m.node.kind = 1
        · rw [hk]; rfl
        · rw [decide_eq_false hk, bne_iff_ne.2 hk]; rfl
      have HWR := Lib.hid (show D.write path data mode = if firstE [x1, (b2, 2), x3, (m.node.kind != 1, 73), (full, 71)] ≠ 0 then (firstE [x1, (b2, 2), x3, (m.node.kind != 1, 73), (full, 71)], E) else (0, { E with inos := E.inos.set (lookN E.names path - 1) ⟨⟨⟨#[]⟩, 1, data, mode⟩, E.clock, true⟩ }) by
        rw [HS2.out]; unfold PDisk.write_; rw [ha, HX.out.1, HX.out.2, HB2.out]
        dsimp only
        rw [hb4]
        rfl)
      have HQW := Lib.hid hq2
      clear hbn hof HW ha hq1 hq2 hq3 hb4
      go_wp2_with fail
      refine HAT.out.mono ?_
      rintro e w2 ⟨rfl, ho2⟩
      have HO2 := Lib.hid (HOF.out.trans_nil ho2)
      have HOW := Lib.hid ho2
      have HQ := Lib.hid (HQW.out.off ho2 (by simp))
      clear ho2 HAT
      go_upto_region 6 with fail
      go_cut [13] from 31 to 59 (fun s wx => ∃ g, s = .slice (some ⟨g, 0, none⟩) 4 4 ∧ Rsns wx g [x1, (b2, 2), x3, (m.node.kind != 1, 73)] ∧ Off [] w2 wx)
      case first =>
        by_cases hA : 65536 < data.size
        · have hA1 : (65536 : Int) < data.size := by omega
          have hb2 : b2 = true := by rw [← HB2.out]; simp [hA]
          subst hb2
          clear HB2 hA
          go_wp2_with fail
          refine (HNO.out _ HO2.out).mono ?_
          rintro e wa ⟨rfl, hoa⟩
          go_wp2_with fail
          refine (HPA.out _ (HO2.out.trans_nil hoa)).mono ?_
          rintro e wb ⟨rfl, hob⟩
          have hbq := (HQ.out.off hoa (by simp)).off hob (by simp)
          have hcq := hbq.cell
          have hlq := hbq.lt
          unfold inoCells at hcq
          clear hbq
          have hab := (hoa.trans_nil hob).alloc (.cells (rsnCells [x1, (true, 2), x3, (m.node.kind != 1, 73)]).toArray 111)
          clear hoa hob
          go_wp2_with fail
          go_meet
          exact ⟨wb.heap.size, rfl, rsns_blk wb [x1, (true, 2), x3, (m.node.kind != 1, 73)] _ rfl, hab⟩
        · have hA1 : ¬ (65536 : Int) < data.size := by omega
          by_cases hB : mode < 0
          · have hB1 := hB
            have hb2 : b2 = true := by rw [← HB2.out]; simp [hA, hB]
            subst hb2
            clear HB2 hA hB
            go_wp2_with fail
            refine (HNO.out _ HO2.out).mono ?_
            rintro e wa ⟨rfl, hoa⟩
            go_wp2_with fail
            refine (HPA.out _ (HO2.out.trans_nil hoa)).mono ?_
            rintro e wb ⟨rfl, hob⟩
            have hbq := (HQ.out.off hoa (by simp)).off hob (by simp)
            have hcq := hbq.cell
            have hlq := hbq.lt
            unfold inoCells at hcq
            clear hbq
            have hab := (hoa.trans_nil hob).alloc (.cells (rsnCells [x1, (true, 2), x3, (m.node.kind != 1, 73)]).toArray 111)
            clear hoa hob
            go_wp2_with fail
            go_meet
            exact ⟨wb.heap.size, rfl, rsns_blk wb [x1, (true, 2), x3, (m.node.kind != 1, 73)] _ rfl, hab⟩
          · have hB1 := hB
            by_cases hC : 511 < mode
            · have hC1 := hC
              have hb2 : b2 = true := by rw [← HB2.out]; simp [hA, hB, hC]
              subst hb2
              clear HB2 hA hB hC
              go_wp2_with fail
              refine (HNO.out _ HO2.out).mono ?_
              rintro e wa ⟨rfl, hoa⟩
              go_wp2_with fail
              refine (HPA.out _ (HO2.out.trans_nil hoa)).mono ?_
              rintro e wb ⟨rfl, hob⟩
              have hbq := (HQ.out.off hoa (by simp)).off hob (by simp)
              have hcq := hbq.cell
              have hlq := hbq.lt
              unfold inoCells at hcq
              clear hbq
              have hab := (hoa.trans_nil hob).alloc (.cells (rsnCells [x1, (true, 2), x3, (m.node.kind != 1, 73)]).toArray 111)
              clear hoa hob
              go_wp2_with fail
              go_meet
              exact ⟨wb.heap.size, rfl, rsns_blk wb [x1, (true, 2), x3, (m.node.kind != 1, 73)] _ rfl, hab⟩
            · have hC1 := hC
              have hb2 : b2 = false := by rw [← HB2.out]; simp [hA, hB, hC]
              subst hb2
              clear HB2 hA hB hC
              go_wp2_with fail
              refine (HNO.out _ HO2.out).mono ?_
              rintro e wa ⟨rfl, hoa⟩
              go_wp2_with fail
              refine (HPA.out _ (HO2.out.trans_nil hoa)).mono ?_
              rintro e wb ⟨rfl, hob⟩
              have hbq := (HQ.out.off hoa (by simp)).off hob (by simp)
              have hcq := hbq.cell
              have hlq := hbq.lt
              unfold inoCells at hcq
              clear hbq
              have hab := (hoa.trans_nil hob).alloc (.cells (rsnCells [x1, (false, 2), x3, (m.node.kind != 1, 73)]).toArray 111)
              clear hoa hob
              go_wp2_with fail
              go_meet
              rw [show (decide ((65536 : Int) < data.size) || decide (mode < 0) || decide (511 < mode)) = false from by simp only [Bool.or_eq_false_iff, decide_eq_false_iff_not]; omega]
              exact ⟨wb.heap.size, rfl, rsns_blk wb [x1, (false, 2), x3, (m.node.kind != 1, 73)] _ rfl, hab⟩
      case rest =>
        obtain ⟨g, rfl, hR, hox⟩ := hcut
        have HR := Lib.hid hR
        have HX2 := Lib.hid (HO2.out.trans_nil hox)
        have HBN2 := Lib.hid ((HBN.out.off HOW.out (by simp)).off hox (by simp))
        have HQ2 := Lib.hid (HQ.out.off hox (by simp))
        have HD2 := Lib.hid (H1.out.off HX2.out)
        obtain ⟨v, hv⟩ : ∃ v, firstE [x1, (b2, 2), x3, (m.node.kind != 1, 73), (full, 71)] = v := ⟨_, rfl⟩
        rw [hv] at HWR
        have HV := Lib.hid hv
        clear hR hox hv
        go_wp2_with (at_builtin; refine wpList_append_grows _ rfl _ _ 115 rfl 111 i0 _ 2 16 Tryz.underlying115 hi0 hz0 hz1 hz2 rfl (by decide) (some ⟨g, 0, none⟩) 4 4 (rsnCells [x1, (b2, 2), x3, (m.node.kind != 1, 73)]) rfl (by intro h; cases h) rfl (HR.out.off ((Off.refl _ _).alloc _)).cells ⟨wc.heap.size, 0, none⟩ 1 1 [.bool full, .int .i64 71] rfl rfl (cell_two_at (Blk.new wc _ _)) (by simp [Value.oneCell']) (by omega) (by unfold maxLen; omega) (by omega) ?_; intro v' w5 hown hgrow; obtain ⟨g5, c5, rfl, hR5⟩ := rsns_own (l := [x1, (b2, 2), x3, (m.node.kind != 1, 73)] ++ [(full, 71)]) (by rw [rsnCells_snoc]; exact hown) (by omega))
        refine (dfirst_any g5 c5 5 [x1, (b2, 2), x3, (m.node.kind != 1, 73), (full, 71)] w5 hR5 rfl (by omega)).mono ?_
        rintro e w6 ⟨rfl, ho6⟩
        rw [HV.out]
        have hx := ((((Off.refl [] wc).alloc _).grown hgrow (fun k hk => by cases hk))).trans_nil ho6
        have HX6 := Lib.hid (HX2.out.trans_nil hx)
        have HD6 := Lib.hid (HD2.out.off hx)
        have hbn := HBN2.out.off hx (by simp)
        have HBN6 := Lib.hid hbn
        have hbq := HQ2.out.off hx (by simp)
        have HQ6 := Lib.hid hbq
        clear hown hgrow ho6 hR5 hx
        by_cases hv0 : v = 0
        · subst hv0
          have HF := Lib.hid (show D.write path data mode = (0, { E with inos := E.inos.set (lookN E.names path - 1) ⟨⟨⟨#[]⟩, 1, data, mode⟩, E.clock, true⟩ }) by rw [HWR.out]; simp)
          clear HWR
          have hcn := hbn.cell
          have hln := hbn.lt
          have hcq := hbq.cell
          have hfq := hbq.frozen
          have hlq := hbq.lt
          have hcd := HD6.out.m.blk.cell
          have hld := HD6.out.m.blk.lt
          have hne1 : p ≠ q := HD6.out.m.blk.ne_ hbq (by decide)
          have hne2 : w1.heap.size ≠ q := hbn.ne_ hbq (by decide)
          obtain ⟨cl, hcl⟩ : ∃ cl : Int, (E.clock : Int) = cl := ⟨_, rfl⟩
          unfold diskCells at hcd
          rw [hcl] at hcd HF
          have HCL := Lib.hid hcl
          unfold inoCells at hcq
          clear hbn hbq hcl
          go_upto_region 12 with fail
          go_region
          obtain ⟨k1, k2⟩ := put6 (a := .string ⟨#[]⟩) (b := .int .i64 1) (c := .string data) (d := .int .i64 mode) (x := .int .i64 cl) (y := .bool true) HQ6.out
          have K1 := Lib.hid k1.drew
          have K2 := Lib.hid k2.drew
          clear k1 k2 hcn hln hcq hfq hlq hcd hld
          go_wp2_with fail
          go_ret
          rw [HF.out]
          refine ⟨rfl, DSTo.step (HOP.out.1.trans_nil HX6.out) HOP.out.2 ((sync_end HD6.out HQ3.out K2.out ?_ hne1).le (by omega))⟩
          exact K1.out
        · have HF := Lib.hid (show D.write path data mode = (v, E) by rw [HWR.out, if_pos hv0])
          have hne : (v == 0) = false := beq_eq_false_iff_ne.2 hv0
          clear hv0 HWR hbn hbq
          go_wp2_with fail
          go_ret
          rw [HF.out]
          exact ⟨rfl, DSTo.step (HOP.out.1.trans_nil HX6.out) HOP.out.2 (HD6.out.refl.le (by omega))⟩
  · have HS2 := Lib.hid (show D.write path data mode = (er, E) by rw [HS.out, if_pos h0])
    have hne : (er == 0) = false := beq_eq_false_iff_ne.2 h0
    clear h0
    go_wp2_with fail
    go_ret
    rw [HS2.out]
    exact ⟨rfl, HT.out.le (by omega)⟩
end Go.Proofs.YtgcfkljooabjjaaGreatDoor
