/- hawserref01: Order, Within, Texts: the walks. Conditions: no string is longer than 1048576 bytes (Order, Within); no list is longer than 2^40 (Texts). -/
import Derived.Test.YtpaeihdkggbeoaaGreatDoorRef3
namespace Go.Proofs.YtpaeihdkggbeoaaGreatDoor
open Go.RowKit Go.Op

/-- the strings of a list lie in memory -/
def Strs (w : World) (p : Option Addr) (L : List ByteArray) : Prop :=
  ∀ (i : Nat) (x : ByteArray), L[i]? = some x → ∃ g, p = some ⟨g, 0, none⟩ ∧ g < w.heap.size ∧ w.cell? ⟨g, i, none⟩ = some (.string x)
theorem Strs.off {w w' : World} {p : Option Addr} {L : List ByteArray} (h : Strs w p L) (ho : Off [] w w') : Strs w' p L := fun i x hi => by
  obtain ⟨g, h1, h2, h3⟩ := h i x hi
  exact ⟨g, h1, Nat.lt_of_lt_of_le h2 ho.size, (ho.cell (p := ⟨g, i, none⟩) h2 (by simp)).trans h3⟩
theorem less_bs (x y : ByteArray) : bytesLess x.toList y.toList = decide (Lib.compareBytes (str x) (str y) < 0) := by rw [toList_str, toList_str]; exact less_cmp _ _
theorem beq_bs (x y : ByteArray) : (x.toList == y.toList) = decide (x = y) := by
  rw [toList_str, toList_str]
  by_cases h : x = y
  · subst h; simp
  · rw [decide_eq_false h]; exact beq_eq_false_iff_ne.2 (fun e => h (str_inj e))
/-- two names by which of them comes first -/
def cmpS (x y : ByteArray) : Int := Lib.compareBytes (str x) (str y)
theorem cmpN_drop {l m : List Str} {i : Nat} {x y : Str} (hx : l[i]? = some x) (hy : m[i]? = some y) :
    cmpN (l.drop i) (m.drop i) = if Lib.compareBytes x y = 0 then cmpN (l.drop (i + 1)) (m.drop (i + 1)) else Lib.compareBytes x y := by
  rw [drop_get hx, drop_get hy, cmpN]
set_option maxRecDepth 100000 in
set_option maxHeartbeats 4000000 in
theorem rorder_any (a b : ByteArray) (w : World) (ha : a.size ≤ 1048576) (hb : b.size ≤ 1048576) :
    Calls Tryz.prog 65 #[.string a, .string b] w fun e w' => e = .returned (.int .i64 (order (str a) (str b))) ∧ Off [] w w' := by
  have hla : (partsB a).length ≤ a.size + 1 := by rw [partsB_len]; have := @List.count_le_length _ _ 47 (str a); rw [str_size] at this; omega
  have hlb : (partsB b).length ≤ b.size + 1 := by rw [partsB_len]; have := @List.count_le_length _ _ 47 (str b); rw [str_size] at this; omega
  go_enter Tryz.func65, Tryz.ntmps65
  go_wp2_with fail
  refine (rparts_any a _ ha).mono ?_
  rintro e w1 ⟨v, rfl, hown, ho1⟩
  obtain ⟨p, c, rfl, hp⟩ := own_strs hown
  have hp : Strs w1 p (partsB a) := hp
  clear hown
  obtain ⟨l, hl⟩ : ∃ l, (partsB a).length = l := ⟨_, rfl⟩
  rw [hl]
  rw [hl] at hla
  go_wp2_with fail
  refine (rparts_any b _ hb).mono ?_
  rintro e w2 ⟨v, rfl, hown, ho2⟩
  obtain ⟨q, d, rfl, hq⟩ := own_strs hown
  have hq : Strs w2 q (partsB b) := hq
  clear hown
  obtain ⟨m, hm⟩ : ∃ m, (partsB b).length = m := ⟨_, rfl⟩
  rw [hm]
  rw [hm] at hlb
  have hoff := ho1.trans_nil ho2
  have HP := Lib.hid (hp.off ho2)
  have HQ := Lib.hid hq
  have HL := Lib.hid hl
  have HM := Lib.hid hm
  have HLP : Hid ((parts (str a)).length = l) := Lib.hid (by rw [← hl, partsB, List.length_map])
  have HMP : Hid ((parts (str b)).length = m) := Lib.hid (by rw [← hm, partsB, List.length_map])
  clear hp hq hl hm ho1 ho2
  go_wp2_with fail
  go_loopw [7] (fun x wr => ∃ i : Nat, x = .int .i64 i ∧ i ≤ l ∧ i ≤ m ∧ Off [] w2 wr ∧ Hid (order (str a) (str b) = cmpN ((parts (str a)).drop i) ((parts (str b)).drop i))) (fun x _ => l - (intOf x).toNat)
  case atStart => exact ⟨0, rfl, by omega, by omega, Off.refl _ _, Lib.hid rfl⟩
  case round =>
    obtain ⟨i, rfl, hil, him, ho, hord⟩ := hrel
    by_cases hlt : i < l
    · by_cases hmt : i < m
      · have hi1 := List.getElem?_eq_getElem (show i < (partsB a).length by rw [HL.out]; exact hlt)
        have hi2 := List.getElem?_eq_getElem (show i < (partsB b).length by rw [HM.out]; exact hmt)
        generalize (partsB a)[i]'(by rw [HL.out]; exact hlt) = x at *
        generalize (partsB b)[i]'(by rw [HM.out]; exact hmt) = y at *
        obtain ⟨g, rfl, hg, hcx⟩ := HP.out.off ho i x hi1
        obtain ⟨k, rfl, hk, hcy⟩ := HQ.out.off ho i y hi2
        have HDR := Lib.hid (cmpN_drop (partsB_get hi1) (partsB_get hi2))
        clear hi1 hi2 hp hq
        rcases cmpB_range (str x) (str y) with hc | hc | hc
        · have hl : bytesLess x.toList y.toList = true := by rw [less_bs, hc]; decide
          have HC := Lib.hid hc
          clear hc
          go_wp2_with fail
          go_quiet (fail)
          go_wp2_with fail
          go_ret
          exact ⟨by rw [hord.out, HDR.out, HC.out]; rfl, (hoff.trans_nil ho).drewN _⟩
        · have hl : bytesLess x.toList y.toList = false := by rw [less_bs, hc]; decide
          have he : (x.toList == y.toList) = true := by rw [beq_bs, decide_eq_true (str_inj (cmpB_eq hc))]
          have HC := Lib.hid hc
          clear hc
          go_wp2_with fail
          go_quiet (fail)
          go_wp2_with fail
          go_quiet (fail)
          go_wp2_with fail
          refine ⟨⟨i + 1, by congr 1, by omega, by omega, by first | exact ho.drewN _ | exact (ho.drewN _).drewN _, Lib.hid ?_⟩, by simp only [intOf]; omega⟩
          rw [hord.out, HDR.out, if_pos HC.out]
        · have hl : bytesLess x.toList y.toList = false := by rw [less_bs, hc]; decide
          have he : (x.toList == y.toList) = false := by
            rw [beq_bs]
            refine decide_eq_false fun e => ?_
            rw [e, cmpB_self] at hc
            exact absurd hc (by decide)
          have HC := Lib.hid hc
          clear hc
          go_wp2_with fail
          go_quiet (fail)
          go_wp2_with fail
          go_quiet (fail)
          go_wp2_with fail
          go_ret
          exact ⟨by rw [hord.out, HDR.out, HC.out]; rfl, by first | exact (hoff.trans_nil ho).drewN _ | exact ((hoff.trans_nil ho).drewN _).drewN _⟩
      · obtain rfl : i = m := by omega
        have HB : Hid ((parts (str b)).drop i = []) := Lib.hid (List.drop_eq_nil_of_le (by rw [HMP.out]; exact Nat.le_refl _))
        have HA : Hid ((parts (str a)).drop i ≠ []) := Lib.hid (fun e => by have := List.drop_eq_nil_iff.1 e; rw [HLP.out] at this; omega)
        clear hp hq
        go_wp2_with fail
        go_ret
        refine ⟨?_, hoff.trans_nil ho⟩
        have := HA.out
        rw [hord.out, HB.out]
        cases hh : (parts (str a)).drop i with
        | nil => exact absurd hh this
        | cons _ _ => rfl
    · obtain rfl : i = l := by omega
      have HA : Hid ((parts (str a)).drop i = []) := Lib.hid (List.drop_eq_nil_of_le (by rw [HLP.out]; exact Nat.le_refl _))
      clear hp hq
      by_cases hmt : i < m
      · have HB : Hid ((parts (str b)).drop i ≠ []) := Lib.hid (fun e => by have := List.drop_eq_nil_iff.1 e; rw [HMP.out] at this; omega)
        go_wp2_with fail
        go_ret
        refine ⟨?_, hoff.trans_nil ho⟩
        have := HB.out
        rw [hord.out, HA.out]
        cases hh : (parts (str b)).drop i with
        | nil => exact absurd hh this
        | cons _ _ => rfl
      · obtain rfl : i = m := by omega
        have HB : Hid ((parts (str b)).drop i = []) := Lib.hid (List.drop_eq_nil_of_le (by rw [HMP.out]; exact Nat.le_refl _))
        go_wp2_with fail
        go_ret
        exact ⟨by rw [hord.out, HA.out, HB.out]; rfl, hoff.trans_nil ho⟩
theorem prefix_take (l m : List Str) : l.isPrefixOf m = decide (m.take l.length = l) := by
  rw [Bool.eq_iff_iff, decide_eq_true_iff, List.isPrefixOf_iff_prefix, List.prefix_iff_eq_take]
  exact ⟨fun h => h.symm, fun h => h.symm⟩
theorem take_get {α : Type} {l : List α} {i : Nat} {x : α} (h : l[i]? = some x) : l.take (i + 1) = l.take i ++ [x] := by
  obtain ⟨h1, h2⟩ := List.getElem?_eq_some_iff.1 h
  rw [List.take_succ_eq_append_getElem h1, h2]
set_option maxRecDepth 100000 in
set_option maxHeartbeats 4000000 in
theorem rwithin_any (a b : ByteArray) (w : World) (ha : a.size ≤ 1048576) (hb : b.size ≤ 1048576) :
    Calls Tryz.prog 14 #[.string a, .string b] w fun e w' => e = .returned (.bool (within (str a) (str b))) ∧ Off [] w w' := by
  have hla : (partsB a).length ≤ a.size + 1 := by rw [partsB_len]; have := @List.count_le_length _ _ 47 (str a); rw [str_size] at this; omega
  have hlb : (partsB b).length ≤ b.size + 1 := by rw [partsB_len]; have := @List.count_le_length _ _ 47 (str b); rw [str_size] at this; omega
  have hE : b.toList = [] ↔ str b = [] := by rw [toList_str]
  cases hka : okPath (str a)
  · have HK := Lib.hid hka
    clear hka hE
    go_enter Tryz.func14, Tryz.ntmps14
    go_wp2_with fail
    refine (rpath_any a _ ha).mono ?_
    rintro e w1 ⟨rfl, ho⟩
    rw [HK.out]
    go_wp2_with fail
    go_ret
    exact ⟨by unfold within; rw [HK.out]; rfl, ho⟩
  have HK := Lib.hid hka
  clear hka
  by_cases hb0 : str b = []
  · have g := hE.2 hb0
    have g' : b.toList.isEmpty = true := by simp [g]
    have HB0 := Lib.hid hb0
    clear hE hb0
    go_enter Tryz.func14, Tryz.ntmps14
    go_wp2_with fail
    refine (rpath_any a _ ha).mono ?_
    rintro e w1 ⟨rfl, ho⟩
    rw [HK.out]
    go_wp2_with fail
    go_ret
    exact ⟨by unfold within; rw [HK.out, decide_eq_true HB0.out]; rfl, ho⟩
  · have g : ¬ b.toList = [] := fun e => hb0 (hE.1 e)
    have g' : b.toList.isEmpty = false := by simpa using g
    have HB0 := Lib.hid hb0
    clear hE hb0
    cases hkb : okPath (str b)
    · have HKB := Lib.hid hkb
      clear hkb
      go_enter Tryz.func14, Tryz.ntmps14
      go_wp2_with fail
      refine (rpath_any a _ ha).mono ?_
      rintro e w1 ⟨rfl, ho⟩
      rw [HK.out]
      go_wp2_with fail
      refine (rpath_any b _ hb).mono ?_
      rintro e w2 ⟨rfl, ho2⟩
      rw [HKB.out]
      go_wp2_with fail
      go_ret
      exact ⟨by unfold within; rw [HK.out, HKB.out, decide_eq_false HB0.out]; rfl, ho.trans_nil ho2⟩
    have HKB := Lib.hid hkb
    have HW : Hid (within (str a) (str b) = decide ((parts (str a)).take (parts (str b)).length = parts (str b))) := Lib.hid (by
      unfold within; rw [HK.out, HKB.out, decide_eq_false HB0.out, prefix_take]; rfl)
    clear hkb
    go_enter Tryz.func14, Tryz.ntmps14
    go_wp2_with fail
    refine (rpath_any a _ ha).mono ?_
    rintro e w1 ⟨rfl, ho⟩
    rw [HK.out]
    go_wp2_with fail
    refine (rpath_any b _ hb).mono ?_
    rintro e w2 ⟨rfl, ho2⟩
    rw [HKB.out]
    go_wp2_with fail
    have ho02 := ho.trans_nil ho2
    clear ho ho2
    refine (rparts_any a _ ha).mono ?_
    rintro e w3 ⟨v, rfl, hown, ho1⟩
    obtain ⟨p, c, rfl, hp⟩ := own_strs hown
    have hp : Strs w3 p (partsB a) := hp
    clear hown
    obtain ⟨l, hl⟩ : ∃ l, (partsB a).length = l := ⟨_, rfl⟩
    rw [hl]
    rw [hl] at hla
    go_wp2_with fail
    refine (rparts_any b _ hb).mono ?_
    rintro e w4 ⟨v, rfl, hown, ho2⟩
    obtain ⟨q, d, rfl, hq⟩ := own_strs hown
    have hq : Strs w4 q (partsB b) := hq
    clear hown
    obtain ⟨m, hm⟩ : ∃ m, (partsB b).length = m := ⟨_, rfl⟩
    rw [hm]
    rw [hm] at hlb
    have hoff := (ho02.trans_nil ho1).trans_nil ho2
    have HP := Lib.hid (hp.off ho2)
    have HQ := Lib.hid hq
    have HL := Lib.hid hl
    have HM := Lib.hid hm
    have HLP : Hid ((parts (str a)).length = l) := Lib.hid (by rw [← hl, partsB, List.length_map])
    have HMP : Hid ((parts (str b)).length = m) := Lib.hid (by rw [← hm, partsB, List.length_map])
    clear hp hq hl hm ho1 ho2 ho02
    by_cases hlm : l < m
    · go_wp2_with fail
      go_ret
      refine ⟨?_, hoff⟩
      rw [HW.out, decide_eq_false]
      · rfl
      · intro e
        have := congrArg List.length e
        rw [List.length_take, HLP.out, HMP.out] at this
        omega
    · go_wp2_with fail
      go_loopw [7] (fun x wr => ∃ i : Nat, x = .int .i64 i ∧ i ≤ m ∧ Off [] w4 wr ∧ Hid ((parts (str a)).take i = (parts (str b)).take i)) (fun x _ => m - (intOf x).toNat)
      case atStart => exact ⟨0, rfl, by omega, Off.refl _ _, Lib.hid rfl⟩
      case round =>
        obtain ⟨i, rfl, hi, ho, htk⟩ := hrel
        by_cases hlt : i < m
        · have hi1 := List.getElem?_eq_getElem (show i < (partsB a).length by rw [HL.out]; omega)
          have hi2 := List.getElem?_eq_getElem (show i < (partsB b).length by rw [HM.out]; exact hlt)
          generalize (partsB a)[i]'(by rw [HL.out]; omega) = x at *
          generalize (partsB b)[i]'(by rw [HM.out]; exact hlt) = y at *
          obtain ⟨g, rfl, hg, hcx⟩ := HP.out.off ho i x hi1
          obtain ⟨k, rfl, hk, hcy⟩ := HQ.out.off ho i y hi2
          have hil : i < l := by omega
          have HI1 := Lib.hid (partsB_get hi1)
          have HI2 := Lib.hid (partsB_get hi2)
          clear hi1 hi2
          by_cases hxy : x = y
          · have hbq : (x.toList == y.toList) = true := by rw [beq_bs, hxy]; simp
            have HXY := Lib.hid hxy
            clear hxy
            go_wp2_with fail
            go_quiet (fail)
            go_wp2_with fail
            refine ⟨⟨i + 1, by congr 1, by omega, ho.drewN _, Lib.hid ?_⟩, by simp only [intOf]; omega⟩
            rw [take_get HI1.out, take_get HI2.out, htk.out, HXY.out]
          · have hbq : (x.toList == y.toList) = false := by rw [beq_bs]; simp [hxy]
            have HXY := Lib.hid hxy
            clear hxy
            go_wp2_with fail
            go_quiet (fail)
            go_wp2_with fail
            go_ret
            refine ⟨?_, (hoff.trans_nil ho).drewN _⟩
            rw [HW.out, decide_eq_false]
            · rfl
            · intro e
              have h1 : (parts (str a))[i]? = (parts (str b))[i]? := by
                rw [← e, List.getElem?_take, if_pos (by rw [HMP.out]; exact hlt)]
              rw [HI1.out, HI2.out] at h1
              exact HXY.out (str_inj (Option.some.inj h1))
        · obtain rfl : i = m := by omega
          go_wp2_with fail
          go_ret
          refine ⟨?_, hoff.trans_nil ho⟩
          rw [HW.out, decide_eq_true]
          · rfl
          · rw [HMP.out, htk.out, List.take_of_length_le (by rw [HMP.out]; exact Nat.le_refl _)]
end Go.Proofs.YtpaeihdkggbeoaaGreatDoor
