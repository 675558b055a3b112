/- strings.ContainsAny at a slash and a nought; name.Name. Conditions: the tables of unicode/utf8 are laid. -/
import Derived.Test.YtpaeihdkggbeoaaGreatDoorAny
namespace Go.Proofs.YtpaeihdkggbeoaaGreatDoor
open Go.RowKit Go.Op

theorem asc2 : ∀ (j : Nat) (b : UInt8), (⟨#[47, 0]⟩ : ByteArray).data.toList[j]? = some b → b.toNat < 128 := by
  intro j b h
  have hm : b ∈ ([47, 0] : List UInt8) := List.mem_of_getElem? h
  simp at hm
  rcases hm with rfl | rfl <;> decide
theorem iany_any (s : ByteArray) (w : World) (hs : s.size ≤ 400) :
    Calls Tryz.prog 95 #[.string s, .string ⟨#[47, 0]⟩] w fun e w' => e = .returned (.int .i64 (Lib.indexAny (str s) [47, 0])) ∧ Off [] w w' := by
  by_cases h8 : s.size ≤ 8
  · exact iany_short s w h8
  · refine (Tryz.strings_IndexAny_long (zero_of_info (P := Tryz.prog) (t := 123) (n := 256) (by kernel_rfl)).1 s ⟨#[47, 0]⟩ w (by decide) (by omega) (by omega) (by decide) asc2).mono fun e w' ⟨a, b⟩ => ⟨a, ?_⟩
    rw [b]
    exact ((Off.refl _ _).alloc _).alloc _
theorem indexAny_sep : ∀ l : Str, decide (0 ≤ Lib.indexAny l [47, 0]) = !noSep l
  | [] => by simp [Lib.indexAny, noSep]
  | b :: l => by
    have ih := indexAny_sep l
    have hge := Lib.indexAny_ge [47, 0] l
    unfold Lib.indexAny
    by_cases hc : ([47, 0] : List UInt8).contains b = true
    · rw [if_pos hc]
      simp at hc
      rcases hc with rfl | rfl <;> simp [noSep]
    · rw [if_neg hc]
      simp at hc
      have e : noSep (b :: l) = noSep l := by simp [noSep, hc.1, hc.2]
      rw [e, ← ih]
      by_cases h1 : Lib.indexAny l [47, 0] = -1
      · simp [h1]
      · have : ¬ ((Lib.indexAny l [47, 0] == -1) = true) := by simp [h1]
        rw [if_neg this]
        simp only [decide_eq_decide]
        omega
set_option maxRecDepth 100000 in
theorem contAny_any (s : ByteArray) (w : World) (hs : s.size ≤ 400) :
    Calls Tryz.prog 76 #[.string s, .string ⟨#[47, 0]⟩] w fun e w' => e = .returned (.bool (!noSep (str s))) ∧ Off [] w w' := by
  have h := Lib.hid (indexAny_sep (str s))
  go_enter Tryz.func76, Tryz.ntmps76
  go_wp2_with fail
  refine (iany_any s _ hs).mono ?_
  rintro e w' ⟨rfl, ho⟩
  go_wp2_with fail
  go_ret
  exact ⟨by rw [← h.out]; rfl, ho⟩

/-- the tables of unicode/utf8 -/
def Tabs (w : World) : Prop := Lib.Utf8Tabs 1 2 w
theorem Tabs.off {w w' : World} (h : Tabs w) (ho : Off [] w w') : Tabs w' :=
  ⟨fun c hc => (ho.cell (World.block_lt_of_cell? _ _ (h.1 c hc)) (by simp)).trans (h.1 c hc),
    fun i hi => ⟨(ho.cell (World.block_lt_of_cell? _ _ (h.2 i hi).1) (by simp)).trans (h.2 i hi).1, (ho.cell (World.block_lt_of_cell? _ _ (h.2 i hi).2) (by simp)).trans (h.2 i hi).2⟩⟩
theorem valid_any (s : ByteArray) (w : World) (hs : s.size ≤ maxLen) (hT : Tabs w) :
    Calls Tryz.prog 75 #[.string s] w fun e w' => e = .returned (.bool (Lib.validD (str s))) ∧ Off [] w w' :=
  (Tryz.utf8_ValidString s w (by unfold maxLen at hs; omega) hT).mono fun _ _ ⟨a, b⟩ => ⟨a, Off.of_below b⟩

theorem okName_eq (s : ByteArray) : okName (str s) = (decide (¬ s.toList = []) && decide (s.size ≤ 64) && decide (¬ s.toList = [46]) && decide (¬ s.toList = [46, 46]) && Lib.validD (str s) && noSep (str s)) := by
  rw [toList_str]; simp [okName, str_size]
set_option maxRecDepth 100000 in
theorem name_any (s : ByteArray) (w : World) (hs : s.size ≤ maxLen) (hT : Tabs w) :
    Calls Tryz.prog 50 #[.string s] w fun e w' => e = .returned (.bool (okName (str s))) ∧ Off [] w w' := by
  have hk := Lib.hid (okName_eq s)
  by_cases h1 : s.toList = []
  · go_enter Tryz.func50, Tryz.ntmps50
    go_wp2_with fail
    go_ret
    exact ⟨by rw [hk.out]; simp [h1], Off.refl _ _⟩
  by_cases h2 : s.size ≤ 64
  · by_cases h3 : s.toList = [46]
    · go_enter Tryz.func50, Tryz.ntmps50
      go_wp2_with fail
      go_ret
      exact ⟨by rw [hk.out]; simp [h3], Off.refl _ _⟩
    by_cases h4 : s.toList = [46, 46]
    · go_enter Tryz.func50, Tryz.ntmps50
      go_wp2_with fail
      go_ret
      exact ⟨by rw [hk.out]; simp [h4], Off.refl _ _⟩
    have g1 : s.toList.isEmpty = false := by simpa using h1
    have g2 : (s.toList == [46]) = false := by simpa using h3
    have g3 : (s.toList == [46, 46]) = false := by simpa using h4
    cases hv : Lib.validD (str s)
    · have HV := Lib.hid hv
      clear hv
      go_enter Tryz.func50, Tryz.ntmps50
      go_wp2_with fail
      refine (valid_any s _ hs hT).mono ?_
      rintro e w1 ⟨rfl, ho⟩
      rw [HV.out]
      go_wp2_with fail
      go_ret
      exact ⟨by rw [hk.out]; simp [HV.out], ho⟩
    · have HV := Lib.hid hv
      clear hv
      go_enter Tryz.func50, Tryz.ntmps50
      go_wp2_with fail
      refine (valid_any s _ hs hT).mono ?_
      rintro e w1 ⟨rfl, ho⟩
      rw [HV.out]
      go_wp2_with fail
      refine (contAny_any s _ (by omega)).mono ?_
      rintro e w2 ⟨rfl, ho2⟩
      go_wp2_with fail
      go_ret
      exact ⟨by rw [hk.out]; simp [HV.out, h1, h2, h3, h4], ho.trans_nil ho2⟩
  · go_enter Tryz.func50, Tryz.ntmps50
    go_wp2_with fail
    go_ret
    exact ⟨by rw [hk.out]; simp [h2], Off.refl _ _⟩
end Go.Proofs.YtpaeihdkggbeoaaGreatDoor
