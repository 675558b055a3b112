/- Walks of the library's small string functions: Compare, Cut at a slash. Conditions: none beyond what each contract states. -/
import Derived.Test.YtpaeihdkggbeoaaGreatDoorMem
import Derived.Test.YtpaeihdkggbeoaaGreatDoorPath
import Derived.Test.YtpaeihdkggbeoaaGreatDoorShelf
import Derived.Lib.IndexLaws
import Derived.Lib.Strings
import Derived.BigRegion
import Derived.IntWalk
import Derived.Laws.Cover1
namespace Go.Proofs.YtpaeihdkggbeoaaGreatDoor
open Go.RowKit Go.Op

def str (b : ByteArray) : Str := b.data.toList
theorem str_size (b : ByteArray) : (str b).length = b.size := Array.length_toList
theorem str_inj {a b : ByteArray} (h : str a = str b) : a = b := by
  cases a; cases b; unfold str at h; congr 1; exact Array.toList_inj.1 h
theorem str_append (a b : ByteArray) : str (a ++ b) = str a ++ str b := by unfold str; rw [ByteArray.data_append, Array.toList_append]
theorem str_extract (b : ByteArray) (i j : Nat) : str (b.extract i j) = ((str b).drop i).take (j - i) := by
  unfold str; rw [ByteArray.data_extract, Array.toList_extract, List.extract_eq_take_drop]
theorem toList_str (b : ByteArray) : b.toList = str b := ByteArray.toList_eq b
theorem less_cmp : ∀ a b : Str, bytesLess a b = decide (Lib.compareBytes a b < 0)
  | [], [] => by simp [bytesLess, Lib.compareBytes]
  | [], _ :: _ => by simp [bytesLess, Lib.compareBytes]
  | _ :: _, [] => by simp [bytesLess, Lib.compareBytes]
  | x :: a, y :: b => by
    unfold bytesLess Lib.compareBytes
    by_cases h1 : x < y
    · simp [h1]
    · by_cases h2 : y < x
      · have : x ≠ y := fun e => UInt8.lt_irrefl _ (e ▸ h2)
        simp [h1, h2, this]
      · have : x = y := UInt8.le_antisymm (UInt8.not_lt.1 h2) (UInt8.not_lt.1 h1)
        subst this
        simp [h1, less_cmp a b]

set_option maxRecDepth 100000 in
theorem cmp_any (a b : ByteArray) (w : World) : Calls Tryz.prog 55 #[.string a, .string b] w fun e w' => e = .returned (.int .i64 (Lib.compareBytes (str a) (str b))) ∧ w = w' := by
  have hl : bytesLess a.toList b.toList = decide (Lib.compareBytes (str a) (str b) < 0) := by rw [toList_str, toList_str]; exact less_cmp _ _
  have he : (a.toList == b.toList) = decide (Lib.compareBytes (str a) (str b) = 0) := by
    rw [toList_str, toList_str]
    by_cases h : Lib.compareBytes (str a) (str b) = 0
    · rw [cmpB_eq h]; simp [cmpB_self]
    · have : str a ≠ str b := fun e => h (by rw [e]; exact cmpB_self _)
      simp [h, this]
  have hr := cmpB_range (str a) (str b)
  generalize Lib.compareBytes (str a) (str b) = c at *
  have hc1 := Lib.hid hl
  have hc2 := Lib.hid he
  clear hl he
  rcases hr with rfl | rfl | rfl
  · have h1 : bytesLess a.toList b.toList = true := by rw [hc1.out]; decide
    clear hc1 hc2
    go_enter Tryz.func55, Tryz.ntmps55
    go_wp2
    go_ret
    exact ⟨rfl, rfl⟩
  · have h1 : bytesLess a.toList b.toList = false := by rw [hc1.out]; decide
    have h2 : (a.toList == b.toList) = true := by rw [hc2.out]; decide
    clear hc1 hc2
    go_enter Tryz.func55, Tryz.ntmps55
    go_wp2

    go_ret
    exact ⟨rfl, rfl⟩
  · have h1 : bytesLess a.toList b.toList = false := by rw [hc1.out]; decide
    have h2 : (a.toList == b.toList) = false := by rw [hc2.out]; decide
    clear hc1 hc2
    go_enter Tryz.func55, Tryz.ntmps55
    go_wp2
    go_ret
    exact ⟨rfl, rfl⟩

/-- where the first slash stands -/
theorem slash_cases (b : ByteArray) : (Lib.indexByte (str b) 47 = -1 ∧ 47 ∉ str b) ∨ ∃ i : Nat, Lib.indexByte (str b) 47 = i ∧ i < b.size ∧ 47 ∉ (str b).take i ∧ str b = (str b).take i ++ 47 :: (str b).drop (i + 1) := by
  have hge := Lib.indexByte_ge (str b) 47
  by_cases h : Lib.indexByte (str b) 47 = -1
  · refine .inl ⟨h, fun hm => ?_⟩
    obtain ⟨k, hk, e⟩ := List.getElem_of_mem hm
    exact Lib.indexByte_none h k (by rw [List.getElem?_eq_getElem hk, e])
  · refine .inr ⟨(Lib.indexByte (str b) 47).toNat, by omega, ?_⟩
    obtain ⟨h1, h2⟩ := Lib.indexByte_some (l := str b) (c := 47) (o := (Lib.indexByte (str b) 47).toNat) (by omega)
    generalize (Lib.indexByte (str b) 47).toNat = i at *
    obtain ⟨hi, e⟩ := List.getElem?_eq_some_iff.1 h1
    refine ⟨by rw [← str_size]; exact hi, fun hm => ?_, ?_⟩
    · obtain ⟨k, hk, e⟩ := List.getElem_of_mem hm
      rw [List.length_take] at hk
      rw [List.getElem_take] at e
      exact h2 k (by omega) (by rw [List.getElem?_eq_getElem (by omega), e])
    · have := List.take_append_drop i (str b)
      rw [List.drop_eq_getElem_cons hi, e] at this
      exact this.symm

theorem lindex_any (s : ByteArray) (w : World) : Calls Tryz.prog 91 #[.string s, .string ⟨#[47]⟩] w fun e w' => e = .returned (.int .i64 (Lib.indexByte (str s) 47)) ∧ w = w' :=
  (Tryz.stringslite_Index_one s 47 w).mono fun _ _ ⟨a, b⟩ => ⟨a, b.symm⟩
theorem index_any (s : ByteArray) (w : World) : Calls Tryz.prog 73 #[.string s, .string ⟨#[47]⟩] w fun e w' => e = .returned (.int .i64 (Lib.indexByte (str s) 47)) ∧ w = w' :=
  (Tryz.strings_Index_one s 47 w).mono fun _ _ ⟨a, b⟩ => ⟨a, b.symm⟩
def slash : ByteArray := ⟨#[47]⟩
set_option maxRecDepth 100000 in
theorem lcut_none (s : ByteArray) (w : World) (h : Lib.indexByte (str s) 47 = -1) :
    Calls Tryz.prog 81 #[.string s, .string ⟨#[47]⟩] w fun e w' => e = .returned (.tuple #[.string s, .string ⟨#[]⟩, .bool false]) ∧ w = w' := by
  have H := Lib.hid h
  clear h
  go_enter Tryz.func81, Tryz.ntmps81
  go_wp2_with fail
  refine (lindex_any s w).mono ?_
  rintro e w' ⟨rfl, e1⟩
  subst e1
  rw [H.out]
  go_wp2_with fail
  go_ret3
  exact ⟨rfl, rfl⟩
set_option maxRecDepth 100000 in
theorem lcut_some (s : ByteArray) (i : Nat) (w : World) (h : Lib.indexByte (str s) 47 = i) (hi : i < s.size) (hs : s.size ≤ maxLen) :
    Calls Tryz.prog 81 #[.string s, .string ⟨#[47]⟩] w fun e w' => e = .returned (.tuple #[.string (s.extract 0 i), .string (s.extract (i + 1) s.size), .bool true]) ∧ ∃ n, w' = w.drewN n := by
  have H := Lib.hid h
  clear h
  unfold maxLen at hs
  have c1 : (0 : Int) ≤ ↑i := by omega
  have c2 : (↑i : Int) ≤ ↑s.size := by omega
  have c3 : (0 : Int) ≤ ↑i + 1 := by omega
  have c4 : (↑i + 1 : Int) ≤ ↑s.size := by omega
  go_enter Tryz.func81, Tryz.ntmps81
  go_wp2_with fail
  refine (lindex_any s w).mono ?_
  rintro e w' ⟨rfl, e1⟩
  subst e1
  rw [H.out]
  go_wp2_with fail
  go_region
  go_wp2
  go_ret3
  exact ⟨rfl, 1, rfl⟩
set_option maxRecDepth 100000 in
theorem cut_none (s : ByteArray) (w : World) (h : Lib.indexByte (str s) 47 = -1) :
    Calls Tryz.prog 54 #[.string s, .string ⟨#[47]⟩] w fun e w' => e = .returned (.tuple #[.string s, .string ⟨#[]⟩, .bool false]) ∧ w = w' := by
  have H := Lib.hid h
  clear h
  go_enter Tryz.func54, Tryz.ntmps54
  go_wp2_with fail
  refine (lcut_none s w H.out).mono ?_
  rintro e w' ⟨rfl, e1⟩
  subst e1
  go_wp2_with fail
  go_ret3
  exact ⟨rfl, rfl⟩
set_option maxRecDepth 100000 in
theorem cut_some (s : ByteArray) (i : Nat) (w : World) (h : Lib.indexByte (str s) 47 = i) (hi : i < s.size) (hs : s.size ≤ maxLen) :
    Calls Tryz.prog 54 #[.string s, .string ⟨#[47]⟩] w fun e w' => e = .returned (.tuple #[.string (s.extract 0 i), .string (s.extract (i + 1) s.size), .bool true]) ∧ ∃ n, w' = w.drewN n := by
  have H := Lib.hid h
  clear h
  go_enter Tryz.func54, Tryz.ntmps54
  go_wp2_with fail
  refine (lcut_some s i w H.out hi hs).mono ?_
  rintro e w' ⟨rfl, n, rfl⟩
  go_wp2_with fail
  go_ret3
  exact ⟨rfl, n, rfl⟩
end Go.Proofs.YtpaeihdkggbeoaaGreatDoor
