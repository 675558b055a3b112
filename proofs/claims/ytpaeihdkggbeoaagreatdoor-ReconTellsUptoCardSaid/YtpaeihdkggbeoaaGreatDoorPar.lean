/- name.Parent and name.Base: the walks. Conditions: the tables of unicode/utf8 are laid; no string is longer than Go's strings can be. -/
import Derived.Test.YtpaeihdkggbeoaaGreatDoorOrd
import Derived.Lib.LastIndexByte
namespace Go.Proofs.YtpaeihdkggbeoaaGreatDoor
open Go.RowKit Go.Op

/-- a list of bytes as a string -/
def bs (l : Str) : ByteArray := ⟨l.toArray⟩
theorem str_bs (l : Str) : str (bs l) = l := by simp [str, bs]
theorem bs_str (b : ByteArray) : bs (str b) = b := str_inj (str_bs _)
theorem bs_size (l : Str) : (bs l).size = l.length := by rw [← str_size, str_bs]

theorem last_cases (s : ByteArray) : (Lib.lastIndexByte s 47 = -1 ∧ 47 ∉ str s) ∨ ∃ i : Nat, Lib.lastIndexByte s 47 = i ∧ i < s.size ∧ str s = (str s).take i ++ 47 :: (str s).drop (i + 1) ∧ 47 ∉ (str s).drop (i + 1) := by
  have hg : ∀ (j : Nat) (hj : j < (str s).length), s.data[j]! = (str s)[j] := fun j hj => by
    have : j < s.data.size := by rw [str_size] at hj; exact hj
    rw [getElem!_pos s.data j this]; simp [str]
  have hc : ∀ (j : Nat) (hj : j < (str s).length), ((s.data[j]!).toNat : Int) ≠ 47 → (str s)[j] ≠ 47 := fun j hj h e => h (by rw [hg j hj, e]; rfl)
  rcases Lib.lastIndexByte_spec s 47 with ⟨h, hn⟩ | ⟨i, hi, h, he, hn⟩
  · refine .inl ⟨h, fun hm => ?_⟩
    obtain ⟨j, hj, e⟩ := List.getElem_of_mem hm
    exact hc j hj (hn j (by rw [← str_size]; exact hj)) e
  · have hil : i < (str s).length := by rw [str_size]; exact hi
    refine .inr ⟨i, h, hi, ?_, fun hm => ?_⟩
    · have e1 : (str s)[i] = 47 := by
        rw [hg i hil] at he
        apply UInt8.toNat_inj.1
        have : ((47 : UInt8).toNat : Int) = 47 := rfl
        omega
      have := List.take_append_drop i (str s)
      rw [List.drop_eq_getElem_cons hil, e1] at this
      exact this.symm
    · obtain ⟨j, hj, e⟩ := List.getElem_of_mem hm
      rw [List.getElem_drop] at e
      rw [List.length_drop] at hj
      exact hc (i + 1 + j) (by omega) (hn (i + 1 + j) (by omega) (by rw [← str_size]; omega)) e
theorem parts_last {s : Str} {i : Nat} (h1 : s = s.take i ++ 47 :: s.drop (i + 1)) (h2 : 47 ∉ s.drop (i + 1)) : parts s = parts (s.take i) ++ [s.drop (i + 1)] := by
  have := parts_append (s.drop (i + 1)) (s.take i)
  rw [← h1, parts_clean _ h2] at this
  exact this
theorem getLast_eq {l : List Str} (h : l ≠ []) (x : List Str) (y : Str) (e : l = x ++ [y]) : l.getLast h = y := by subst e; simp

theorem lastIdx_any (s : ByteArray) (w : World) (hs : s.size ≤ 1000000) : Calls Tryz.prog 70 #[.string s, .int .u8 47] w fun e w' => e = .returned (.int .i64 (Lib.lastIndexByte s 47)) ∧ w = w' :=
  (Tryz.strings_LastIndexByte s 47 (by omega) w).mono fun _ _ ⟨a, b⟩ => ⟨a, b.symm⟩
set_option maxRecDepth 100000 in
theorem parent_any (s : ByteArray) (w : World) (hs : s.size ≤ 1000000) (hT : Tabs w) :
    Calls Tryz.prog 47 #[.string s] w fun e w' => e = .returned (.string (bs (parent (str s)))) ∧ Off [] w w' := by
  rcases last_cases s with ⟨h, hn⟩ | ⟨i, h, hi, hc, hn⟩
  · have e1 : bs (parent (str s)) = ⟨#[]⟩ := by
      unfold parent; rw [parts_clean _ hn]; split <;> rfl
    have H := Lib.hid h
    have E := Lib.hid e1
    clear h e1
    go_enter Tryz.func47, Tryz.ntmps47
    go_wp2_with fail
    refine (lastIdx_any s _ hs).mono ?_
    rintro e w1 ⟨rfl, e1⟩
    subst e1
    rw [H.out]
    go_wp2_with fail
    go_ret
    exact ⟨by rw [E.out]; rfl, Off.refl _ _⟩
  · have H := Lib.hid h
    have HC := Lib.hid hc
    clear h hc
    have c1 : (0 : Int) ≤ ↑i := by omega
    have c2 : (↑i : Int) ≤ ↑s.size := by omega
    cases hk : okPath (str s)
    · have e1 : bs (parent (str s)) = ⟨#[]⟩ := by unfold parent; rw [hk]; rfl
      have HK := Lib.hid hk
      have E := Lib.hid e1
      clear hk e1
      go_enter Tryz.func47, Tryz.ntmps47
      go_wp2_with fail
      refine (lastIdx_any s _ (by omega)).mono ?_
      rintro e w1 ⟨rfl, e1⟩
      subst e1
      rw [H.out]
      go_wp2_with fail
      refine (path_any s _ hT).mono ?_
      rintro e w2 ⟨rfl, ho⟩
      rw [HK.out]
      go_wp2_with fail
      go_ret
      exact ⟨by rw [E.out]; rfl, ho⟩
    · have e1 : bs (parent (str s)) = s.extract 0 i := by
        apply str_inj
        unfold parent; rw [hk, str_bs, if_pos rfl, parts_last HC.out hn, List.dropLast_concat, joinP_parts, str_extract]; simp
      have HK := Lib.hid hk
      have E := Lib.hid e1
      clear hk e1
      go_enter Tryz.func47, Tryz.ntmps47
      go_wp2_with fail
      refine (lastIdx_any s _ (by omega)).mono ?_
      rintro e w1 ⟨rfl, e1⟩
      subst e1
      rw [H.out]
      go_wp2_with fail
      refine (path_any s _ hT).mono ?_
      rintro e w2 ⟨rfl, ho⟩
      rw [HK.out]
      go_wp2_with fail
      go_ret
      exact ⟨by rw [E.out]; rfl, ho⟩
set_option maxRecDepth 100000 in
theorem base_any (s : ByteArray) (w : World) (hs : s.size ≤ 1000000) (hT : Tabs w) :
    Calls Tryz.prog 96 #[.string s] w fun e w' => e = .returned (.string (bs (base (str s)))) ∧ Off [] w w' := by
  cases hk : okPath (str s)
  · have e1 : bs (base (str s)) = ⟨#[]⟩ := by unfold base; rw [hk]; rfl
    have HK := Lib.hid hk
    have E := Lib.hid e1
    clear hk e1
    go_enter Tryz.func96, Tryz.ntmps96
    go_wp2_with fail
    refine (path_any s _ hT).mono ?_
    rintro e w2 ⟨rfl, ho⟩
    rw [HK.out]
    go_wp2_with fail
    go_ret
    exact ⟨by rw [E.out]; rfl, ho⟩
  · rcases last_cases s with ⟨h, hn⟩ | ⟨i, h, hi, hc, hn⟩
    · have e1 : bs (base (str s)) = s := by
        apply str_inj
        unfold base; rw [str_bs, if_pos hk]
        exact getLast_eq _ [] _ (by rw [parts_clean _ hn]; rfl)
      have HK := Lib.hid hk
      have E := Lib.hid e1
      have H := Lib.hid h
      clear hk e1 h
      have c1 : (0 : Int) ≤ -1 + 1 := by omega
      go_enter Tryz.func96, Tryz.ntmps96
      go_wp2_with fail
      refine (path_any s _ hT).mono ?_
      rintro e w2 ⟨rfl, ho⟩
      rw [HK.out]
      go_wp2_with fail
      refine (lastIdx_any s _ (by omega)).mono ?_
      rintro e w1 ⟨rfl, e1⟩
      subst e1
      rw [H.out]
      go_wp2_with fail
      go_ret
      exact ⟨by rw [E.out]; simp, ho⟩
    · have e1 : bs (base (str s)) = s.extract (i + 1) s.size := by
        apply str_inj
        unfold base; rw [str_bs, if_pos hk, str_extract, List.take_of_length_le (by simp [str_size])]
        exact getLast_eq _ _ _ (parts_last hc hn)
      have HK := Lib.hid hk
      have E := Lib.hid e1
      have H := Lib.hid h
      have HC := Lib.hid hc
      clear hk e1 h hc
      have c3 : (0 : Int) ≤ ↑i + 1 := by omega
      have c4 : (↑i + 1 : Int) ≤ ↑s.size := by omega
      go_enter Tryz.func96, Tryz.ntmps96
      go_wp2_with fail
      refine (path_any s _ hT).mono ?_
      rintro e w2 ⟨rfl, ho⟩
      rw [HK.out]
      go_wp2_with fail
      refine (lastIdx_any s _ (by omega)).mono ?_
      rintro e w1 ⟨rfl, e1⟩
      subst e1
      rw [H.out]
      go_wp2_with fail
      go_ret
      exact ⟨by rw [E.out]; rfl, ho⟩
end Go.Proofs.YtpaeihdkggbeoaaGreatDoor
