/- hawserref01: Name, Parts, Path: the walks. Conditions: no string is longer than 1048576 bytes. -/
import Derived.Test.YtpaeihdkggbeoaaGreatDoorRune
import Derived.Test.YtpaeihdkggbeoaaGreatDoorNames
namespace Go.Proofs.YtpaeihdkggbeoaaGreatDoor
open Go.RowKit Go.Op

set_option maxRecDepth 100000 in
set_option maxHeartbeats 4000000 in
theorem rname_any (s : ByteArray) (w : World) (hs : s.size ≤ 1048576) :
    Calls Tryz.prog 44 #[.string s] w fun e w' => e = .returned (.bool (okName (str s))) ∧ w = w' := by
  have hk := Lib.hid (okName_eq s)
  have hz : s.toList = [] ↔ s.size = 0 := by rw [toList_str, ← str_size]; simp
  by_cases h1 : s.size = 0
  · have h1' := hz.2 h1
    clear hz
    go_enter Tryz.func44, Tryz.ntmps44
    go_wp2_with fail
    go_ret
    exact ⟨by rw [hk.out]; simp [h1'], rfl⟩
  have h1' : ¬ s.toList = [] := fun e => h1 (hz.1 e)
  have HZ := Lib.hid h1'
  clear hz h1'
  by_cases h2 : s.size ≤ 64
  · by_cases h3 : s.toList = [46]
    · have g : (s.toList == [46]) = true := by simp [h3]
      go_enter Tryz.func44, Tryz.ntmps44
      go_wp2_with fail
      go_ret
      exact ⟨by rw [hk.out]; simp [h3], rfl⟩
    have g3 : (s.toList == [46]) = false := by simpa using h3
    by_cases h4 : s.toList = [46, 46]
    · have g : (s.toList == [46, 46]) = true := by simp [h4]
      go_enter Tryz.func44, Tryz.ntmps44
      go_wp2_with fail
      go_ret
      exact ⟨by rw [hk.out]; simp [h4], rfl⟩
    have g4 : (s.toList == [46, 46]) = false := by simpa using h4
    cases hv : Lib.validD (str s)
    · have HV := Lib.hid hv
      clear hv
      go_enter Tryz.func44, Tryz.ntmps44
      go_wp2_with fail
      refine (rvalid_any s _ hs).mono ?_
      rintro e w1 ⟨rfl, e1⟩
      subst e1
      rw [HV.out]
      go_wp2_with fail
      go_ret
      exact ⟨by rw [hk.out]; simp [HV.out], rfl⟩
    · have HV := Lib.hid hv
      have HK := Lib.hid (show okName (str s) = noSep (str s) by rw [hk.out]; simp [HV.out, HZ.out, h2, h3, h4])
      clear hv hk h3 h4
      go_enter Tryz.func44, Tryz.ntmps44
      go_wp2_with fail
      refine (rvalid_any s _ hs).mono ?_
      rintro e w1 ⟨rfl, e1⟩
      subst e1
      rw [HV.out]
      go_wp2_with fail
      go_loopw [3] (fun x wr => ∃ i : Nat, x = .int .i64 i ∧ i ≤ s.size ∧ wr = w ∧ Hid (noSep (str s) = noSep ((str s).drop i))) (fun x _ => s.size - (intOf x).toNat)
      case atStart => exact ⟨0, rfl, by omega, rfl, Lib.hid rfl⟩
      case round =>
        obtain ⟨i, rfl, hi, rfl, hn⟩ := hrel
        by_cases hlt : i < s.size
        · obtain ⟨x, hx⟩ : ∃ x : UInt8, s[i]'hlt = x := ⟨_, rfl⟩
          have hxl : (str s)[i]? = some x := by rw [← hx]; exact Lib.data_getElem? s i hlt
          have hdr : (str s).drop i = x :: (str s).drop (i + 1) := by
            obtain ⟨h5, h6⟩ := List.getElem?_eq_some_iff.1 hxl
            rw [List.drop_eq_getElem_cons h5, h6]
          have HDR := Lib.hid hdr
          clear hxl hdr
          by_cases hx0 : x.toNat = 0
          · have f1 : ((x.toNat : Int) == 0) = true := by simp [hx0]
            have HX := Lib.hid (show x = 0 from UInt8.toNat_inj.1 hx0)
            clear hx0
            go_wp2_with fail
            go_ret
            exact ⟨by rw [HK.out, hn.out, HDR.out, HX.out]; simp [noSep], rfl⟩
          · have f1 : ((x.toNat : Int) == 0) = false := by simp [hx0]
            by_cases hx7 : x.toNat = 47
            · have f2 : ((x.toNat : Int) == 47) = true := by simp [hx7]
              have HX := Lib.hid (show x = 47 from UInt8.toNat_inj.1 hx7)
              clear hx0 hx7
              go_wp2_with fail
              go_ret
              exact ⟨by rw [HK.out, hn.out, HDR.out, HX.out]; simp [noSep], rfl⟩
            · have f2 : ((x.toNat : Int) == 47) = false := by simp; omega
              have HX := Lib.hid (And.intro (show ¬ x = 0 from fun e => hx0 (by rw [e]; rfl)) (show ¬ x = 47 from fun e => hx7 (by rw [e]; rfl)))
              clear hx0 hx7
              go_wp2_with fail
              refine ⟨⟨i + 1, by congr 1, by omega, by trivial, Lib.hid ?_⟩, by simp only [intOf]; omega⟩
              rw [hn.out, HDR.out]
              simp [noSep, HX.out.1, HX.out.2]
        · obtain rfl : i = s.size := by omega
          go_wp2_with fail
          go_ret
          have : (str s).drop s.size = [] := List.drop_eq_nil_of_le (by rw [str_size]; exact Nat.le_refl _)
          exact ⟨by rw [HK.out, hn.out, this]; rfl, rfl⟩
  · go_enter Tryz.func44, Tryz.ntmps44
    go_wp2_with fail
    go_ret
    exact ⟨by rw [hk.out]; simp [h2], rfl⟩
end Go.Proofs.YtpaeihdkggbeoaaGreatDoor
