/- hawserref01.rune_ and Valid: the walks; Valid is the library's ValidString. Conditions: what each contract states. -/
import Derived.Test.YtpaeihdkggbeoaaGreatDoorName
import Derived.Lib.ValidLaws
namespace Go.Proofs.YtpaeihdkggbeoaaGreatDoor
open Go.RowKit Go.Op

/-- how many bytes the rune has that these bytes begin; 0: none -/
def runeW (n b0 b1 b2 b3 : Nat) : Nat := if (Lib.decodeN n b0 b1 b2 b3).1 = 65533 ∧ (Lib.decodeN n b0 b1 b2 b3).2 = 1 then 0 else (Lib.decodeN n b0 b1 b2 b3).2
theorem runeW_asc {n b0 b1 b2 b3 : Nat} (h : b0 < 128) : runeW n b0 b1 b2 b3 = 1 := by
  unfold runeW Lib.decodeN
  rw [if_pos h]
  dsimp only
  rw [if_neg (by omega)]
theorem runeW_bad {n b0 b1 b2 b3 : Nat} (h : 128 ≤ b0) (h2 : b0 < 194 ∨ 244 < b0) (hb : b0 < 256) : runeW n b0 b1 b2 b3 = 0 := by
  unfold runeW Lib.decodeN
  repeat' split
  all_goals first | rfl | (exfalso; omega) | (dsimp only at *; omega)
theorem runeW_two {n b0 b1 b2 b3 : Nat} (h : 194 ≤ b0) (h2 : b0 ≤ 223) (hb1 : b1 < 256) : runeW n b0 b1 b2 b3 = if 2 ≤ n ∧ 128 ≤ b1 ∧ b1 ≤ 191 then 2 else 0 := by
  unfold runeW Lib.decodeN
  repeat' split
  all_goals first | rfl | (exfalso; omega) | (dsimp only at *; omega)
theorem runeW_three {n b0 b1 b2 b3 : Nat} (h : 224 ≤ b0) (h2 : b0 ≤ 239) (hb1 : b1 < 256) (hb2 : b2 < 256) : runeW n b0 b1 b2 b3 =
    if 3 ≤ n ∧ 128 ≤ b1 ∧ b1 ≤ 191 ∧ 128 ≤ b2 ∧ b2 ≤ 191 ∧ 2048 ≤ (b0 - 224) * 4096 + (b1 - 128) * 64 + (b2 - 128) ∧ ¬ (55296 ≤ (b0 - 224) * 4096 + (b1 - 128) * 64 + (b2 - 128) ∧ (b0 - 224) * 4096 + (b1 - 128) * 64 + (b2 - 128) ≤ 57343) then 3 else 0 := by
  unfold runeW Lib.decodeN
  repeat' split
  all_goals first | rfl | (exfalso; omega) | (dsimp only at *; omega)
theorem runeW_four {n b0 b1 b2 b3 : Nat} (h : 240 ≤ b0) (h2 : b0 ≤ 244) (hb1 : b1 < 256) (hb2 : b2 < 256) (hb3 : b3 < 256) : runeW n b0 b1 b2 b3 =
    if 4 ≤ n ∧ 128 ≤ b1 ∧ b1 ≤ 191 ∧ 128 ≤ b2 ∧ b2 ≤ 191 ∧ 128 ≤ b3 ∧ b3 ≤ 191 ∧ 65536 ≤ (b0 - 240) * 262144 + (b1 - 128) * 4096 + (b2 - 128) * 64 + (b3 - 128) ∧ (b0 - 240) * 262144 + (b1 - 128) * 4096 + (b2 - 128) * 64 + (b3 - 128) ≤ 1114111 then 4 else 0 := by
  unfold runeW Lib.decodeN
  repeat' split
  all_goals first | rfl | (exfalso; omega) | (dsimp only at *; omega)
def byteN (s : ByteArray) (i : Nat) : Nat := ((str s).getD i 0).toNat
theorem byteN_lt (s : ByteArray) (i : Nat) : byteN s i < 256 := UInt8.toNat_lt _
theorem byteN_get (s : ByteArray) (i : Nat) (h : i < s.size) : (s[i]'h).toNat = byteN s i := by
  unfold byteN
  have : (str s)[i]? = some (s[i]'h) := Lib.data_getElem? s i h
  simp [List.getD, this]
def runeAt (s : ByteArray) (i : Nat) : Nat := runeW (s.size - i) (byteN s i) (byteN s (i + 1)) (byteN s (i + 2)) (byteN s (i + 3))

set_option maxRecDepth 100000 in
set_option maxHeartbeats 4000000 in
theorem rune_two (s : ByteArray) (i : Nat) (w : World) (hi : i < s.size) (hs : s.size ≤ 1048576) (h1 : 194 ≤ byteN s i) (h2 : byteN s i ≤ 223) :
    Calls Tryz.prog 89 #[.string s, .int .i64 i] w fun e w' => e = .returned (.int .i64 (runeAt s i)) ∧ w = w' := by
  have hv := Lib.hid (runeW_two (n := s.size - i) (b2 := byteN s (i + 2)) (b3 := byteN s (i + 3)) h1 h2 (byteN_lt s (i + 1)))
  have hb0 := byteN_get s i hi
  by_cases hlen : i + 2 ≤ s.size
  · have hb1 := byteN_get s (i + 1) (by omega)
    have hl1 := byteN_lt s (i + 1)
    have hra : runeAt s i = runeW (s.size - i) (byteN s i) (byteN s (i + 1)) (byteN s (i + 2)) (byteN s (i + 3)) := rfl
    generalize byteN s i = b0 at *
    generalize byteN s (i + 1) = b1 at *
    have HRA := Lib.hid hra
    clear hra
    have hq : decide ((b0 : Int) ≤ 223) = true := decide_eq_true (by omega)
    go_enter Tryz.func89, Tryz.ntmps89
    go_wp2_with fail
    go_loopw [9, 8] (fun x y wr => wr = w ∧ ((x = .int .i64 1 ∧ y = .int .i64 ((b0 : Int) - 192) ∧ True) ∨ (x = .int .i64 2 ∧ y = .int .i64 (((b0 : Int) - 192) * 64 + (b1 : Int) - 128) ∧ 128 ≤ b1 ∧ b1 ≤ 191))) (fun x _ _ => 2 - (intOf x).toNat)
    case atStart => exact ⟨rfl, .inl ⟨rfl, rfl, trivial⟩⟩
    case round =>
      obtain ⟨rfl, hrel⟩ := hrel
      rcases hrel with ⟨rfl, rfl, -⟩ | ⟨rfl, rfl, g1, k1⟩
      · by_cases ha : 128 ≤ b1
        · by_cases hb : b1 ≤ 191
          · go_wp2_with fail
            exact ⟨⟨by trivial, .inr (⟨by first | rfl | trivial, by first | rfl | trivial, ha, hb⟩)⟩, by simp [intOf]⟩
          · go_wp2_with fail
            go_ret
            exact ⟨by rw [HRA.out, hv.out, if_neg (by omega)]; rfl, rfl⟩
        · go_wp2_with fail
          go_ret
          exact ⟨by rw [HRA.out, hv.out, if_neg (by omega)]; rfl, rfl⟩
      · go_wp2_with fail
        go_ret
        exact ⟨by rw [HRA.out, hv.out, if_pos (by omega)]; rfl, rfl⟩
  · have hra : runeAt s i = runeW (s.size - i) (byteN s i) (byteN s (i + 1)) (byteN s (i + 2)) (byteN s (i + 3)) := rfl
    have HRA := Lib.hid hra
    clear hra
    generalize hg : byteN s i = b0 at *
    clear hg
    go_enter Tryz.func89, Tryz.ntmps89
    go_wp2_with fail
    go_ret
    exact ⟨by rw [HRA.out, hv.out, if_neg (by omega)]; rfl, rfl⟩

set_option maxRecDepth 100000 in
set_option maxHeartbeats 4000000 in
theorem rune_three (s : ByteArray) (i : Nat) (w : World) (hi : i < s.size) (hs : s.size ≤ 1048576) (h1 : 224 ≤ byteN s i) (h2 : byteN s i ≤ 239) :
    Calls Tryz.prog 89 #[.string s, .int .i64 i] w fun e w' => e = .returned (.int .i64 (runeAt s i)) ∧ w = w' := by
  have hv := Lib.hid (runeW_three (n := s.size - i) (b3 := byteN s (i + 3)) h1 h2 (byteN_lt s (i + 1)) (byteN_lt s (i + 2)))
  have hb0 := byteN_get s i hi
  by_cases hlen : i + 3 ≤ s.size
  · have hb1 := byteN_get s (i + 1) (by omega)
    have hl1 := byteN_lt s (i + 1)
    have hb2 := byteN_get s (i + 2) (by omega)
    have hl2 := byteN_lt s (i + 2)
    have hra : runeAt s i = runeW (s.size - i) (byteN s i) (byteN s (i + 1)) (byteN s (i + 2)) (byteN s (i + 3)) := rfl
    generalize byteN s i = b0 at *
    generalize byteN s (i + 1) = b1 at *
    generalize byteN s (i + 2) = b2 at *
    have HRA := Lib.hid hra
    clear hra
    have hq : decide ((b0 : Int) ≤ 239) = true := decide_eq_true (by omega)
    go_enter Tryz.func89, Tryz.ntmps89
    go_wp2_with fail
    go_loopw [9, 8] (fun x y wr => wr = w ∧ ((x = .int .i64 1 ∧ y = .int .i64 ((b0 : Int) - 224) ∧ True) ∨ (x = .int .i64 2 ∧ y = .int .i64 (((b0 : Int) - 224) * 64 + (b1 : Int) - 128) ∧ 128 ≤ b1 ∧ b1 ≤ 191) ∨ (x = .int .i64 3 ∧ y = .int .i64 ((((b0 : Int) - 224) * 64 + (b1 : Int) - 128) * 64 + (b2 : Int) - 128) ∧ 128 ≤ b1 ∧ b1 ≤ 191 ∧ 128 ≤ b2 ∧ b2 ≤ 191))) (fun x _ _ => 3 - (intOf x).toNat)
    case atStart => exact ⟨rfl, .inl ⟨rfl, rfl, trivial⟩⟩
    case round =>
      obtain ⟨rfl, hrel⟩ := hrel
      rcases hrel with ⟨rfl, rfl, -⟩ | ⟨rfl, rfl, g1, k1⟩ | ⟨rfl, rfl, g1, k1, g2, k2⟩
      · by_cases ha : 128 ≤ b1
        · by_cases hb : b1 ≤ 191
          · go_wp2_with fail
            exact ⟨⟨by trivial, .inr (.inl ⟨by first | rfl | trivial, by first | rfl | trivial, ha, hb⟩)⟩, by simp [intOf]⟩
          · go_wp2_with fail
            go_ret
            exact ⟨by rw [HRA.out, hv.out, if_neg (by omega)]; rfl, rfl⟩
        · go_wp2_with fail
          go_ret
          exact ⟨by rw [HRA.out, hv.out, if_neg (by omega)]; rfl, rfl⟩
      · by_cases ha : 128 ≤ b2
        · by_cases hb : b2 ≤ 191
          · go_wp2_with fail
            exact ⟨⟨by trivial, .inr (.inr (⟨by first | rfl | trivial, by first | rfl | trivial, g1, k1, ha, hb⟩))⟩, by simp [intOf]⟩
          · go_wp2_with fail
            go_ret
            exact ⟨by rw [HRA.out, hv.out, if_neg (by omega)]; rfl, rfl⟩
        · go_wp2_with fail
          go_ret
          exact ⟨by rw [HRA.out, hv.out, if_neg (by omega)]; rfl, rfl⟩
      · obtain ⟨v, hve⟩ : ∃ v : Int, ((((b0 : Int) - 224) * 64 + (b1 : Int) - 128) * 64 + (b2 : Int) - 128) = v := ⟨_, rfl⟩
        have hv0 : 0 ≤ v := by omega
        have HVE := Lib.hid hve
        have hvn : v = (((b0 - 224) * 4096 + (b1 - 128) * 64 + (b2 - 128) : Nat) : Int) := by omega
        have HVN := Lib.hid hvn
        rw [hve]
        clear hve hvn
        have hvm : v < 1114111 := by have := HVN.out; omega
        by_cases c1 : 2048 ≤ v
        · by_cases c2 : 55296 ≤ v
          · by_cases c3 : v ≤ 57343
            · go_wp2_with fail
              go_ret
              exact ⟨by rw [HRA.out, hv.out, if_neg (by have := HVN.out; omega)]; rfl, rfl⟩
            · go_wp2_with fail
              go_ret
              exact ⟨by rw [HRA.out, hv.out, if_pos (by have := HVN.out; omega)]; rfl, rfl⟩
          · go_wp2_with fail
            go_ret
            exact ⟨by rw [HRA.out, hv.out, if_pos (by have := HVN.out; omega)]; rfl, rfl⟩
        · go_wp2_with fail
          go_ret
          exact ⟨by rw [HRA.out, hv.out, if_neg (by have := HVN.out; omega)]; rfl, rfl⟩
  · have hra : runeAt s i = runeW (s.size - i) (byteN s i) (byteN s (i + 1)) (byteN s (i + 2)) (byteN s (i + 3)) := rfl
    have HRA := Lib.hid hra
    clear hra
    generalize hg : byteN s i = b0 at *
    clear hg
    go_enter Tryz.func89, Tryz.ntmps89
    go_wp2_with fail
    go_ret
    exact ⟨by rw [HRA.out, hv.out, if_neg (by omega)]; rfl, rfl⟩

set_option maxRecDepth 100000 in
set_option maxHeartbeats 4000000 in
theorem rune_four (s : ByteArray) (i : Nat) (w : World) (hi : i < s.size) (hs : s.size ≤ 1048576) (h1 : 240 ≤ byteN s i) (h2 : byteN s i ≤ 244) :
    Calls Tryz.prog 89 #[.string s, .int .i64 i] w fun e w' => e = .returned (.int .i64 (runeAt s i)) ∧ w = w' := by
  have hv := Lib.hid (runeW_four (n := s.size - i) h1 h2 (byteN_lt s (i + 1)) (byteN_lt s (i + 2)) (byteN_lt s (i + 3)))
  have hb0 := byteN_get s i hi
  by_cases hlen : i + 4 ≤ s.size
  · have hb1 := byteN_get s (i + 1) (by omega)
    have hl1 := byteN_lt s (i + 1)
    have hb2 := byteN_get s (i + 2) (by omega)
    have hl2 := byteN_lt s (i + 2)
    have hb3 := byteN_get s (i + 3) (by omega)
    have hl3 := byteN_lt s (i + 3)
    have hra : runeAt s i = runeW (s.size - i) (byteN s i) (byteN s (i + 1)) (byteN s (i + 2)) (byteN s (i + 3)) := rfl
    generalize byteN s i = b0 at *
    generalize byteN s (i + 1) = b1 at *
    generalize byteN s (i + 2) = b2 at *
    generalize byteN s (i + 3) = b3 at *
    have HRA := Lib.hid hra
    clear hra
    have hq : decide ((b0 : Int) ≤ 244) = true := decide_eq_true (by omega)
    go_enter Tryz.func89, Tryz.ntmps89
    go_wp2_with fail
    go_loopw [9, 8] (fun x y wr => wr = w ∧ ((x = .int .i64 1 ∧ y = .int .i64 ((b0 : Int) - 240) ∧ True) ∨ (x = .int .i64 2 ∧ y = .int .i64 (((b0 : Int) - 240) * 64 + (b1 : Int) - 128) ∧ 128 ≤ b1 ∧ b1 ≤ 191) ∨ (x = .int .i64 3 ∧ y = .int .i64 ((((b0 : Int) - 240) * 64 + (b1 : Int) - 128) * 64 + (b2 : Int) - 128) ∧ 128 ≤ b1 ∧ b1 ≤ 191 ∧ 128 ≤ b2 ∧ b2 ≤ 191) ∨ (x = .int .i64 4 ∧ y = .int .i64 (((((b0 : Int) - 240) * 64 + (b1 : Int) - 128) * 64 + (b2 : Int) - 128) * 64 + (b3 : Int) - 128) ∧ 128 ≤ b1 ∧ b1 ≤ 191 ∧ 128 ≤ b2 ∧ b2 ≤ 191 ∧ 128 ≤ b3 ∧ b3 ≤ 191))) (fun x _ _ => 4 - (intOf x).toNat)
    case atStart => exact ⟨rfl, .inl ⟨rfl, rfl, trivial⟩⟩
    case round =>
      obtain ⟨rfl, hrel⟩ := hrel
      rcases hrel with ⟨rfl, rfl, -⟩ | ⟨rfl, rfl, g1, k1⟩ | ⟨rfl, rfl, g1, k1, g2, k2⟩ | ⟨rfl, rfl, g1, k1, g2, k2, g3, k3⟩
      · by_cases ha : 128 ≤ b1
        · by_cases hb : b1 ≤ 191
          · go_wp2_with fail
            exact ⟨⟨by trivial, .inr (.inl ⟨by first | rfl | trivial, by first | rfl | trivial, ha, hb⟩)⟩, by simp [intOf]⟩
          · go_wp2_with fail
            go_ret
            exact ⟨by rw [HRA.out, hv.out, if_neg (by omega)]; rfl, rfl⟩
        · go_wp2_with fail
          go_ret
          exact ⟨by rw [HRA.out, hv.out, if_neg (by omega)]; rfl, rfl⟩
      · by_cases ha : 128 ≤ b2
        · by_cases hb : b2 ≤ 191
          · go_wp2_with fail
            exact ⟨⟨by trivial, .inr (.inr (.inl ⟨by first | rfl | trivial, by first | rfl | trivial, g1, k1, ha, hb⟩))⟩, by simp [intOf]⟩
          · go_wp2_with fail
            go_ret
            exact ⟨by rw [HRA.out, hv.out, if_neg (by omega)]; rfl, rfl⟩
        · go_wp2_with fail
          go_ret
          exact ⟨by rw [HRA.out, hv.out, if_neg (by omega)]; rfl, rfl⟩
      · by_cases ha : 128 ≤ b3
        · by_cases hb : b3 ≤ 191
          · go_wp2_with fail
            exact ⟨⟨by trivial, .inr (.inr (.inr (⟨by first | rfl | trivial, by first | rfl | trivial, g1, k1, g2, k2, ha, hb⟩)))⟩, by simp [intOf]⟩
          · go_wp2_with fail
            go_ret
            exact ⟨by rw [HRA.out, hv.out, if_neg (by omega)]; rfl, rfl⟩
        · go_wp2_with fail
          go_ret
          exact ⟨by rw [HRA.out, hv.out, if_neg (by omega)]; rfl, rfl⟩
      · obtain ⟨v, hve⟩ : ∃ v : Int, (((((b0 : Int) - 240) * 64 + (b1 : Int) - 128) * 64 + (b2 : Int) - 128) * 64 + (b3 : Int) - 128) = v := ⟨_, rfl⟩
        have hv0 : 0 ≤ v := by omega
        have HVE := Lib.hid hve
        have hvn : v = (((b0 - 240) * 262144 + (b1 - 128) * 4096 + (b2 - 128) * 64 + (b3 - 128) : Nat) : Int) := by omega
        have HVN := Lib.hid hvn
        rw [hve]
        clear hve hvn
        by_cases c1 : 65536 ≤ v
        · by_cases c2 : v ≤ 1114111
          · go_wp2_with fail
            go_ret
            exact ⟨by rw [HRA.out, hv.out, if_pos (by have := HVN.out; omega)]; rfl, rfl⟩
          · go_wp2_with fail
            go_ret
            exact ⟨by rw [HRA.out, hv.out, if_neg (by have := HVN.out; omega)]; rfl, rfl⟩
        · go_wp2_with fail
          go_ret
          exact ⟨by rw [HRA.out, hv.out, if_neg (by have := HVN.out; omega)]; rfl, rfl⟩
  · have hra : runeAt s i = runeW (s.size - i) (byteN s i) (byteN s (i + 1)) (byteN s (i + 2)) (byteN s (i + 3)) := rfl
    have HRA := Lib.hid hra
    clear hra
    generalize hg : byteN s i = b0 at *
    clear hg
    go_enter Tryz.func89, Tryz.ntmps89
    go_wp2_with fail
    go_ret
    exact ⟨by rw [HRA.out, hv.out, if_neg (by omega)]; rfl, rfl⟩

set_option maxRecDepth 100000 in
set_option maxHeartbeats 4000000 in
theorem rune_any (s : ByteArray) (i : Nat) (w : World) (hi : i < s.size) (hs : s.size ≤ 1048576) :
    Calls Tryz.prog 89 #[.string s, .int .i64 i] w fun e w' => e = .returned (.int .i64 (runeAt s i)) ∧ w = w' := by
  have hbl := byteN_lt s i
  by_cases a1 : byteN s i < 128
  · have hv := Lib.hid (runeW_asc (n := s.size - i) (b1 := byteN s (i + 1)) (b2 := byteN s (i + 2)) (b3 := byteN s (i + 3)) a1)
    have hb0 := byteN_get s i hi
    have HRA := Lib.hid (show runeAt s i = runeW (s.size - i) (byteN s i) (byteN s (i + 1)) (byteN s (i + 2)) (byteN s (i + 3)) from rfl)
    generalize hg : byteN s i = b0 at *
    clear hg
    go_enter Tryz.func89, Tryz.ntmps89
    go_wp2_with fail
    go_ret
    exact ⟨by rw [HRA.out, hv.out]; rfl, rfl⟩
  by_cases a2 : byteN s i < 194 ∨ 244 < byteN s i
  · have hv := Lib.hid (runeW_bad (n := s.size - i) (b1 := byteN s (i + 1)) (b2 := byteN s (i + 2)) (b3 := byteN s (i + 3)) (by omega) a2 hbl)
    have hb0 := byteN_get s i hi
    have HRA := Lib.hid (show runeAt s i = runeW (s.size - i) (byteN s i) (byteN s (i + 1)) (byteN s (i + 2)) (byteN s (i + 3)) from rfl)
    generalize hg : byteN s i = b0 at *
    clear hg
    rcases a2 with a2 | a2
    all_goals (
      go_enter Tryz.func89, Tryz.ntmps89
      go_wp2_with fail
      go_ret
      exact ⟨by rw [HRA.out, hv.out]; rfl, rfl⟩)
  by_cases a3 : byteN s i ≤ 223
  · exact rune_two s i w hi hs (by omega) a3
  by_cases a4 : byteN s i ≤ 239
  · exact rune_three s i w hi hs (by omega) a4
  · exact rune_four s i w hi hs (by omega) (by omega)
theorem runeAt_decode (s : ByteArray) (i : Nat) (_hi : i < s.size) : runeAt s i = if (Lib.decodeL ((str s).drop i)).1 = 65533 ∧ (Lib.decodeL ((str s).drop i)).2 = 1 then 0 else (Lib.decodeL ((str s).drop i)).2 := by
  have : Lib.decodeL ((str s).drop i) = Lib.decodeN (s.size - i) (byteN s i) (byteN s (i + 1)) (byteN s (i + 2)) (byteN s (i + 3)) := by
    rw [show (str s).drop i = s.data.toList.drop i from rfl, Lib.decodeL_drop, Lib.decode_N]
    rfl
  rw [this]
  rfl
set_option maxRecDepth 100000 in
theorem rvalid_any (s : ByteArray) (w : World) (hs : s.size ≤ 1048576) :
    Calls Tryz.prog 68 #[.string s] w fun e w' => e = .returned (.bool (Lib.validD (str s))) ∧ w = w' := by
  go_enter Tryz.func68, Tryz.ntmps68
  go_wp2_with fail
  go_loopw [3] (fun x wr => ∃ i : Nat, x = .int .i64 i ∧ i ≤ s.size ∧ wr = w ∧ Hid (Lib.validD (str s) = Lib.validD ((str s).drop i))) (fun x _ => s.size - (intOf x).toNat)
  case atStart => exact ⟨0, rfl, by omega, rfl, Lib.hid rfl⟩
  case round =>
    obtain ⟨i, rfl, hi, rfl, hv⟩ := hrel
    by_cases hlt : i < s.size
    · have hne : (str s).drop i ≠ [] := by
        intro e
        have := congrArg List.length e
        simp [str_size] at this
        omega
      have hd := runeAt_decode s i hlt
      have hst := Lib.validD_step _ hne
      have hw1 := Lib.decodeL_le ((str s).drop i) hne
      have hw0 := Lib.decodeL_width ((str s).drop i)
      rw [List.length_drop, str_size] at hw1
      by_cases hb : (Lib.decodeL ((str s).drop i)).1 = 65533 ∧ (Lib.decodeL ((str s).drop i)).2 = 1
      · rw [if_pos hb] at hd hst
        have HD := Lib.hid hd
        have HST := Lib.hid hst
        clear hd hst hb hw0 hw1 hne
        go_wp2_with fail
        refine (rune_any s i _ hlt hs).mono ?_
        rintro e w1 ⟨rfl, e1⟩
        subst e1
        rw [HD.out]
        go_wp2_with fail
        go_ret
        exact ⟨by rw [hv.out, HST.out]; rfl, rfl⟩
      · rw [if_neg hb] at hd hst
        rw [List.drop_drop] at hst
        generalize (Lib.decodeL ((str s).drop i)).2 = d at *
        have HD := Lib.hid hd
        have HST := Lib.hid hst
        have hd0 : ((d : Int) == 0) = false := beq_eq_false_iff_ne.2 (by omega)
        clear hd hst hb hne
        go_wp2_with fail
        refine (rune_any s i _ hlt hs).mono ?_
        rintro e w1 ⟨rfl, e1⟩
        subst e1
        rw [HD.out]
        go_wp2_with fail
        refine ⟨⟨i + d, by congr 1, by omega, by trivial, Lib.hid (hv.out.trans HST.out)⟩, ?_⟩
        simp only [intOf]; omega
    · obtain rfl : i = s.size := by omega
      go_wp2_with fail
      go_ret
      have : (str s).drop s.size = [] := List.drop_eq_nil_of_le (by rw [str_size]; exact Nat.le_refl _)
      exact ⟨by rw [hv.out, this]; rfl, rfl⟩
end Go.Proofs.YtpaeihdkggbeoaaGreatDoor
