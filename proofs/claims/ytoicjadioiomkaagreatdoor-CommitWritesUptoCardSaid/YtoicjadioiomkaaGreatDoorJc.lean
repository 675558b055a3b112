/- Texts of this claim, one behind the other: Rune Ref Ref2 Ref3 Ref4 Ref6a RLaw Ref6b Same DifLaw RDif Concat. Conditions: what each lemma states. -/
import Derived.Test.YtoicjadioiomkaaGreatDoorJa
import Derived.Lib.ValidLaws
import Derived.Test.YtoicjadioiomkaaGreatDoorJb
import Derived.Laws.StructEq
import Derived.Lib.AppendZeros
import Derived.Lib.Walk
import Derived.Laws.AppendOwnNone
import Derived.Deep.Slices
set_option linter.unusedVariables false
set_option linter.unusedSimpArgs false
namespace Go.Proofs.YtoicjadioiomkaaGreatDoor
section
open Go.RowKit Go.Op
def runeW (n b0 b1 b2 b3 : Nat) : Nat := if (Lib.decodeN n b0 b1 b2 b3).1 = 65533 ∧ (Lib.decodeN n b0 b1 b2 b3).2 = 1 then 0 else (Lib.decodeN n b0 b1 b2 b3).2
theorem runeW_asc {n b0 b1 b2 b3 : Nat} (h : b0 < 128) : runeW n b0 b1 b2 b3 = 1 := by
  unfold runeW Lib.decodeN; rw [if_pos h]; dsimp only; rw [if_neg (by omega)]
theorem runeW_bad {n b0 b1 b2 b3 : Nat} (h : 128 ≤ b0) (h2 : b0 < 194 ∨ 244 < b0) (hb : b0 < 256) : runeW n b0 b1 b2 b3 = 0 := by
  unfold runeW Lib.decodeN
  repeat' split
  all_goals first | rfl | (exfalso; omega) | (dsimp only at *; omega)
theorem runeW_two {n b0 b1 b2 b3 : Nat} (h : 194 ≤ b0) (h2 : b0 ≤ 223) (hb1 : b1 < 256) : runeW n b0 b1 b2 b3 = if 2 ≤ n ∧ 128 ≤ b1 ∧ b1 ≤ 191 then 2 else 0 := by
  unfold runeW Lib.decodeN
  repeat' split
  all_goals first | rfl | (exfalso; omega) | (dsimp only at *; omega)
theorem runeW_three {n b0 b1 b2 b3 : Nat} (h : 224 ≤ b0) (h2 : b0 ≤ 239) (hb1 : b1 < 256) (hb2 : b2 < 256) : runeW n b0 b1 b2 b3 =
    if 3 ≤ n ∧ 128 ≤ b1 ∧ b1 ≤ 191 ∧ 128 ≤ b2 ∧ b2 ≤ 191 ∧ 2048 ≤ (b0 - 224) * 4096 + (b1 - 128) * 64 + (b2 - 128) ∧ ¬ (55296 ≤ (b0 - 224) * 4096 + (b1 - 128) * 64 + (b2 - 128) ∧ (b0 - 224) * 4096 + (b1 - 128) * 64 + (b2 - 128) ≤ 57343) then 3 else 0 := by
  unfold runeW Lib.decodeN
  repeat' split
  all_goals first | rfl | (exfalso; omega) | (dsimp only at *; omega)
theorem runeW_four {n b0 b1 b2 b3 : Nat} (h : 240 ≤ b0) (h2 : b0 ≤ 244) (hb1 : b1 < 256) (hb2 : b2 < 256) (hb3 : b3 < 256) : runeW n b0 b1 b2 b3 =
    if 4 ≤ n ∧ 128 ≤ b1 ∧ b1 ≤ 191 ∧ 128 ≤ b2 ∧ b2 ≤ 191 ∧ 128 ≤ b3 ∧ b3 ≤ 191 ∧ 65536 ≤ (b0 - 240) * 262144 + (b1 - 128) * 4096 + (b2 - 128) * 64 + (b3 - 128) ∧ (b0 - 240) * 262144 + (b1 - 128) * 4096 + (b2 - 128) * 64 + (b3 - 128) ≤ 1114111 then 4 else 0 := by
  unfold runeW Lib.decodeN
  repeat' split
  all_goals first | rfl | (exfalso; omega) | (dsimp only at *; omega)
def byteN (s : ByteArray) (i : Nat) : Nat := ((str s).getD i 0).toNat
theorem byteN_lt (s : ByteArray) (i : Nat) : byteN s i < 256 := UInt8.toNat_lt _
theorem byteN_get (s : ByteArray) (i : Nat) (h : i < s.size) : (s[i]'h).toNat = byteN s i := by
  unfold byteN; have : (str s)[i]? = some (s[i]'h) := Lib.data_getElem? s i h
  simp [List.getD, this]
def runeAt (s : ByteArray) (i : Nat) : Nat := runeW (s.size - i) (byteN s i) (byteN s (i + 1)) (byteN s (i + 2)) (byteN s (i + 3))
set_option maxRecDepth 100000 in
set_option maxHeartbeats 4000000 in
theorem rune_two (s : ByteArray) (i : Nat) (w : World) (hi : i < s.size) (hs : s.size ≤ 1048576) (h1 : 194 ≤ byteN s i) (h2 : byteN s i ≤ 223) :
    Calls Tryz.prog 225 #[.string s, .int .i64 i] w fun e w' => e = .returned (.int .i64 (runeAt s i)) ∧ w = w' := by
  have hv := Lib.hid (runeW_two (n := s.size - i) (b2 := byteN s (i + 2)) (b3 := byteN s (i + 3)) h1 h2 (byteN_lt s (i + 1))); have hb0 := byteN_get s i hi
  by_cases hlen : i + 2 ≤ s.size
  · have hb1 := byteN_get s (i + 1) (by omega)
    have hl1 := byteN_lt s (i + 1); have hra : runeAt s i = runeW (s.size - i) (byteN s i) (byteN s (i + 1)) (byteN s (i + 2)) (byteN s (i + 3)) := rfl
    generalize byteN s i = b0 at *
    generalize byteN s (i + 1) = b1 at *
    have HRA := Lib.hid hra; clear hra; have hq : decide ((b0 : Int) ≤ 223) = true := decide_eq_true (by omega)
    go_enter Tryz.func225, Tryz.ntmps225
    go_wp2_with fail
    go_loopw [9, 8] (fun x y wr => wr = w ∧ ((x = .int .i64 1 ∧ y = .int .i64 ((b0 : Int) - 192) ∧ True) ∨ (x = .int .i64 2 ∧ y = .int .i64 (((b0 : Int) - 192) * 64 + (b1 : Int) - 128) ∧ 128 ≤ b1 ∧ b1 ≤ 191))) (fun x _ _ => 2 - (intOf x).toNat)
    case atStart => exact ⟨rfl, .inl ⟨rfl, rfl, trivial⟩⟩
    case round =>
      obtain ⟨rfl, hrel⟩ := hrel
      rcases hrel with ⟨rfl, rfl, -⟩ | ⟨rfl, rfl, g1, k1⟩
      · by_cases ha : 128 ≤ b1
        · by_cases hb : b1 ≤ 191
          · go_wp2_with fail
            exact ⟨⟨by trivial, .inr (⟨by first | rfl | trivial, by first | rfl | trivial, ha, hb⟩)⟩, by simp [intOf]⟩
          go_wp2_with fail
          go_ret
          exact ⟨by rw [HRA.out, hv.out, if_neg (by omega)]; rfl, rfl⟩
        go_wp2_with fail
        go_ret
        exact ⟨by rw [HRA.out, hv.out, if_neg (by omega)]; rfl, rfl⟩
      go_wp2_with fail
      go_ret
      exact ⟨by rw [HRA.out, hv.out, if_pos (by omega)]; rfl, rfl⟩
  have hra : runeAt s i = runeW (s.size - i) (byteN s i) (byteN s (i + 1)) (byteN s (i + 2)) (byteN s (i + 3)) := rfl
  have HRA := Lib.hid hra; clear hra; generalize hg : byteN s i = b0 at *
  clear hg
  go_enter Tryz.func225, Tryz.ntmps225
  go_wp2_with fail
  go_ret
  exact ⟨by rw [HRA.out, hv.out, if_neg (by omega)]; rfl, rfl⟩
set_option maxRecDepth 100000 in
set_option maxHeartbeats 4000000 in
theorem rune_three (s : ByteArray) (i : Nat) (w : World) (hi : i < s.size) (hs : s.size ≤ 1048576) (h1 : 224 ≤ byteN s i) (h2 : byteN s i ≤ 239) :
    Calls Tryz.prog 225 #[.string s, .int .i64 i] w fun e w' => e = .returned (.int .i64 (runeAt s i)) ∧ w = w' := by
  have hv := Lib.hid (runeW_three (n := s.size - i) (b3 := byteN s (i + 3)) h1 h2 (byteN_lt s (i + 1)) (byteN_lt s (i + 2))); have hb0 := byteN_get s i hi
  by_cases hlen : i + 3 ≤ s.size
  · have hb1 := byteN_get s (i + 1) (by omega)
    have hl1 := byteN_lt s (i + 1); have hb2 := byteN_get s (i + 2) (by omega); have hl2 := byteN_lt s (i + 2); have hra : runeAt s i = runeW (s.size - i) (byteN s i) (byteN s (i + 1)) (byteN s (i + 2)) (byteN s (i + 3)) := rfl
    generalize byteN s i = b0 at *
    generalize byteN s (i + 1) = b1 at *
    generalize byteN s (i + 2) = b2 at *
    have HRA := Lib.hid hra; clear hra; have hq : decide ((b0 : Int) ≤ 239) = true := decide_eq_true (by omega)
    go_enter Tryz.func225, Tryz.ntmps225
    go_wp2_with fail
    go_loopw [9, 8] (fun x y wr => wr = w ∧ ((x = .int .i64 1 ∧ y = .int .i64 ((b0 : Int) - 224) ∧ True) ∨ (x = .int .i64 2 ∧ y = .int .i64 (((b0 : Int) - 224) * 64 + (b1 : Int) - 128) ∧ 128 ≤ b1 ∧ b1 ≤ 191) ∨ (x = .int .i64 3 ∧ y = .int .i64 ((((b0 : Int) - 224) * 64 + (b1 : Int) - 128) * 64 + (b2 : Int) - 128) ∧ 128 ≤ b1 ∧ b1 ≤ 191 ∧ 128 ≤ b2 ∧ b2 ≤ 191))) (fun x _ _ => 3 - (intOf x).toNat)
    case atStart => exact ⟨rfl, .inl ⟨rfl, rfl, trivial⟩⟩
    case round =>
      obtain ⟨rfl, hrel⟩ := hrel
      rcases hrel with ⟨rfl, rfl, -⟩ | ⟨rfl, rfl, g1, k1⟩ | ⟨rfl, rfl, g1, k1, g2, k2⟩
      · by_cases ha : 128 ≤ b1
        · by_cases hb : b1 ≤ 191
          · go_wp2_with fail
            exact ⟨⟨by trivial, .inr (.inl ⟨by first | rfl | trivial, by first | rfl | trivial, ha, hb⟩)⟩, by simp [intOf]⟩
          go_wp2_with fail
          go_ret
          exact ⟨by rw [HRA.out, hv.out, if_neg (by omega)]; rfl, rfl⟩
        go_wp2_with fail
        go_ret
        exact ⟨by rw [HRA.out, hv.out, if_neg (by omega)]; rfl, rfl⟩
      · by_cases ha : 128 ≤ b2
        · by_cases hb : b2 ≤ 191
          · go_wp2_with fail
            exact ⟨⟨by trivial, .inr (.inr (⟨by first | rfl | trivial, by first | rfl | trivial, g1, k1, ha, hb⟩))⟩, by simp [intOf]⟩
          go_wp2_with fail
          go_ret
          exact ⟨by rw [HRA.out, hv.out, if_neg (by omega)]; rfl, rfl⟩
        go_wp2_with fail
        go_ret
        exact ⟨by rw [HRA.out, hv.out, if_neg (by omega)]; rfl, rfl⟩
      obtain ⟨v, hve⟩ : ∃ v : Int, ((((b0 : Int) - 224) * 64 + (b1 : Int) - 128) * 64 + (b2 : Int) - 128) = v := ⟨_, rfl⟩
      have hv0 : 0 ≤ v := by omega
      have HVE := Lib.hid hve; have hvn : v = (((b0 - 224) * 4096 + (b1 - 128) * 64 + (b2 - 128) : Nat) : Int) := by omega
      have HVN := Lib.hid hvn; rw [hve]; clear hve hvn; have hvm : v < 1114111 := by have := HVN.out; omega
      by_cases c1 : 2048 ≤ v
      · by_cases c2 : 55296 ≤ v
        · by_cases c3 : v ≤ 57343
          · go_wp2_with fail
            go_ret
            exact ⟨by rw [HRA.out, hv.out, if_neg (by have := HVN.out; omega)]; rfl, rfl⟩
          go_wp2_with fail
          go_ret
          exact ⟨by rw [HRA.out, hv.out, if_pos (by have := HVN.out; omega)]; rfl, rfl⟩
        go_wp2_with fail
        go_ret
        exact ⟨by rw [HRA.out, hv.out, if_pos (by have := HVN.out; omega)]; rfl, rfl⟩
      go_wp2_with fail
      go_ret
      exact ⟨by rw [HRA.out, hv.out, if_neg (by have := HVN.out; omega)]; rfl, rfl⟩
  have hra : runeAt s i = runeW (s.size - i) (byteN s i) (byteN s (i + 1)) (byteN s (i + 2)) (byteN s (i + 3)) := rfl
  have HRA := Lib.hid hra; clear hra; generalize hg : byteN s i = b0 at *
  clear hg
  go_enter Tryz.func225, Tryz.ntmps225
  go_wp2_with fail
  go_ret
  exact ⟨by rw [HRA.out, hv.out, if_neg (by omega)]; rfl, rfl⟩
set_option maxRecDepth 100000 in
set_option maxHeartbeats 4000000 in
theorem rune_four (s : ByteArray) (i : Nat) (w : World) (hi : i < s.size) (hs : s.size ≤ 1048576) (h1 : 240 ≤ byteN s i) (h2 : byteN s i ≤ 244) :
    Calls Tryz.prog 225 #[.string s, .int .i64 i] w fun e w' => e = .returned (.int .i64 (runeAt s i)) ∧ w = w' := by
  have hv := Lib.hid (runeW_four (n := s.size - i) h1 h2 (byteN_lt s (i + 1)) (byteN_lt s (i + 2)) (byteN_lt s (i + 3))); have hb0 := byteN_get s i hi
  by_cases hlen : i + 4 ≤ s.size
  · have hb1 := byteN_get s (i + 1) (by omega)
    have hl1 := byteN_lt s (i + 1); have hb2 := byteN_get s (i + 2) (by omega); have hl2 := byteN_lt s (i + 2); have hb3 := byteN_get s (i + 3) (by omega); have hl3 := byteN_lt s (i + 3); have hra : runeAt s i = runeW (s.size - i) (byteN s i) (byteN s (i + 1)) (byteN s (i + 2)) (byteN s (i + 3)) := rfl
    generalize byteN s i = b0 at *
    generalize byteN s (i + 1) = b1 at *
    generalize byteN s (i + 2) = b2 at *
    generalize byteN s (i + 3) = b3 at *
    have HRA := Lib.hid hra; clear hra; have hq : decide ((b0 : Int) ≤ 244) = true := decide_eq_true (by omega)
    go_enter Tryz.func225, Tryz.ntmps225
    go_wp2_with fail
    go_loopw [9, 8] (fun x y wr => wr = w ∧ ((x = .int .i64 1 ∧ y = .int .i64 ((b0 : Int) - 240) ∧ True) ∨ (x = .int .i64 2 ∧ y = .int .i64 (((b0 : Int) - 240) * 64 + (b1 : Int) - 128) ∧ 128 ≤ b1 ∧ b1 ≤ 191) ∨ (x = .int .i64 3 ∧ y = .int .i64 ((((b0 : Int) - 240) * 64 + (b1 : Int) - 128) * 64 + (b2 : Int) - 128) ∧ 128 ≤ b1 ∧ b1 ≤ 191 ∧ 128 ≤ b2 ∧ b2 ≤ 191) ∨ (x = .int .i64 4 ∧ y = .int .i64 (((((b0 : Int) - 240) * 64 + (b1 : Int) - 128) * 64 + (b2 : Int) - 128) * 64 + (b3 : Int) - 128) ∧ 128 ≤ b1 ∧ b1 ≤ 191 ∧ 128 ≤ b2 ∧ b2 ≤ 191 ∧ 128 ≤ b3 ∧ b3 ≤ 191))) (fun x _ _ => 4 - (intOf x).toNat)
    case atStart => exact ⟨rfl, .inl ⟨rfl, rfl, trivial⟩⟩
    case round =>
      obtain ⟨rfl, hrel⟩ := hrel
      rcases hrel with ⟨rfl, rfl, -⟩ | ⟨rfl, rfl, g1, k1⟩ | ⟨rfl, rfl, g1, k1, g2, k2⟩ | ⟨rfl, rfl, g1, k1, g2, k2, g3, k3⟩
      · by_cases ha : 128 ≤ b1
        · by_cases hb : b1 ≤ 191
          · go_wp2_with fail
            exact ⟨⟨by trivial, .inr (.inl ⟨by first | rfl | trivial, by first | rfl | trivial, ha, hb⟩)⟩, by simp [intOf]⟩
          go_wp2_with fail
          go_ret
          exact ⟨by rw [HRA.out, hv.out, if_neg (by omega)]; rfl, rfl⟩
        go_wp2_with fail
        go_ret
        exact ⟨by rw [HRA.out, hv.out, if_neg (by omega)]; rfl, rfl⟩
      · by_cases ha : 128 ≤ b2
        · by_cases hb : b2 ≤ 191
          · go_wp2_with fail
            exact ⟨⟨by trivial, .inr (.inr (.inl ⟨by first | rfl | trivial, by first | rfl | trivial, g1, k1, ha, hb⟩))⟩, by simp [intOf]⟩
          go_wp2_with fail
          go_ret
          exact ⟨by rw [HRA.out, hv.out, if_neg (by omega)]; rfl, rfl⟩
        go_wp2_with fail
        go_ret
        exact ⟨by rw [HRA.out, hv.out, if_neg (by omega)]; rfl, rfl⟩
      · by_cases ha : 128 ≤ b3
        · by_cases hb : b3 ≤ 191
          · go_wp2_with fail
            exact ⟨⟨by trivial, .inr (.inr (.inr (⟨by first | rfl | trivial, by first | rfl | trivial, g1, k1, g2, k2, ha, hb⟩)))⟩, by simp [intOf]⟩
          go_wp2_with fail
          go_ret
          exact ⟨by rw [HRA.out, hv.out, if_neg (by omega)]; rfl, rfl⟩
        go_wp2_with fail
        go_ret
        exact ⟨by rw [HRA.out, hv.out, if_neg (by omega)]; rfl, rfl⟩
      obtain ⟨v, hve⟩ : ∃ v : Int, (((((b0 : Int) - 240) * 64 + (b1 : Int) - 128) * 64 + (b2 : Int) - 128) * 64 + (b3 : Int) - 128) = v := ⟨_, rfl⟩
      have hv0 : 0 ≤ v := by omega
      have HVE := Lib.hid hve; have hvn : v = (((b0 - 240) * 262144 + (b1 - 128) * 4096 + (b2 - 128) * 64 + (b3 - 128) : Nat) : Int) := by omega
      have HVN := Lib.hid hvn; rw [hve]; clear hve hvn
      by_cases c1 : 65536 ≤ v
      · by_cases c2 : v ≤ 1114111
        · go_wp2_with fail
          go_ret
          exact ⟨by rw [HRA.out, hv.out, if_pos (by have := HVN.out; omega)]; rfl, rfl⟩
        go_wp2_with fail
        go_ret
        exact ⟨by rw [HRA.out, hv.out, if_neg (by have := HVN.out; omega)]; rfl, rfl⟩
      go_wp2_with fail
      go_ret
      exact ⟨by rw [HRA.out, hv.out, if_neg (by have := HVN.out; omega)]; rfl, rfl⟩
  have hra : runeAt s i = runeW (s.size - i) (byteN s i) (byteN s (i + 1)) (byteN s (i + 2)) (byteN s (i + 3)) := rfl
  have HRA := Lib.hid hra; clear hra; generalize hg : byteN s i = b0 at *
  clear hg
  go_enter Tryz.func225, Tryz.ntmps225
  go_wp2_with fail
  go_ret
  exact ⟨by rw [HRA.out, hv.out, if_neg (by omega)]; rfl, rfl⟩
set_option maxRecDepth 100000 in
set_option maxHeartbeats 4000000 in
theorem rune_any (s : ByteArray) (i : Nat) (w : World) (hi : i < s.size) (hs : s.size ≤ 1048576) :
    Calls Tryz.prog 225 #[.string s, .int .i64 i] w fun e w' => e = .returned (.int .i64 (runeAt s i)) ∧ w = w' := by
  have hbl := byteN_lt s i
  by_cases a1 : byteN s i < 128
  · have hv := Lib.hid (runeW_asc (n := s.size - i) (b1 := byteN s (i + 1)) (b2 := byteN s (i + 2)) (b3 := byteN s (i + 3)) a1)
    have hb0 := byteN_get s i hi; have HRA := Lib.hid (show runeAt s i = runeW (s.size - i) (byteN s i) (byteN s (i + 1)) (byteN s (i + 2)) (byteN s (i + 3)) from rfl); generalize hg : byteN s i = b0 at *
    clear hg
    go_enter Tryz.func225, Tryz.ntmps225
    go_wp2_with fail
    go_ret
    exact ⟨by rw [HRA.out, hv.out]; rfl, rfl⟩
  by_cases a2 : byteN s i < 194 ∨ 244 < byteN s i
  · have hv := Lib.hid (runeW_bad (n := s.size - i) (b1 := byteN s (i + 1)) (b2 := byteN s (i + 2)) (b3 := byteN s (i + 3)) (by omega) a2 hbl)
    have hb0 := byteN_get s i hi; have HRA := Lib.hid (show runeAt s i = runeW (s.size - i) (byteN s i) (byteN s (i + 1)) (byteN s (i + 2)) (byteN s (i + 3)) from rfl); generalize hg : byteN s i = b0 at *
    clear hg
    rcases a2 with a2 | a2
    all_goals (
      go_enter Tryz.func225, Tryz.ntmps225
      go_wp2_with fail
      go_ret
      exact ⟨by rw [HRA.out, hv.out]; rfl, rfl⟩)
  by_cases a3 : byteN s i ≤ 223
  · exact rune_two s i w hi hs (by omega) a3
  by_cases a4 : byteN s i ≤ 239
  · exact rune_three s i w hi hs (by omega) a4
  exact rune_four s i w hi hs (by omega) (by omega)
theorem runeAt_decode (s : ByteArray) (i : Nat) (_hi : i < s.size) : runeAt s i = if (Lib.decodeL ((str s).drop i)).1 = 65533 ∧ (Lib.decodeL ((str s).drop i)).2 = 1 then 0 else (Lib.decodeL ((str s).drop i)).2 := by
  have : Lib.decodeL ((str s).drop i) = Lib.decodeN (s.size - i) (byteN s i) (byteN s (i + 1)) (byteN s (i + 2)) (byteN s (i + 3)) := by
    rw [show (str s).drop i = s.data.toList.drop i from rfl, Lib.decodeL_drop, Lib.decode_N]
    rfl
  rw [this]
  rfl
set_option maxRecDepth 100000 in
theorem rvalid_any (s : ByteArray) (w : World) (hs : s.size ≤ 1048576) :
    Calls Tryz.prog 170 #[.string s] w fun e w' => e = .returned (.bool (Lib.validD (str s))) ∧ w = w' := by
  go_enter Tryz.func170, Tryz.ntmps170
  go_wp2_with fail
  go_loopw [3] (fun x wr => ∃ i : Nat, x = .int .i64 i ∧ i ≤ s.size ∧ wr = w ∧ Hid (Lib.validD (str s) = Lib.validD ((str s).drop i))) (fun x _ => s.size - (intOf x).toNat)
  case atStart => exact ⟨0, rfl, by omega, rfl, Lib.hid rfl⟩
  case round =>
    obtain ⟨i, rfl, hi, rfl, hv⟩ := hrel
    by_cases hlt : i < s.size
    · have hne : (str s).drop i ≠ [] := by
        intro e
        have := congrArg List.length e; simp [str_size] at this; omega
      have hd := runeAt_decode s i hlt; have hst := Lib.validD_step _ hne; have hw1 := Lib.decodeL_le ((str s).drop i) hne; have hw0 := Lib.decodeL_width ((str s).drop i); rw [List.length_drop, str_size] at hw1
      by_cases hb : (Lib.decodeL ((str s).drop i)).1 = 65533 ∧ (Lib.decodeL ((str s).drop i)).2 = 1
      · rw [if_pos hb] at hd hst
        have HD := Lib.hid hd; have HST := Lib.hid hst; clear hd hst hb hw0 hw1 hne
        go_wp2_with fail
        refine (rune_any s i _ hlt hs).mono ?_
        rintro e w1 ⟨rfl, e1⟩; subst e1; rw [HD.out]
        go_wp2_with fail
        go_ret
        exact ⟨by rw [hv.out, HST.out]; rfl, rfl⟩
      rw [if_neg hb] at hd hst; rw [List.drop_drop] at hst; generalize (Lib.decodeL ((str s).drop i)).2 = d at *; have HD := Lib.hid hd; have HST := Lib.hid hst; have hd0 : ((d : Int) == 0) = false := beq_eq_false_iff_ne.2 (by omega)
      clear hd hst hb hne
      go_wp2_with fail
      refine (rune_any s i _ hlt hs).mono ?_
      rintro e w1 ⟨rfl, e1⟩; subst e1; rw [HD.out]
      go_wp2_with fail
      refine ⟨⟨i + d, by congr 1, by omega, by trivial, Lib.hid (hv.out.trans HST.out)⟩, ?_⟩
      simp only [intOf]; omega
    obtain rfl : i = s.size := by omega
    go_wp2_with fail
    go_ret
    have : (str s).drop s.size = [] := List.drop_eq_nil_of_le (by rw [str_size]; exact Nat.le_refl _)
    exact ⟨by rw [hv.out, this]; rfl, rfl⟩
end
section
open Go.RowKit Go.Op
set_option maxRecDepth 100000 in
set_option maxHeartbeats 4000000 in
theorem rname_any (s : ByteArray) (w : World) (hs : s.size ≤ 1048576) :
    Calls Tryz.prog 119 #[.string s] w fun e w' => e = .returned (.bool (okName (str s))) ∧ w = w' := by
  have hk := Lib.hid (okName_eq s); have hz : s.toList = [] ↔ s.size = 0 := by rw [toList_str, ← str_size]; simp
  by_cases h1 : s.size = 0
  · have h1' := hz.2 h1
    clear hz
    go_enter Tryz.func119, Tryz.ntmps119
    go_wp2_with fail
    go_ret
    exact ⟨by rw [hk.out]; simp [h1'], rfl⟩
  have h1' : ¬ s.toList = [] := fun e => h1 (hz.1 e)
  have HZ := Lib.hid h1'; clear hz h1'
  by_cases h2 : s.size ≤ 64
  · by_cases h3 : s.toList = [46]
    · have g : (s.toList == [46]) = true := by simp [h3]
      go_enter Tryz.func119, Tryz.ntmps119
      go_wp2_with fail
      go_ret
      exact ⟨by rw [hk.out]; simp [h3], rfl⟩
    have g3 : (s.toList == [46]) = false := by simpa using h3
    by_cases h4 : s.toList = [46, 46]
    · have g : (s.toList == [46, 46]) = true := by simp [h4]
      go_enter Tryz.func119, Tryz.ntmps119
      go_wp2_with fail
      go_ret
      exact ⟨by rw [hk.out]; simp [h4], rfl⟩
    have g4 : (s.toList == [46, 46]) = false := by simpa using h4
    cases hv : Lib.validD (str s)
    · have HV := Lib.hid hv
      clear hv
      go_enter Tryz.func119, Tryz.ntmps119
      go_wp2_with fail
      refine (rvalid_any s _ hs).mono ?_
      rintro e w1 ⟨rfl, e1⟩; subst e1; rw [HV.out]
      go_wp2_with fail
      go_ret
      exact ⟨by rw [hk.out]; simp [HV.out], rfl⟩
    have HV := Lib.hid hv; have HK := Lib.hid (show okName (str s) = noSep (str s) by rw [hk.out]; simp [HV.out, HZ.out, h2, h3, h4]); clear hv hk h3 h4
    go_enter Tryz.func119, Tryz.ntmps119
    go_wp2_with fail
    refine (rvalid_any s _ hs).mono ?_
    rintro e w1 ⟨rfl, e1⟩; subst e1; rw [HV.out]
    go_wp2_with fail
    go_loopw [3] (fun x wr => ∃ i : Nat, x = .int .i64 i ∧ i ≤ s.size ∧ wr = w ∧ Hid (noSep (str s) = noSep ((str s).drop i))) (fun x _ => s.size - (intOf x).toNat)
    case atStart => exact ⟨0, rfl, by omega, rfl, Lib.hid rfl⟩
    case round =>
      obtain ⟨i, rfl, hi, rfl, hn⟩ := hrel
      by_cases hlt : i < s.size
      · obtain ⟨x, hx⟩ : ∃ x : UInt8, s[i]'hlt = x := ⟨_, rfl⟩
        have hxl : (str s)[i]? = some x := by rw [← hx]; exact Lib.data_getElem? s i hlt
        have hdr : (str s).drop i = x :: (str s).drop (i + 1) := by
          obtain ⟨h5, h6⟩ := List.getElem?_eq_some_iff.1 hxl; rw [List.drop_eq_getElem_cons h5, h6]
        have HDR := Lib.hid hdr; clear hxl hdr
        by_cases hx0 : x.toNat = 0
        · have f1 : ((x.toNat : Int) == 0) = true := by simp [hx0]
          have HX := Lib.hid (show x = 0 from UInt8.toNat_inj.1 hx0); clear hx0
          go_wp2_with fail
          go_ret
          exact ⟨by rw [HK.out, hn.out, HDR.out, HX.out]; simp [noSep], rfl⟩
        have f1 : ((x.toNat : Int) == 0) = false := by simp [hx0]
        by_cases hx7 : x.toNat = 47
        · have f2 : ((x.toNat : Int) == 47) = true := by simp [hx7]
          have HX := Lib.hid (show x = 47 from UInt8.toNat_inj.1 hx7); clear hx0 hx7
          go_wp2_with fail
          go_ret
          exact ⟨by rw [HK.out, hn.out, HDR.out, HX.out]; simp [noSep], rfl⟩
        have f2 : ((x.toNat : Int) == 47) = false := by simp; omega
        have HX := Lib.hid (And.intro (show ¬ x = 0 from fun e => hx0 (by rw [e]; rfl)) (show ¬ x = 47 from fun e => hx7 (by rw [e]; rfl))); clear hx0 hx7
        go_wp2_with fail
        refine ⟨⟨i + 1, by congr 1, by omega, by trivial, Lib.hid ?_⟩, by simp only [intOf]; omega⟩
        rw [hn.out, HDR.out]; simp [noSep, HX.out.1, HX.out.2]
      obtain rfl : i = s.size := by omega
      go_wp2_with fail
      go_ret
      have : (str s).drop s.size = [] := List.drop_eq_nil_of_le (by rw [str_size]; exact Nat.le_refl _)
      exact ⟨by rw [HK.out, hn.out, this]; rfl, rfl⟩
  go_enter Tryz.func119, Tryz.ntmps119
  go_wp2_with fail
  go_ret
  exact ⟨by rw [hk.out]; simp [h2], rfl⟩
end
section
open Go.RowKit Go.Op
def partsB (s : ByteArray) : List ByteArray := (parts (str s)).map bs
def MadeS (L : List ByteArray) (w : World) (e : Ending) (w' : World) : Prop :=
  ∃ v, e = .returned v ∧ w'.ownsRow w.heap.size 9 1 v L.length (L.map Value.string) ∧ Off [] w w'
structure PtAt (s : Str) (D : List Str) (fr i : Nat) : Prop where
  le : fr ≤ i
  run : i ≤ s.length → parts s = D ++ parts (s.drop fr) ∧ 47 ∉ (s.drop fr).take (i - fr)
  fin : i = s.length + 1 → parts s = D
theorem PtAt.len {s : Str} {D : List Str} {fr i : Nat} (h : PtAt s D fr i) (hi : i ≤ s.length + 1) : D.length ≤ s.length + 1 := by
  have hl := parts_length s; have hc : s.count 47 ≤ s.length := List.count_le_length
  rcases Nat.lt_or_ge s.length i with h1 | h1
  · rw [h.fin (by omega)] at hl; omega
  rw [(h.run h1).1, List.length_append] at hl; omega
theorem PtAt.start (s : Str) : PtAt s [] 0 0 := ⟨Nat.le_refl _, fun _ => ⟨by simp, by simp⟩, fun h => by omega⟩
theorem PtAt.pass {s : Str} {D : List Str} {fr i : Nat} (h : PtAt s D fr i) (hi : i < s.length) (hx : s[i] ≠ 47) : PtAt s D fr (i + 1) := by
  refine ⟨by have := h.le; omega, fun _ => ⟨(h.run (by omega)).1, fun hm => ?_⟩, fun e => by omega⟩
  have h2 := (h.run (by omega)).2; have hle := h.le; have : (s.drop fr).take (i + 1 - fr) = (s.drop fr).take (i - fr) ++ [s[i]] := by
    rw [show i + 1 - fr = (i - fr) + 1 by omega, List.take_succ_eq_append_getElem (by rw [List.length_drop]; omega), List.getElem_drop]
    congr 3
    omega
  rw [this, List.mem_append, List.mem_singleton] at hm
  rcases hm with hm | hm
  · exact h2 hm
  exact hx hm.symm
theorem PtAt.hit {s : Str} {D : List Str} {fr i : Nat} (h : PtAt s D fr i) (hi : i < s.length) (hx : s[i] = 47) : PtAt s (D ++ [(s.drop fr).take (i - fr)]) (i + 1) (i + 1) := by
  obtain ⟨h1, h2⟩ := h.run (by omega); have hle := h.le; have hcut : s.drop fr = (s.drop fr).take (i - fr) ++ 47 :: (s.drop fr).drop (i - fr + 1) := by
    have e1 := List.take_append_drop (i - fr) (s.drop fr); have e2 : (s.drop fr).drop (i - fr) = 47 :: (s.drop fr).drop (i - fr + 1) := by
      rw [List.drop_eq_getElem_cons (by rw [List.length_drop]; omega), List.getElem_drop]
      congr 1
      have : fr + (i - fr) = i := by omega
      simp only [this]
      exact hx
    rw [e2] at e1; exact e1.symm
  have hp := parts_cut h2 hcut; rw [List.drop_drop, show fr + (i - fr + 1) = i + 1 by omega] at hp; refine ⟨Nat.le_refl _, fun _ => ⟨?_, by simp⟩, fun e => by omega⟩; rw [h1, hp]; simp
theorem PtAt.last {s : Str} {D : List Str} {fr : Nat} (h : PtAt s D fr s.length) : PtAt s (D ++ [(s.drop fr).take (s.length - fr)]) (s.length + 1) (s.length + 1) := by
  obtain ⟨h1, h2⟩ := h.run (Nat.le_refl _); have e : (s.drop fr).take (s.length - fr) = s.drop fr := List.take_of_length_le (by simp)
  rw [e] at h2 ⊢; refine ⟨Nat.le_refl _, fun h => by omega, fun _ => ?_⟩; rw [h1, parts_clean _ h2]
theorem extract_bs (s : ByteArray) (a b : Nat) : s.extract a b = bs (((str s).drop a).take (b - a)) := str_inj (by rw [str_extract, str_bs])
def PtRel (w : World) (s : ByteArray) (i : Nat) (f v : Value) (wr : World) : Prop :=
  ∃ (fr : Nat) (D : List Str), f = .int .i64 fr ∧ PtAt (str s) D fr i ∧ wr.ownsRow w.heap.size 9 1 v (D.map bs).length ((D.map bs).map Value.string) ∧ Off [] w wr
set_option maxRecDepth 100000 in
set_option maxHeartbeats 4000000 in
theorem rparts_any (s : ByteArray) (w : World) (hs : s.size ≤ 1048576) :
    Calls Tryz.prog 116 #[.string s] w (MadeS (partsB s) w) := by
  obtain ⟨i0, hi0, hz0, hz1, hz2⟩ := info_parts infoStr; have hsl := str_size s; have HSL := Lib.hid hsl; clear hsl
  go_enter Tryz.func116, Tryz.ntmps116
  go_wp2_with fail
  go_loopw [5, 4, 3] (fun x f v wr => ∃ i : Nat, x = .int .i64 i ∧ i ≤ s.size + 1 ∧ PtRel w s i f v wr) (fun x _ _ _ => s.size + 1 - (intOf x).toNat)
  case atStart => exact ⟨0, rfl, by omega, 0, [], rfl, PtAt.start _, ⟨rfl, .inl ⟨rfl, rfl⟩⟩, Off.refl _ _⟩
  case round =>
    obtain ⟨i, rfl, hi, fr, D, rfl, hpt, hown, hoff⟩ := hrel; have HPT := Lib.hid hpt; have hle := hpt.le; have hDl := hpt.len (by rw [HSL.out]; omega); rw [HSL.out] at hDl; have hDm : (D.map bs).length = D.length := List.length_map _
    have hDl2 : (D.map bs).length ≤ s.size + 1 := by omega
    clear hpt hDm hDl
    by_cases hlt : i < s.size
    · obtain ⟨x, hx⟩ : ∃ x : UInt8, s[i]'hlt = x := ⟨_, rfl⟩
      have hxl : (str s)[i]'(by rw [HSL.out]; exact hlt) = x := by rw [← hx]; rfl
      have HXL := Lib.hid hxl; have hine : ((i : Int) == (s.size : Int)) = false := beq_eq_false_iff_ne.2 (by omega)
      clear hxl
      by_cases hx7 : x.toNat = 47
      · have f2 : ((x.toNat : Int) == 47) = true := by simp [hx7]
        have HX := Lib.hid (show x = 47 from UInt8.toNat_inj.1 hx7); have HNEW := Lib.hid (HPT.out.hit (by rw [HSL.out]; exact hlt) (HXL.out.trans HX.out)); have HEX := Lib.hid (extract_bs s fr i); clear hx7
        go_wp2_with (at_builtin; refine wpList_append_own _ rfl _ _ 32 rfl w.heap.size 9 i0 (.string ⟨#[]⟩) 1 16 Tryz.underlying32 hi0 hz0 hz1 hz2 rfl (by decide) _ _ _ rfl (hown.alloc _) ⟨wr.heap.size, 0, none⟩ 1 1 [_] rfl rfl (cell_one_at (Blk.new wr _ _)) (by simp [Value.oneCell']) (by unfold maxLen; omega) (by omega) (by have := hoff.size; simp; omega) ?_; intro v' w6 hown' hgrow _)
        refine ⟨⟨i + 1, by congr 1, by omega, i + 1, D ++ [((str s).drop fr).take (i - fr)], by congr 1, HNEW.out, ?_, own_off hoff hown hgrow⟩, by simp only [intOf]; omega⟩
        rw [HEX.out] at hown'
        simpa using hown'
      have f2 : ((x.toNat : Int) == 47) = false := by simp; omega
      have HNEW := Lib.hid (HPT.out.pass (by rw [HSL.out]; exact hlt) (fun e => hx7 (by rw [← HXL.out, e]; rfl))); clear hx7
      go_wp2_with fail
      exact ⟨⟨i + 1, by congr 1, by omega, fr, D, rfl, HNEW.out, hown, hoff⟩, by simp only [intOf]; omega⟩
    by_cases heq : i = s.size
    · have hieq : ((i : Int) == (s.size : Int)) = true := beq_iff_eq.2 (by omega)
      have hptl : PtAt (str s) D fr (str s).length := by rw [HSL.out, ← heq]; exact HPT.out
      have HNEW := Lib.hid hptl.last; have HEX := Lib.hid (extract_bs s fr i); have HEQ := Lib.hid heq; have hile : i ≤ s.size := by omega
      clear heq hptl
      go_wp2_with (at_builtin; refine wpList_append_own _ rfl _ _ 32 rfl w.heap.size 9 i0 (.string ⟨#[]⟩) 1 16 Tryz.underlying32 hi0 hz0 hz1 hz2 rfl (by decide) _ _ _ rfl (hown.alloc _) ⟨wr.heap.size, 0, none⟩ 1 1 [_] rfl rfl (cell_one_at (Blk.new wr _ _)) (by simp [Value.oneCell']) (by unfold maxLen; omega) (by omega) (by have := hoff.size; simp; omega) ?_; intro v' w6 hown' hgrow _)
      refine ⟨⟨i + 1, by congr 1, by omega, i + 1, D ++ [((str s).drop fr).take (i - fr)], by congr 1, ?_, ?_, own_off hoff hown hgrow⟩, by simp only [intOf]; omega⟩
      · have h := HNEW.out
        rw [HSL.out, ← HEQ.out] at h; exact h
      rw [HEX.out] at hown'
      simpa using hown'
    have hfin : parts (str s) = D := HPT.out.fin (by rw [HSL.out]; omega)
    have HFIN := Lib.hid hfin; clear hfin; have hgt : s.size < i := by omega
    go_wp2_with fail
    go_ret
    exact ⟨_, rfl, by unfold partsB; rw [HFIN.out]; exact hown, hoff⟩
end
section
open Go.RowKit Go.Op
theorem partsB_len (s : ByteArray) : (partsB s).length = (str s).count 47 + 1 := by unfold partsB; rw [List.length_map, parts_length]
theorem partsB_get {s : ByteArray} {i : Nat} {x : ByteArray} (h : (partsB s)[i]? = some x) : (parts (str s))[i]? = some (str x) := by
  unfold partsB at h; rw [List.getElem?_map] at h
  cases h2 : (parts (str s))[i]? with
  | none => rw [h2] at h; cases h
  | some y => rw [h2] at h; cases h; rw [str_bs]
theorem drop_get {α : Type} {l : List α} {i : Nat} {x : α} (h : l[i]? = some x) : l.drop i = x :: l.drop (i + 1) := by
  obtain ⟨h1, h2⟩ := List.getElem?_eq_some_iff.1 h; rw [List.drop_eq_getElem_cons h1, h2]
theorem part_size {s : ByteArray} {i : Nat} {x : ByteArray} (h : (partsB s)[i]? = some x) : x.size ≤ s.size := by
  have hm := List.mem_of_getElem? (partsB_get h); have hj := joinP_parts (str s); rw [← str_size, ← str_size, ← hj]; generalize parts (str s) = l at *; clear hj h
  induction l with
  | nil => cases hm
  | cons y l ih =>
    cases l with
    | nil => simp at hm; subst hm; exact Nat.le_refl _
    | cons z l =>
      rw [joinP_cons y (by simp)]
      rcases List.mem_cons.1 hm with e | hm
      · rw [e]; simp
      have := ih hm; simp at this ⊢; omega
set_option maxRecDepth 100000 in
set_option maxHeartbeats 4000000 in
theorem rpath_any (s : ByteArray) (w : World) (hs : s.size ≤ 1048576) :
    Calls Tryz.prog 65 #[.string s] w fun e w' => e = .returned (.bool (okPath (str s))) ∧ Off [] w w' := by
  have hk := Lib.hid (okPath_eq s); have hpl := partsB_len s
  go_enter Tryz.func65, Tryz.ntmps65
  go_wp2_with fail
  refine (rparts_any s _ hs).mono ?_
  rintro e w1 ⟨v, rfl, hown, ho⟩; obtain ⟨pl, cap, rfl, hstr⟩ := own_strs hown; have HSTR := Lib.hid hstr; have hcl : (str s).count 47 ≤ s.size := by rw [← str_size]; exact List.count_le_length
  clear hown hstr; obtain ⟨m, hm⟩ : ∃ m, (partsB s).length = m := ⟨_, rfl⟩
  rw [hm]; rw [hm] at hpl; have HM := Lib.hid hm; clear hm
  by_cases h1 : s.size ≤ 400
  · by_cases h2 : (str s).count 47 < 16
    · have HK := Lib.hid (show okPath (str s) = (parts (str s)).all okName by rw [hk.out]; simp [h1, h2])
      clear hk; have hm16 : m ≤ 16 := by omega
      generalize hcn : (str s).count 47 = cn at *
      have HCN := Lib.hid hcn; have HPL := Lib.hid hpl; clear hcn hpl
      go_wp2_with fail
      go_loopw [4] (fun x wr => ∃ i : Nat, x = .int .i64 i ∧ i ≤ m ∧ wr = w1 ∧ Hid ((parts (str s)).all okName = ((parts (str s)).drop i).all okName)) (fun x _ => m - (intOf x).toNat)
      case atStart => exact ⟨0, rfl, by omega, rfl, Lib.hid rfl⟩
      case round =>
        obtain ⟨i, rfl, hi, rfl, hall⟩ := hrel
        by_cases hlt : i < m
        · have hil : i < (partsB s).length := by rw [HM.out]; exact hlt
          have hxi := List.getElem?_eq_getElem hil; generalize (partsB s)[i] = x at *; obtain ⟨g, rfl, hg, hc⟩ := HSTR.out i x hxi; have hxs := part_size hxi; have HDR := Lib.hid (drop_get (partsB_get hxi)); have HXI := Lib.hid hxi; clear hxi
          cases hv : okName (str x)
          · have HV := Lib.hid hv
            clear hv
            go_wp2_with fail
            refine (rname_any x _ (by omega)).mono ?_
            rintro e w2 ⟨rfl, e2⟩; subst e2; rw [HV.out]
            go_wp2_with fail
            go_ret
            exact ⟨by rw [HK.out, hall.out, HDR.out, List.all_cons, HV.out]; rfl, ho⟩
          have HV := Lib.hid hv; clear hv
          go_wp2_with fail
          refine (rname_any x _ (by omega)).mono ?_
          rintro e w2 ⟨rfl, e2⟩; subst e2; rw [HV.out]
          go_wp2_with fail
          refine ⟨⟨i + 1, by congr 1, by omega, by trivial, Lib.hid ?_⟩, by simp only [intOf]; omega⟩
          rw [hall.out, HDR.out, List.all_cons, HV.out]; rfl
        obtain rfl : i = m := by omega
        go_wp2_with fail
        go_ret
        have : (parts (str s)).drop i = [] := List.drop_eq_nil_of_le (by have := HM.out; unfold partsB at this; rw [List.length_map] at this; omega)
        exact ⟨by rw [HK.out, hall.out, this]; rfl, ho⟩
    have HK := Lib.hid (show okPath (str s) = false by rw [hk.out]; simp [h2]); clear hk; have hm16 : 16 < m := by omega
    have HPL := Lib.hid hpl; clear hpl
    go_wp2_with fail
    go_ret
    exact ⟨by rw [HK.out]; rfl, ho⟩
  have HK := Lib.hid (show okPath (str s) = false by rw [hk.out]; simp [h1]); clear hk; have HPL := Lib.hid hpl; clear hpl
  go_wp2_with fail
  go_ret
  exact ⟨by rw [HK.out]; rfl, ho⟩
def splitB (s : ByteArray) : List ByteArray := if okPath (str s) then partsB s else []
set_option maxRecDepth 100000 in
theorem rsplit_any (s : ByteArray) (w : World) (hs : s.size ≤ 1048576) :
    Calls Tryz.prog 163 #[.string s] w (MadeS (splitB s) w) := by
  cases hk : okPath (str s)
  · have HK := Lib.hid hk
    clear hk
    go_enter Tryz.func163, Tryz.ntmps163
    go_wp2_with fail
    refine (rpath_any s _ hs).mono ?_
    rintro e w1 ⟨rfl, ho⟩; rw [HK.out]
    go_wp2_with fail
    go_ret
    have e0 : splitB s = [] := by unfold splitB; rw [HK.out]; rfl
    exact ⟨_, rfl, by rw [e0]; exact ⟨rfl, .inl ⟨rfl, rfl⟩⟩, ho⟩
  have HK := Lib.hid hk; clear hk
  go_enter Tryz.func163, Tryz.ntmps163
  go_wp2_with fail
  refine (rpath_any s _ hs).mono ?_
  rintro e w1 ⟨rfl, ho⟩; rw [HK.out]
  go_wp2_with fail
  refine (rparts_any s _ hs).mono ?_
  rintro e w2 ⟨v, rfl, hown, ho2⟩
  go_wp2_with fail
  go_ret
  have e0 : splitB s = partsB s := by unfold splitB; rw [HK.out]; rfl
  refine ⟨_, rfl, ?_, ho.trans_nil ho2⟩
  rw [e0]; refine ⟨hown.1, ?_⟩
  rcases hown.2 with h | ⟨g, cp, cur, h1, h2, h3⟩
  · exact .inl h
  exact .inr ⟨g, cp, cur, h1, Nat.le_trans ho.size h2, h3⟩
set_option maxRecDepth 100000 in
set_option maxHeartbeats 4000000 in
theorem rparent_any (s : ByteArray) (w : World) (hs : s.size ≤ 1048576) :
    Calls Tryz.prog 111 #[.string s] w fun e w' => e = .returned (.string (bs (parent (str s)))) ∧ Off [] w w' := by
  go_enter Tryz.func111, Tryz.ntmps111
  go_wp2_with fail
  refine (rsplit_any s _ hs).mono ?_
  rintro e w1 ⟨v, rfl, hown, ho⟩; obtain ⟨pl, cap, rfl, hstr⟩ := own_strs hown; clear hown
  cases hk : okPath (str s)
  · have e0 : splitB s = [] := by unfold splitB; rw [hk]; rfl
    have ep : bs (parent (str s)) = ⟨#[]⟩ := by unfold parent; rw [hk]; rfl
    have EP := Lib.hid ep; rw [e0]; clear hstr e0 ep hk
    go_wp2_with fail
    go_ret
    exact ⟨by rw [EP.out]; rfl, ho⟩
  have e0 : splitB s = partsB s := by unfold splitB; rw [hk]; rfl
  rw [e0] at hstr ⊢; have hlen := partsB_len s; obtain ⟨m, hm⟩ : ∃ m, (partsB s).length = m := ⟨_, rfl⟩
  rw [hm]
  by_cases h2 : m < 2
  · have ep : bs (parent (str s)) = ⟨#[]⟩ := by
      have h47 : 47 ∉ str s := by
        rw [← List.count_eq_zero]; omega
      unfold parent; rw [parts_clean _ h47]; split <;> rfl
    have EP := Lib.hid ep; have HM := Lib.hid hm; clear hstr e0 ep hk hm hlen
    go_wp2_with fail
    go_ret
    exact ⟨by rw [EP.out]; rfl, ho⟩
  obtain ⟨j, rfl⟩ : ∃ j, m = j + 2 := ⟨m - 2, by omega⟩
  have hlast : (partsB s)[j + 1]? = some (bs (base (str s))) := by
    have h3 := parts_split hk; unfold partsB; rw [List.getElem?_map]; have h4 : (parts (str s)).dropLast.length = j + 1 := by
      rw [List.length_dropLast]; unfold partsB at hm; rw [List.length_map] at hm; omega
    have h5 : (parts (str s))[j + 1]? = some (base (str s)) := by
      rw [h3, List.getElem?_append_right (by omega), h4]; simp
    rw [h5]; rfl
  have hd : (parts (str s)).dropLast ≠ [] := by
    intro e
    have := congrArg List.length e; rw [List.length_dropLast] at this; unfold partsB at hm; rw [List.length_map] at hm; simp at this; omega
  have hpne : parent (str s) ≠ [] := by rw [parent_eq hk]; exact joinP_ne hd (drop_names hk)
  have hwh := path_whole hk; rw [if_neg hpne] at hwh; have hsz : s.size = (parent (str s)).length + 1 + (bs (base (str s))).size := by
    have := congrArg List.length hwh; rw [str_size, List.length_append, List.length_cons] at this; rw [bs_size]; omega
  have hex : s.extract 0 (parent (str s)).length = bs (parent (str s)) := by
    rw [extract_bs]
    congr 1
    rw [List.drop_zero, Nat.sub_zero]; have h6 : (str s).take (parent (str s)).length = (parent (str s) ++ 47 :: base (str s)).take (parent (str s)).length := by rw [← hwh]
    rw [h6]; simp
  obtain ⟨g, rfl, hg, hc⟩ := hstr (j + 1) _ hlast; obtain ⟨q, hq⟩ : ∃ q, (parent (str s)).length = q := ⟨_, rfl⟩
  rw [hq] at hsz hex; generalize bs (base (str s)) = bb at *; obtain ⟨pp, hpp⟩ : ∃ pp, bs (parent (str s)) = pp := ⟨_, rfl⟩
  rw [hpp] at hex; have HPP := Lib.hid hpp; have HEX := Lib.hid hex; have hsz1 : bb.size + 1 + q = s.size := by omega
  have hq1 : (s.size : Int) - (bb.size : Int) - 1 = (q : Int) := by omega
  have hjl : j ≤ 1048576 := by have := @List.count_le_length _ _ 47 (str s); rw [str_size] at this; omega
  have hjw : wrap64 ((j : Int) + 1) = (j : Int) + 1 := by unfold wrap64; omega
  have hjt : ((j : Int) + 1).toNat = j + 1 := by omega
  have HSZ := Lib.hid hsz; have HM := Lib.hid hm; clear hstr e0 hk hm hlen hlast hd hpne hwh hsz hex hq hsz1 hpp
  go_wp2_with fail
  go_ret
  exact ⟨by rw [HPP.out, ← HEX.out]; rfl, ho⟩
end
section
open Go.RowKit Go.Op
def Strs (w : World) (p : Option Addr) (L : List ByteArray) : Prop :=
  ∀ (i : Nat) (x : ByteArray), L[i]? = some x → ∃ g, p = some ⟨g, 0, none⟩ ∧ g < w.heap.size ∧ w.cell? ⟨g, i, none⟩ = some (.string x)
theorem Strs.off {w w' : World} {p : Option Addr} {L : List ByteArray} (h : Strs w p L) (ho : Off [] w w') : Strs w' p L := fun i x hi => by
  obtain ⟨g, h1, h2, h3⟩ := h i x hi; exact ⟨g, h1, Nat.lt_of_lt_of_le h2 ho.size, (ho.cell (p := ⟨g, i, none⟩) h2 (by simp)).trans h3⟩
theorem less_bs (x y : ByteArray) : bytesLess x.toList y.toList = decide (Lib.compareBytes (str x) (str y) < 0) := by rw [toList_str, toList_str]; exact less_cmp _ _
theorem beq_bs (x y : ByteArray) : (x.toList == y.toList) = decide (x = y) := by
  rw [toList_str, toList_str]
  by_cases h : x = y
  · subst h; simp
  rw [decide_eq_false h]; exact beq_eq_false_iff_ne.2 (fun e => h (str_inj e))
theorem cmpN_drop {l m : List Str} {i : Nat} {x y : Str} (hx : l[i]? = some x) (hy : m[i]? = some y) :
    cmpN (l.drop i) (m.drop i) = if Lib.compareBytes x y = 0 then cmpN (l.drop (i + 1)) (m.drop (i + 1)) else Lib.compareBytes x y := by
  rw [drop_get hx, drop_get hy, cmpN]
set_option maxRecDepth 100000 in
set_option maxHeartbeats 4000000 in
theorem rorder_any (a b : ByteArray) (w : World) (ha : a.size ≤ 1048576) (hb : b.size ≤ 1048576) :
    Calls Tryz.prog 112 #[.string a, .string b] w fun e w' => e = .returned (.int .i64 (order (str a) (str b))) ∧ Off [] w w' := by
  have hla : (partsB a).length ≤ a.size + 1 := by rw [partsB_len]; have := @List.count_le_length _ _ 47 (str a); rw [str_size] at this; omega
  have hlb : (partsB b).length ≤ b.size + 1 := by rw [partsB_len]; have := @List.count_le_length _ _ 47 (str b); rw [str_size] at this; omega
  go_enter Tryz.func112, Tryz.ntmps112
  go_wp2_with fail
  refine (rparts_any a _ ha).mono ?_
  rintro e w1 ⟨v, rfl, hown, ho1⟩; obtain ⟨p, c, rfl, hp⟩ := own_strs hown; have hp : Strs w1 p (partsB a) := hp
  clear hown; obtain ⟨l, hl⟩ : ∃ l, (partsB a).length = l := ⟨_, rfl⟩
  rw [hl]; rw [hl] at hla
  go_wp2_with fail
  refine (rparts_any b _ hb).mono ?_
  rintro e w2 ⟨v, rfl, hown, ho2⟩; obtain ⟨q, d, rfl, hq⟩ := own_strs hown; have hq : Strs w2 q (partsB b) := hq
  clear hown; obtain ⟨m, hm⟩ : ∃ m, (partsB b).length = m := ⟨_, rfl⟩
  rw [hm]; rw [hm] at hlb; have hoff := ho1.trans_nil ho2; have HP := Lib.hid (hp.off ho2); have HQ := Lib.hid hq; have HL := Lib.hid hl; have HM := Lib.hid hm; have HLP : Hid ((parts (str a)).length = l) := Lib.hid (by rw [← hl, partsB, List.length_map])
  have HMP : Hid ((parts (str b)).length = m) := Lib.hid (by rw [← hm, partsB, List.length_map])
  clear hp hq hl hm ho1 ho2
  go_wp2_with fail
  go_loopw [7] (fun x wr => ∃ i : Nat, x = .int .i64 i ∧ i ≤ l ∧ i ≤ m ∧ Off [] w2 wr ∧ Hid (order (str a) (str b) = cmpN ((parts (str a)).drop i) ((parts (str b)).drop i))) (fun x _ => l - (intOf x).toNat)
  case atStart => exact ⟨0, rfl, by omega, by omega, Off.refl _ _, Lib.hid rfl⟩
  case round =>
    obtain ⟨i, rfl, hil, him, ho, hord⟩ := hrel
    by_cases hlt : i < l
    · by_cases hmt : i < m
      · have hi1 := List.getElem?_eq_getElem (show i < (partsB a).length by rw [HL.out]; exact hlt)
        have hi2 := List.getElem?_eq_getElem (show i < (partsB b).length by rw [HM.out]; exact hmt); generalize (partsB a)[i]'(by rw [HL.out]; exact hlt) = x at *; generalize (partsB b)[i]'(by rw [HM.out]; exact hmt) = y at *; obtain ⟨g, rfl, hg, hcx⟩ := HP.out.off ho i x hi1; obtain ⟨k, rfl, hk, hcy⟩ := HQ.out.off ho i y hi2
        have HDR := Lib.hid (cmpN_drop (partsB_get hi1) (partsB_get hi2)); clear hi1 hi2 hp hq
        rcases cmpB_range (str x) (str y) with hc | hc | hc
        · have hl : bytesLess x.toList y.toList = true := by rw [less_bs, hc]; decide
          have HC := Lib.hid hc; clear hc
          go_wp2_with fail
          go_quiet (fail)
          go_wp2_with fail
          go_ret
          exact ⟨by rw [hord.out, HDR.out, HC.out]; rfl, (hoff.trans_nil ho).drewN _⟩
        · have hl : bytesLess x.toList y.toList = false := by rw [less_bs, hc]; decide
          have he : (x.toList == y.toList) = true := by rw [beq_bs, decide_eq_true (str_inj (cmpB_eq hc))]
          have HC := Lib.hid hc; clear hc
          go_wp2_with fail
          go_quiet (fail)
          go_wp2_with fail
          go_quiet (fail)
          go_wp2_with fail
          refine ⟨⟨i + 1, by congr 1, by omega, by omega, by first | exact ho.drewN _ | exact (ho.drewN _).drewN _, Lib.hid ?_⟩, by simp only [intOf]; omega⟩
          rw [hord.out, HDR.out, if_pos HC.out]
        have hl : bytesLess x.toList y.toList = false := by rw [less_bs, hc]; decide
        have he : (x.toList == y.toList) = false := by
          rw [beq_bs]; refine decide_eq_false fun e => ?_
          rw [e, cmpB_self] at hc; exact absurd hc (by decide)
        have HC := Lib.hid hc; clear hc
        go_wp2_with fail
        go_quiet (fail)
        go_wp2_with fail
        go_quiet (fail)
        go_wp2_with fail
        go_ret
        exact ⟨by rw [hord.out, HDR.out, HC.out]; rfl, by first | exact (hoff.trans_nil ho).drewN _ | exact ((hoff.trans_nil ho).drewN _).drewN _⟩
      obtain rfl : i = m := by omega
      have HB : Hid ((parts (str b)).drop i = []) := Lib.hid (List.drop_eq_nil_of_le (by rw [HMP.out]; exact Nat.le_refl _))
      have HA : Hid ((parts (str a)).drop i ≠ []) := Lib.hid (fun e => by have := List.drop_eq_nil_iff.1 e; rw [HLP.out] at this; omega)
      clear hp hq
      go_wp2_with fail
      go_ret
      refine ⟨?_, hoff.trans_nil ho⟩
      have := HA.out; rw [hord.out, HB.out]
      cases hh : (parts (str a)).drop i with
      | nil => exact absurd hh this
      | cons _ _ => rfl
    obtain rfl : i = l := by omega
    have HA : Hid ((parts (str a)).drop i = []) := Lib.hid (List.drop_eq_nil_of_le (by rw [HLP.out]; exact Nat.le_refl _))
    clear hp hq
    by_cases hmt : i < m
    · have HB : Hid ((parts (str b)).drop i ≠ []) := Lib.hid (fun e => by have := List.drop_eq_nil_iff.1 e; rw [HMP.out] at this; omega)
      go_wp2_with fail
      go_ret
      refine ⟨?_, hoff.trans_nil ho⟩
      have := HB.out; rw [hord.out, HA.out]
      cases hh : (parts (str b)).drop i with
      | nil => exact absurd hh this
      | cons _ _ => rfl
    obtain rfl : i = m := by omega
    have HB : Hid ((parts (str b)).drop i = []) := Lib.hid (List.drop_eq_nil_of_le (by rw [HMP.out]; exact Nat.le_refl _))
    go_wp2_with fail
    go_ret
    exact ⟨by rw [hord.out, HA.out, HB.out]; rfl, hoff.trans_nil ho⟩
theorem prefix_take (l m : List Str) : l.isPrefixOf m = decide (m.take l.length = l) := by
  rw [Bool.eq_iff_iff, decide_eq_true_iff, List.isPrefixOf_iff_prefix, List.prefix_iff_eq_take]; exact ⟨fun h => h.symm, fun h => h.symm⟩
theorem take_get {α : Type} {l : List α} {i : Nat} {x : α} (h : l[i]? = some x) : l.take (i + 1) = l.take i ++ [x] := by
  obtain ⟨h1, h2⟩ := List.getElem?_eq_some_iff.1 h; rw [List.take_succ_eq_append_getElem h1, h2]
set_option maxRecDepth 100000 in
set_option maxHeartbeats 4000000 in
theorem rwithin_any (a b : ByteArray) (w : World) (ha : a.size ≤ 1048576) (hb : b.size ≤ 1048576) :
    Calls Tryz.prog 60 #[.string a, .string b] w fun e w' => e = .returned (.bool (within (str a) (str b))) ∧ Off [] w w' := by
  have hla : (partsB a).length ≤ a.size + 1 := by rw [partsB_len]; have := @List.count_le_length _ _ 47 (str a); rw [str_size] at this; omega
  have hlb : (partsB b).length ≤ b.size + 1 := by rw [partsB_len]; have := @List.count_le_length _ _ 47 (str b); rw [str_size] at this; omega
  have hE : b.toList = [] ↔ str b = [] := by rw [toList_str]
  cases hka : okPath (str a)
  · have HK := Lib.hid hka
    clear hka hE
    go_enter Tryz.func60, Tryz.ntmps60
    go_wp2_with fail
    refine (rpath_any a _ ha).mono ?_
    rintro e w1 ⟨rfl, ho⟩; rw [HK.out]
    go_wp2_with fail
    go_ret
    exact ⟨by unfold within; rw [HK.out]; rfl, ho⟩
  have HK := Lib.hid hka; clear hka
  by_cases hb0 : str b = []
  · have g := hE.2 hb0
    have g' : b.toList.isEmpty = true := by simp [g]
    have HB0 := Lib.hid hb0; clear hE hb0
    go_enter Tryz.func60, Tryz.ntmps60
    go_wp2_with fail
    refine (rpath_any a _ ha).mono ?_
    rintro e w1 ⟨rfl, ho⟩; rw [HK.out]
    go_wp2_with fail
    go_ret
    exact ⟨by unfold within; rw [HK.out, decide_eq_true HB0.out]; rfl, ho⟩
  have g : ¬ b.toList = [] := fun e => hb0 (hE.1 e)
  have g' : b.toList.isEmpty = false := by simpa using g
  have HB0 := Lib.hid hb0; clear hE hb0
  cases hkb : okPath (str b)
  · have HKB := Lib.hid hkb
    clear hkb
    go_enter Tryz.func60, Tryz.ntmps60
    go_wp2_with fail
    refine (rpath_any a _ ha).mono ?_
    rintro e w1 ⟨rfl, ho⟩; rw [HK.out]
    go_wp2_with fail
    refine (rpath_any b _ hb).mono ?_
    rintro e w2 ⟨rfl, ho2⟩; rw [HKB.out]
    go_wp2_with fail
    go_ret
    exact ⟨by unfold within; rw [HK.out, HKB.out, decide_eq_false HB0.out]; rfl, ho.trans_nil ho2⟩
  have HKB := Lib.hid hkb; have HW : Hid (within (str a) (str b) = decide ((parts (str a)).take (parts (str b)).length = parts (str b))) := Lib.hid (by
    unfold within; rw [HK.out, HKB.out, decide_eq_false HB0.out, prefix_take]; rfl)
  clear hkb
  go_enter Tryz.func60, Tryz.ntmps60
  go_wp2_with fail
  refine (rpath_any a _ ha).mono ?_
  rintro e w1 ⟨rfl, ho⟩; rw [HK.out]
  go_wp2_with fail
  refine (rpath_any b _ hb).mono ?_
  rintro e w2 ⟨rfl, ho2⟩; rw [HKB.out]
  go_wp2_with fail
  have ho02 := ho.trans_nil ho2; clear ho ho2; refine (rparts_any a _ ha).mono ?_; rintro e w3 ⟨v, rfl, hown, ho1⟩; obtain ⟨p, c, rfl, hp⟩ := own_strs hown; have hp : Strs w3 p (partsB a) := hp
  clear hown; obtain ⟨l, hl⟩ : ∃ l, (partsB a).length = l := ⟨_, rfl⟩
  rw [hl]; rw [hl] at hla
  go_wp2_with fail
  refine (rparts_any b _ hb).mono ?_
  rintro e w4 ⟨v, rfl, hown, ho2⟩; obtain ⟨q, d, rfl, hq⟩ := own_strs hown; have hq : Strs w4 q (partsB b) := hq
  clear hown; obtain ⟨m, hm⟩ : ∃ m, (partsB b).length = m := ⟨_, rfl⟩
  rw [hm]; rw [hm] at hlb; have hoff := (ho02.trans_nil ho1).trans_nil ho2; have HP := Lib.hid (hp.off ho2); have HQ := Lib.hid hq; have HL := Lib.hid hl; have HM := Lib.hid hm; have HLP : Hid ((parts (str a)).length = l) := Lib.hid (by rw [← hl, partsB, List.length_map])
  have HMP : Hid ((parts (str b)).length = m) := Lib.hid (by rw [← hm, partsB, List.length_map])
  clear hp hq hl hm ho1 ho2 ho02
  by_cases hlm : l < m
  · go_wp2_with fail
    go_ret
    refine ⟨?_, hoff⟩
    rw [HW.out, decide_eq_false]
    · rfl
    intro e
    have := congrArg List.length e; rw [List.length_take, HLP.out, HMP.out] at this; omega
  go_wp2_with fail
  go_loopw [7] (fun x wr => ∃ i : Nat, x = .int .i64 i ∧ i ≤ m ∧ Off [] w4 wr ∧ Hid ((parts (str a)).take i = (parts (str b)).take i)) (fun x _ => m - (intOf x).toNat)
  case atStart => exact ⟨0, rfl, by omega, Off.refl _ _, Lib.hid rfl⟩
  case round =>
    obtain ⟨i, rfl, hi, ho, htk⟩ := hrel
    by_cases hlt : i < m
    · have hi1 := List.getElem?_eq_getElem (show i < (partsB a).length by rw [HL.out]; omega)
      have hi2 := List.getElem?_eq_getElem (show i < (partsB b).length by rw [HM.out]; exact hlt); generalize (partsB a)[i]'(by rw [HL.out]; omega) = x at *; generalize (partsB b)[i]'(by rw [HM.out]; exact hlt) = y at *; obtain ⟨g, rfl, hg, hcx⟩ := HP.out.off ho i x hi1; obtain ⟨k, rfl, hk, hcy⟩ := HQ.out.off ho i y hi2; have hil : i < l := by omega
      have HI1 := Lib.hid (partsB_get hi1); have HI2 := Lib.hid (partsB_get hi2); clear hi1 hi2
      by_cases hxy : x = y
      · have hbq : (x.toList == y.toList) = true := by rw [beq_bs, hxy]; simp
        have HXY := Lib.hid hxy; clear hxy
        go_wp2_with fail
        go_quiet (fail)
        go_wp2_with fail
        refine ⟨⟨i + 1, by congr 1, by omega, ho.drewN _, Lib.hid ?_⟩, by simp only [intOf]; omega⟩
        rw [take_get HI1.out, take_get HI2.out, htk.out, HXY.out]
      have hbq : (x.toList == y.toList) = false := by rw [beq_bs]; simp [hxy]
      have HXY := Lib.hid hxy; clear hxy
      go_wp2_with fail
      go_quiet (fail)
      go_wp2_with fail
      go_ret
      refine ⟨?_, (hoff.trans_nil ho).drewN _⟩
      rw [HW.out, decide_eq_false]
      · rfl
      intro e
      have h1 : (parts (str a))[i]? = (parts (str b))[i]? := by
        rw [← e, List.getElem?_take, if_pos (by rw [HMP.out]; exact hlt)]
      rw [HI1.out, HI2.out] at h1; exact HXY.out (str_inj (Option.some.inj h1))
    obtain rfl : i = m := by omega
    go_wp2_with fail
    go_ret
    refine ⟨?_, hoff.trans_nil ho⟩
    rw [HW.out, decide_eq_true]
    · rfl
    rw [HMP.out, htk.out, List.take_of_length_le (by rw [HMP.out]; exact Nat.le_refl _)]
end
section
open Go.RowKit Go.Op
def FindAt (t : List Node) (s : ByteArray) (r : Int) : Prop :=
  (r = -1 ∧ ∀ (j : Nat) (n : Node), t[j]? = some n → n.path ≠ s) ∨ ∃ (i : Nat) (n : Node), r = (i : Int) ∧ t[i]? = some n ∧ n.path = s ∧ ∀ (j : Nat) (m : Node), j < i → t[j]? = some m → m.path ≠ s
set_option maxRecDepth 100000 in
theorem find_any (p : Option Addr) (t : List Node) (n cap : Nat) (s : ByteArray) (w : World) (hR : Row w p t) (hn : t.length = n) (hbig : n ≤ 1099511627776) :
    Calls Tryz.prog 54 #[.slice p n cap, .string s] w fun e w' => ∃ r, e = .returned (.int .i64 r) ∧ FindAt t s r ∧ Off [] w w' := by
  have HN := Lib.hid hn; have HR := Lib.hid hR; clear hn hR
  go_enter Tryz.func54, Tryz.ntmps54
  go_wp2_with fail
  go_loopw [5] (fun x wr => ∃ i : Nat, x = .int .i64 i ∧ i ≤ n ∧ Off [] w wr ∧ Hid (∀ (j : Nat) (m : Node), j < i → t[j]? = some m → m.path ≠ s)) (fun x _ => n - (intOf x).toNat)
  case atStart => exact ⟨0, rfl, by omega, Off.refl _ _, Lib.hid (fun j m hj => by omega)⟩
  case round =>
    obtain ⟨i, rfl, hi, ho, hall⟩ := hrel
    by_cases hlt : i < n
    · have hil : i < t.length := by rw [HN.out]; exact hlt
      obtain ⟨a, rfl, hna, hab⟩ := (HR.out.off ho).get i hil; have hgi := List.getElem?_eq_getElem hil; generalize t[i] = nd at *; have c0 := hna.path; have HGI := Lib.hid hgi; clear hna hgi hil
      by_cases hxy : nd.path = s
      · have hbq : (nd.path.toList == s.toList) = true := by rw [beq_bs, hxy]; simp
        have HXY := Lib.hid hxy; clear hxy
        go_wp2_with fail
        go_ret
        exact ⟨_, rfl, .inr ⟨i, nd, rfl, HGI.out, HXY.out, hall.out⟩, ho⟩
      have hbq : (nd.path.toList == s.toList) = false := by rw [beq_bs]; simp [hxy]
      have HXY := Lib.hid hxy; clear hxy
      go_wp2_with fail
      refine ⟨⟨i + 1, by congr 1, by omega, ho, Lib.hid ?_⟩, by simp only [intOf]; omega⟩
      intro j m hj hm
      rcases Nat.lt_or_ge j i with h | h
      · exact hall.out j m h hm
      obtain rfl : j = i := by omega
      rw [HGI.out] at hm
      cases hm
      exact HXY.out
    obtain rfl : i = n := by omega
    go_wp2_with fail
    go_ret
    refine ⟨-1, rfl, .inl ⟨rfl, fun j m hm => hall.out j m ?_ hm⟩, ho⟩
    rw [← HN.out]; exact (List.getElem?_eq_some_iff.1 hm).1
def rdir (t : List Node) (p : Str) : Bool := decide (p = []) || ((t.find? fun n => decide (n.p = p)).map fun n => decide (n.kind = 2)).getD false
theorem rdir_find {t : List Node} {s : ByteArray} {r : Int} (h : FindAt t s r) (hs : str s ≠ []) :
    (r = -1 ∧ rdir t (str s) = false) ∨ ∃ (i : Nat) (n : Node), r = (i : Int) ∧ t[i]? = some n ∧ rdir t (str s) = decide (n.kind = 2) := by
  unfold rdir; rw [decide_eq_false hs, Bool.false_or]
  rcases h with ⟨h1, h2⟩ | ⟨i, n, h1, h2, h3, h4⟩
  · refine .inl ⟨h1, ?_⟩
    rw [List.find?_eq_none.2]
    · rfl
    intro m hm
    obtain ⟨j, hj⟩ := List.getElem?_of_mem hm; have h5 : ¬ m.p = str s := fun e => h2 j m hj (str_inj e)
    simp [h5]
  refine .inr ⟨i, n, h1, h2, ?_⟩
  obtain ⟨hi, hii⟩ := List.getElem?_eq_some_iff.1 h2; have : (t.find? fun n => decide (n.p = str s)) = some n := by
    rw [List.find?_eq_some_iff_getElem]; refine ⟨by simp [Node.p, h3], i, hi, hii, fun j hj => ?_⟩; have h5 : ¬ t[j].p = str s := fun e => h4 j t[j] hj (List.getElem?_eq_getElem _) (str_inj e)
    simp [h5]
  rw [this]; rfl
set_option maxRecDepth 100000 in
theorem rdir_any (p : Option Addr) (t : List Node) (n cap : Nat) (s : ByteArray) (w : World) (hR : Row w p t) (hn : t.length = n) (hbig : n ≤ 1099511627776) :
    Calls Tryz.prog 110 #[.slice p n cap, .string s] w fun e w' => e = .returned (.bool (rdir t (str s))) ∧ Off [] w w' := by
  have hE : s.toList = [] ↔ str s = [] := by rw [toList_str]
  by_cases hs : str s = []
  · have g := hE.2 hs
    have g' : s.toList.isEmpty = true := by simp [g]
    have HS := Lib.hid hs; clear hE hs hR
    go_enter Tryz.func110, Tryz.ntmps110
    go_wp2_with fail
    go_ret
    exact ⟨by unfold rdir; rw [decide_eq_true HS.out]; rfl, Off.refl _ _⟩
  have g : ¬ s.toList = [] := fun e => hs (hE.1 e)
  have g' : s.toList.isEmpty = false := by simpa using g
  have HS := Lib.hid hs; have HR := Lib.hid hR; have HN := Lib.hid hn; clear hE hs hR hn
  go_enter Tryz.func110, Tryz.ntmps110
  go_wp2_with fail
  refine (find_any p t n cap s _ HR.out HN.out hbig).mono ?_
  rintro e w1 ⟨r, rfl, hf, ho⟩
  rcases rdir_find hf HS.out with ⟨h1, h2⟩ | ⟨i, nd, h1, h2, h3⟩
  · subst h1
    have H2 := Lib.hid h2; clear h2 hf
    go_wp2_with fail
    go_ret
    exact ⟨by rw [H2.out]; rfl, ho⟩
  subst h1; obtain ⟨hi, hii⟩ := List.getElem?_eq_some_iff.1 h2; obtain ⟨a, rfl, hna, hab⟩ := (HR.out.off ho).get i hi; rw [hii] at hna; have hin : i < n := by rw [← HN.out]; exact hi
  have c1 := hna.kind; have H3 := Lib.hid h3; clear hna hf h2 h3 hi hii
  go_wp2_with fail
  go_ret
  exact ⟨by rw [H3.out, ← beq2]; rfl, ho⟩
set_option maxRecDepth 100000 in
theorem rright_any (n : Node) (w : World) (hbig : n.data.size ≤ maxLen) : Calls Tryz.prog 109 #[n.val] w fun e w' => e = .returned (.bool (rightN n)) ∧ Off [] w w' := by
  obtain ⟨path, kind, data, mode⟩ := n
  replace hbig : data.size ≤ maxLen := hbig
  unfold maxLen at hbig; have hE : data.toList = [] ↔ data.size = 0 := by rw [toList_str, ← str_size]; simp
  unfold Node.val; dsimp only
  by_cases h1 : kind = 1
  · subst h1
    clear hE
    by_cases a : data.size ≤ 65536
    · by_cases b : 0 ≤ mode
      · go_enter Tryz.func109, Tryz.ntmps109
        go_wp2_with fail
        go_ret
        exact ⟨by simp [rightN, a, b], (Off.refl _ _).alloc _⟩
      go_enter Tryz.func109, Tryz.ntmps109
      go_wp2_with fail
      go_ret
      exact ⟨by simp [rightN, a]; omega, (Off.refl _ _).alloc _⟩
    go_enter Tryz.func109, Tryz.ntmps109
    go_wp2_with fail
    go_ret
    exact ⟨by simp [rightN, a], (Off.refl _ _).alloc _⟩
  by_cases h2 : kind = 2
  · subst h2
    clear h1
    by_cases a : data.size = 0
    · have g := hE.2 a
      have g' : data.toList.isEmpty = true := by simp [g]
      clear hE
      go_enter Tryz.func109, Tryz.ntmps109
      go_wp2_with fail
      go_ret
      exact ⟨by simp [rightN, a, beq0], (Off.refl _ _).alloc _⟩
    have g : ¬ data.toList = [] := fun e => a (hE.1 e)
    have g' : data.toList.isEmpty = false := by simpa using g
    clear hE
    go_enter Tryz.func109, Tryz.ntmps109
    go_wp2_with fail
    go_ret
    exact ⟨by simp [rightN, a], (Off.refl _ _).alloc _⟩
  by_cases h3 : kind = 3
  · subst h3
    clear h1 h2 hE; have hsl := str_size data; have HSL := Lib.hid hsl; clear hsl; have hB := Blk.new w 30 #[.string path, .int .i64 3, .string data, .int .i64 mode]; have HB := Lib.hid hB; clear hB
    go_enter Tryz.func109, Tryz.ntmps109
    go_wp2_with fail
    go_loopw [3] (fun x wr => ∃ i : Nat, x = .int .i64 i ∧ i ≤ data.size ∧ (Off [] w wr ∧ Blk wr w.heap.size 30 #[.string path, .int .i64 3, .string data, .int .i64 mode]) ∧ Hid (0 ∉ (str data).take i)) (fun x _ => data.size - (intOf x).toNat)
    case atStart => exact ⟨0, rfl, by omega, ⟨(Off.refl _ _).alloc _, HB.out⟩, Lib.hid (by simp)⟩
    case round =>
      obtain ⟨i, rfl, hi, ⟨ho, hB⟩, hall⟩ := hrel; have hc := hB.cell; have hlB := hB.lt
      by_cases hlt : i < data.size
      · obtain ⟨x, hx⟩ : ∃ x : UInt8, data[i]'hlt = x := ⟨_, rfl⟩
        have hxl : (str data)[i]? = some x := by rw [← hx, List.getElem?_eq_getElem (by rw [HSL.out]; exact hlt)]; rfl
        have HXL := Lib.hid hxl; clear hxl
        by_cases hx0 : x.toNat = 0
        · have f2 : ((x.toNat : Int) == 0) = true := by simp [hx0]
          have HX := Lib.hid (show x = 0 from UInt8.toNat_inj.1 hx0); clear hx0
          go_wp2_with fail
          go_ret
          have hm : 0 ∈ str data := by have := List.mem_of_getElem? HXL.out; rw [HX.out] at this; exact this
          exact ⟨by simp [rightN, hm], ho⟩
        have f2 : ((x.toNat : Int) == 0) = false := by simp; omega
        have HX := Lib.hid (show x ≠ 0 from fun e => hx0 (by rw [e]; rfl)); clear hx0
        go_wp2_with fail
        refine ⟨⟨i + 1, by congr 1, by omega, ⟨ho, hB⟩, Lib.hid ?_⟩, by simp only [intOf]; omega⟩
        rw [take_get HXL.out, List.mem_append, List.mem_singleton]; exact fun h => h.elim hall.out (fun e => HX.out e.symm)
      obtain rfl : i = data.size := by omega
      have hm : 0 ∉ str data := by have := hall.out; rw [List.take_of_length_le (by rw [HSL.out]; exact Nat.le_refl _)] at this; exact this
      have HM := Lib.hid hm; clear hm
      by_cases a : data.size = 0
      · have a1 : ((1 : Int) ≤ (data.size : Int)) = False := by simp; omega
        go_wp2_with fail
        go_ret
        exact ⟨by simp [rightN, a], ho⟩
      have a1 : ((1 : Int) ≤ (data.size : Int)) = True := by simp; omega
      by_cases b : data.size ≤ 400
      · go_wp2_with fail
        go_ret
        exact ⟨by simp [rightN, a, b, HM.out, beq0], ho⟩
      go_wp2_with fail
      go_ret
      exact ⟨by simp [rightN, a, b], ho⟩
  have k1 : (kind == 1) = false := beq_eq_false_iff_ne.2 h1
  have k2 : (kind == 2) = false := beq_eq_false_iff_ne.2 h2
  have k3 : (kind == 3) = false := beq_eq_false_iff_ne.2 h3
  clear hE
  go_enter Tryz.func109, Tryz.ntmps109
  go_wp2_with fail
  go_ret
  exact ⟨by simp [rightN, h1, h2, h3], (Off.refl _ _).alloc _⟩
end
section
open Go.RowKit Go.Op
def rok (t done : List Node) (n : Node) : Bool := okPath n.p && rightN n && rdir t (parent n.p) && lastOk done n
theorem cmpN_snoc (x : Str) : ∀ l : List Str, cmpN l (l ++ [x]) = -1
  | [] => rfl
  | a :: l => by simp only [List.cons_append, cmpN, cmpB_self, if_true]; exact cmpN_snoc x l
theorem parent_before {p : Str} (h : okPath p = true) (hp : parent p ≠ []) : order (parent p) p < 0 := by
  have hd : (parts p).dropLast ≠ [] := fun e => by rw [parent_eq h, e] at hp; exact hp rfl
  have e1 : parts (parent p) = (parts p).dropLast := by rw [parent_eq h]; exact parts_joinP _ hd drop_clean
  unfold order; rw [e1]
  conv => lhs; rw [parts_split h]
  rw [List.dropLast_concat, cmpN_snoc]
  decide
theorem rdir_dir {t : List Node} {p : Str} (h : rdir t p = true) : p = [] ∨ ∃ n ∈ t, n.p = p ∧ n.kind = 2 := by
  unfold rdir at h; rw [Bool.or_eq_true, decide_eq_true_eq] at h
  rcases h with h | h
  · exact .inl h
  right
  cases hf : t.find? fun n => decide (n.p = p) with
  | none => rw [hf] at h; cases h
  | some n =>
    rw [hf] at h; have h1 := List.find?_some hf; exact ⟨n, List.mem_of_find?_eq_some hf, by simpa using h1, by simpa using h⟩
theorem dir_rdir {t : List Node} {p : Str} (hs : Sorted t) (h : isDir t p = true) : rdir t p = true := by
  unfold isDir at h; unfold rdir; rw [Bool.or_eq_true] at h ⊢
  rcases h with h | h
  · exact .inl h
  right
  rw [List.any_eq_true] at h; obtain ⟨n, hn, hp⟩ := h; simp only [Bool.and_eq_true, decide_eq_true_eq] at hp
  cases hf : t.find? fun n => decide (n.p = p) with
  | none =>
    have := List.find?_eq_none.1 hf n hn; simp [hp.1] at this
  | some m =>
    have h1 := List.find?_some hf; have h2 : m = n := hs.unique (List.mem_of_find?_eq_some hf) hn (by rw [hp.1]; simpa using h1)
    subst h2; simp [hp.2]
theorem rok_of {t done : List Node} {n : Node} (v1 v2 v3 : Bool) (h1 : okPath (str n.path) = v1) (h2 : v1 = true → rightN n = v2) (h3 : v1 = true → v2 = true → rdir t (parent (str n.path)) = v3) (h4 : v1 = true → v2 = true → v3 = true → lastOk done n = true) :
    rok t done n = (v1 && v2 && v3) := by
  unfold rok; have e1 : okPath n.p = v1 := h1
  rw [e1]
  cases v1
  · rfl
  rw [h2 rfl]
  cases v2
  · rfl
  have e3 : rdir t (parent n.p) = v3 := h3 rfl rfl
  rw [e3]
  cases v3
  · rfl
  rw [h4 rfl rfl rfl]; rfl
theorem rok_bad {t : List Node} {k : Nat} (hk : k < t.length) (h : rok t (t.take k) t[k] = false) : okTree t = false := by
  cases ho : okTree t
  · rfl
  have h1 := okTree_next ho k hk; rw [okNext_eq] at h1; simp only [Bool.and_eq_true] at h1; have h2 := dir_rdir (okTree_sorted ho) (parent_dir ho (List.getElem_mem hk)); unfold rok at h; rw [h1.1.1.1, h1.1.1.2, h2, h1.1.2] at h
  cases h
def RokTo (t : List Node) (k : Nat) : Prop := ∀ (j : Nat) (hj : j < t.length), j < k → rok t (t.take j) t[j] = true
theorem RokTo.succ {t : List Node} {k : Nat} (h : RokTo t k) (hk : k < t.length) (hn : rok t (t.take k) t[k] = true) : RokTo t (k + 1) := fun j hj hjk => by
  rcases Nat.lt_or_ge j k with h1 | h1
  · exact h j hj h1
  obtain rfl : j = k := by omega
  exact hn
theorem RokTo.tree {t : List Node} (hl : t.length ≤ 1000) (h : RokTo t t.length) : okTree t = true := by
  have hs : ∀ k, k ≤ t.length → Sorted (t.take k) := fun k => by
    induction k with
    | zero => intro _; simp [Sorted]
    | succ k ih =>
      intro hk
      rw [List.take_succ_eq_append_getElem (by omega)]; have h1 := h k (by omega) (by omega); unfold rok at h1; simp only [Bool.and_eq_true] at h1; exact sorted_snoc (ih (by omega)) h1.2
  have hst : Sorted t := by have := hs t.length (Nat.le_refl _); rwa [List.take_length] at this
  have ho : ∀ k, k ≤ t.length → okFrom [] (t.take k) = true := fun k => by
    induction k with
    | zero => intro _; simp [okFrom]
    | succ k ih =>
      intro hk
      have hkl : k < t.length := by omega
      refine okFrom_take_succ hkl (ih (by omega)) ?_
      have h1 := h k (by omega) (by omega); unfold rok at h1; simp only [Bool.and_eq_true] at h1; rw [okNext_eq, h1.1.1.1, h1.1.1.2, h1.2, Bool.true_and, Bool.true_and, Bool.true_and]; unfold isDir; rw [Bool.or_eq_true]
      rcases rdir_dir h1.1.2 with h2 | ⟨m, hm, hp, hk2⟩
      · exact .inl (decide_eq_true h2)
      by_cases he : parent t[k].p = []
      · exact .inl (decide_eq_true he)
      right
      rw [List.any_eq_true]; refine ⟨m, ?_, by simp [hp, hk2]⟩; obtain ⟨j, hj, rfl⟩ := List.getElem_of_mem hm; have hlt : j < k := by
        rcases Nat.lt_trichotomy j k with h3 | h3 | h3
        · exact h3
        · subst h3
          have := parent_before h1.1.1.1 he; rw [← hp, order_self] at this; omega
        have h4 := List.pairwise_iff_getElem.1 hst k j hkl hj h3; have h5 := parent_before h1.1.1.1 he; rw [← hp] at h5; have := order_trans h4 h5; rw [order_self] at this; omega
      have : (t.take k)[j]? = some t[j] := by rw [List.getElem?_take, if_pos hlt, List.getElem?_eq_getElem]
      exact List.mem_of_getElem? this
  unfold okTree; have := ho t.length (Nat.le_refl _); rw [List.take_length] at this; rw [this, decide_eq_true hl]; rfl
end
section
open Go.RowKit Go.Op
def Fits1 (t : List Node) : Prop := ∀ n ∈ t, n.path.size ≤ 1048576 ∧ n.data.size ≤ 1048576
theorem Fits1.fits {t : List Node} (h : Fits1 t) : Fits t := fun n hn => by have := h n hn; unfold maxLen; omega
theorem rpath_v (s : ByteArray) (w : World) (hs : s.size ≤ 1048576) (v : Bool) (hv : okPath (str s) = v) : Calls Tryz.prog 65 #[.string s] w fun e w' => e = .returned (.bool v) ∧ Off [] w w' := hv ▸ rpath_any s w hs
theorem rright_v (n : Node) (w : World) (hs : n.data.size ≤ 1048576) (v : Bool) (hv : rightN n = v) : Calls Tryz.prog 109 #[.agg #[.string n.path, .int .i64 n.kind, .string n.data, .int .i64 n.mode]] w fun e w' => e = .returned (.bool v) ∧ Off [] w w' := hv ▸ rright_any n w (by unfold maxLen; omega)
theorem rorder_v (a b : ByteArray) (w : World) (ha : a.size ≤ 1048576) (hb : b.size ≤ 1048576) (c : Int) (hc : order (str a) (str b) = c) : Calls Tryz.prog 112 #[.string a, .string b] w fun e w' => e = .returned (.int .i64 c) ∧ Off [] w w' := hc ▸ rorder_any a b w ha hb
theorem rdir_v (p : Option Addr) (t : List Node) (n cap : Nat) (s : ByteArray) (w : World) (hR : Row w p t) (hn : t.length = n) (hbig : n ≤ 1099511627776) (v : Bool) (hv : rdir t (str s) = v) :
    Calls Tryz.prog 110 #[.slice p n cap, .string s] w fun e w' => e = .returned (.bool v) ∧ Off [] w w' := hv ▸ rdir_any p t n cap s w hR hn hbig
set_option maxRecDepth 100000 in
set_option maxHeartbeats 4000000 in
theorem rcheck_any (p : Option Addr) (t : List Node) (n cap : Nat) (w : World) (hR : Row w p t) (hn : t.length = n) (hbig : n ≤ 1099511627776) (hF : Fits1 t) :
    Calls Tryz.prog 55 #[.slice p n cap] w fun e w' => e = .returned (.int .i64 (chkV t)) ∧ Off [] w w' := by
  have HN := Lib.hid hn; have HR := Lib.hid hR; have HF := Lib.hid hF; clear hn hR hF
  by_cases hlen : n ≤ 1000
  · go_enter Tryz.func55, Tryz.ntmps55
    go_wp2_with fail
    go_loopw [3] (fun x wr => ∃ k : Nat, x = .int .i64 k ∧ k ≤ n ∧ Off [] w wr ∧ Hid (RokTo t k)) (fun x _ => n - (intOf x).toNat)
    case atStart => exact ⟨0, rfl, by omega, Off.refl _ _, Lib.hid (fun j hj h => by omega)⟩
    case round =>
      obtain ⟨k, rfl, hk, ho, hok⟩ := hrel
      by_cases hkn : k < n
      · have hkl : k < t.length := by rw [HN.out]; omega
        obtain ⟨a, rfl, hna, hab⟩ := (HR.out.off ho).get k hkl; have hfit := HF.out _ (List.getElem_mem hkl); have HBAD := Lib.hid (fun h => rok_bad (t := t) hkl h); have HGOOD := Lib.hid (fun h => hok.out.succ hkl h); generalize hnd : t[k] = nd at *
        clear hnd; have HNA := Lib.hid hna; have habk : (a.add (k * 4)).block < wr.heap.size := by rw [add_block]; exact hab
        have c0 := hna.path; have hf0 := hfit.1; have hf1 := hfit.2; have hpsz : (bs (parent (str nd.path))).size ≤ 1048576 := by have := bs_parent_size nd.path; omega
        clear hna hfit
        cases hv1 : okPath (str nd.path)
        · have HV1 := Lib.hid hv1
          clear hv1
          go_wp2_with fail
          refine (rpath_v nd.path _ hf0 false HV1.out).mono ?_
          rintro e w1 ⟨rfl, ho1⟩; clear c0
          go_wp2_with fail
          go_ret
          exact ⟨by rw [chkV, HBAD.out (rok_of false true true HV1.out (fun h => by cases h) (fun h => by cases h) (fun h => by cases h))]; rfl, ho.trans_nil ho1⟩
        have HV1 := Lib.hid hv1; clear hv1
        cases hv2 : rightN nd
        · have HV2 := Lib.hid hv2
          clear hv2
          go_wp2_with fail
          refine (rpath_v nd.path _ hf0 true HV1.out).mono ?_
          rintro e w1 ⟨rfl, ho1⟩; clear c0; have hna1 := HNA.out.off ho1 habk; have c0 := hna1.path; have c1 := hna1.kind; have c2 := hna1.data; have c3 := hna1.mode; clear hna1
          go_wp2_with fail
          refine (rright_v nd _ hf1 false HV2.out).mono ?_
          rintro e w2 ⟨rfl, ho2⟩; clear c0 c1 c2 c3
          go_wp2_with fail
          go_ret
          exact ⟨by rw [chkV, HBAD.out (rok_of true false true HV1.out (fun _ => HV2.out) (fun _ h => by cases h) (fun _ h => by cases h))]; rfl, (ho.trans_nil ho1).trans_nil ho2⟩
        have HV2 := Lib.hid hv2; clear hv2
        go_wp2_with fail
        refine (rpath_v nd.path _ hf0 true HV1.out).mono ?_
        rintro e w1 ⟨rfl, ho1⟩; clear c0; have hna1 := HNA.out.off ho1 habk; have hab1 := Nat.lt_of_lt_of_le habk ho1.size; have c0 := hna1.path; have c1 := hna1.kind; have c2 := hna1.data; have c3 := hna1.mode; have HNA1 := Lib.hid hna1; clear hna1
        go_wp2_with fail
        refine (rright_v nd _ hf1 true HV2.out).mono ?_
        rintro e w2 ⟨rfl, ho2⟩; clear c0 c1 c2 c3; have c0 := (HNA1.out.off ho2 hab1).path; have HNA2 := Lib.hid (HNA1.out.off ho2 hab1); have hv3' : ∀ v, rdir t (parent (str nd.path)) = v → rdir t (str (bs (parent (str nd.path)))) = v := fun v h => by rw [str_bs]; exact h
        go_wp2_with fail
        refine (rparent_any nd.path _ hf0).mono ?_
        rintro e w3 ⟨rfl, ho3⟩; clear c0; have hoA := (((ho.trans_nil ho1).trans_nil ho2).trans_nil ho3); have hab2 := Nat.lt_of_lt_of_le hab1 ho2.size; have HNA3 := Lib.hid (HNA2.out.off ho3 hab2); have hab3 := Nat.lt_of_lt_of_le hab2 ho3.size
        go_wp2_with fail
        cases hv3 : rdir t (parent (str nd.path))
        · have HV3 := Lib.hid hv3
          refine (rdir_v (some a) t n cap _ _ (HR.out.off hoA) HN.out hbig false (hv3' _ hv3)).mono ?_
          rintro e w4 ⟨rfl, ho4⟩; clear hv3 hv3'
          go_wp2_with fail
          go_ret
          exact ⟨by rw [chkV, HBAD.out (rok_of true true false HV1.out (fun _ => HV2.out) (fun _ _ => HV3.out) (fun _ _ h => by cases h))]; rfl, hoA.trans_nil ho4⟩
        have HV3 := Lib.hid hv3; refine (rdir_v (some a) t n cap _ _ (HR.out.off hoA) HN.out hbig true (hv3' _ hv3)).mono ?_; rintro e w4 ⟨rfl, ho4⟩; clear hv3 hv3'; have hoB := hoA.trans_nil ho4; have HNA4 := Lib.hid (HNA3.out.off ho4 hab3); have hab4 := Nat.lt_of_lt_of_le hab3 ho4.size; clear ho1 ho2 ho3 ho4 hab1 hab2 hab3 hoA
        by_cases hk0 : k = 0
        · have H3 := Lib.hid (show lastOk (t.take k) nd = true from lastOk_none (by rw [hk0]; simp))
          have hkz : ¬ ((0 : Int) < (k : Int)) := by omega
          have hkz' : ¬ (0 < k) := by omega
          clear hk0
          go_wp2_with fail
          refine wp_region_ext (by kernel_rfl) (by kernel_rfl) ?_
          repeat (go_big_quiet_step (fail))
          refine wpQuiet_nil ?_
          rintro W2 ⟨x, rfl⟩; have hoE := hoB.trans_nil (ext_off w4 x); generalize ext w4 x = W2 at *
          go_wp2_with fail
          refine ⟨⟨k + 1, by congr 1, by omega, hoE, Lib.hid (HGOOD.out ?_)⟩, by simp only [intOf]; omega⟩
          unfold rok; have e1 : okPath nd.p = true := HV1.out
          have e3 : rdir t (parent nd.p) = true := HV3.out
          rw [e1, HV2.out, e3, H3.out]; rfl
        obtain ⟨j, rfl⟩ : ∃ j, k = j + 1 := ⟨k - 1, by omega⟩
        clear hk0; have hjl : j < t.length := by omega
        obtain ⟨a', ea, hnp, hblk⟩ := HR.out.get j hjl; have ea : a' = a := (Option.some.inj ea).symm
        subst ea; have hpfit := (HF.out _ (List.getElem_mem hjl)).1; have hlast : (t.take (j + 1)).getLast? = some t[j] := by rw [List.take_succ_eq_append_getElem hjl, List.getLast?_concat]
        have HLAST := Lib.hid hlast; generalize t[j] = pn at *; have hblk0 : (a'.add (j * 4)).block < w.heap.size := by rw [add_block]; exact hblk
        have hpb : (a'.add (j * 4)).block < w4.heap.size := Nat.lt_of_lt_of_le hblk0 hoB.size
        have hpc := (hoB.cell (p := a'.add (j * 4)) hblk0 (by simp)).trans hnp.path; have hnc := HNA4.out.path; clear ea hnp hlast; obtain ⟨c, hc⟩ : ∃ c, order (str pn.path) (str nd.path) = c := ⟨_, rfl⟩
        have HC := Lib.hid hc; clear hc; have hwj : IntKind.i64.wrap (j : Int) = j := by rw [IntWalk.i64_in] <;> omega
        have hj0 : (0 : Int) ≤ j := by omega
        have hj1 : (j : Int) < n := by omega
        have hx := fun (x : World) (p : Addr) (hp : p.block < w4.heap.size) => ext_cell hp x
        by_cases hc0 : 0 ≤ c
        · go_wp2_with fail
          refine wp_region_ext (by kernel_rfl) (by kernel_rfl) ?_
          repeat (go_big_quiet_step (first
            | (go_at_call 112; exact Calls.ext_of (rorder_v pn.path nd.path _ hpfit hf0 c HC.out))))
          refine wpQuiet_nil ?_
          rintro W2 ⟨x, rfl⟩; have hoE := hoB.trans_nil (ext_off w4 x); clear hx hpb hpc hnc; generalize ext w4 x = W2 at *
          go_wp2_with fail
          go_ret
          refine ⟨?_, hoE⟩
          have hb : rok t (t.take (j + 1)) nd = false := by
            unfold rok; have e4 : lastOk (t.take (j + 1)) nd = false := by
              rw [lastOk_some HLAST.out]; have : order pn.p nd.p = c := HC.out
              rw [this]; exact decide_eq_false (by omega)
            rw [e4]; simp
          rw [chkV, HBAD.out hb]; rfl
        have hcd : decide (0 ≤ c) = false := decide_eq_false hc0
        go_wp2_with fail
        refine wp_region_ext (by kernel_rfl) (by kernel_rfl) ?_
        repeat (go_big_quiet_step (first
          | (go_at_call 112; exact Calls.ext_of (rorder_v pn.path nd.path _ hpfit hf0 c HC.out))))
        refine wpQuiet_nil ?_
        rintro W2 ⟨x, rfl⟩; have hoE := hoB.trans_nil (ext_off w4 x); clear hx hpb hpc hnc; generalize ext w4 x = W2 at *
        go_wp2_with fail
        refine ⟨⟨j + 1 + 1, by congr 1, by omega, hoE, Lib.hid (HGOOD.out ?_)⟩, by simp only [intOf]; omega⟩
        unfold rok; have e1 : okPath nd.p = true := HV1.out
        have e3 : rdir t (parent nd.p) = true := HV3.out
        have e4 : lastOk (t.take (j + 1)) nd = true := by
          rw [lastOk_some HLAST.out]; have : order pn.p nd.p = c := HC.out
          rw [this]; exact decide_eq_true (by omega)
        rw [e1, HV2.out, e3, e4]; rfl
      obtain rfl : k = n := by omega
      go_wp2_with fail
      go_ret
      have hall : okTree t = true := RokTo.tree (by rw [HN.out]; exact hlen) (by rw [HN.out]; exact hok.out)
      exact ⟨by rw [chkV, hall]; rfl, ho⟩
  go_enter Tryz.func55, Tryz.ntmps55
  go_wp2_with fail
  go_ret
  have hbad : okTree t = false := by unfold okTree; rw [HN.out]; simp [hlen]
  exact ⟨by rw [chkV, hbad]; rfl, Off.refl _ _⟩
end
section
open Go.RowKit Go.Op
instance : DecidableEq Node := fun a b => by
  rcases a with ⟨a1, a2, a3, a4⟩
  rcases b with ⟨b1, b2, b3, b4⟩
  exact decidable_of_iff (a1 = b1 ∧ a2 = b2 ∧ a3 = b3 ∧ a4 = b4) (by simp)
theorem toList_iff {x y : ByteArray} : x.toList = y.toList ↔ x = y := ⟨fun h => str_inj (by rwa [toList_str, toList_str] at h), fun h => by rw [h]⟩
theorem eqNode (x y : Node) (w : World) : (Op.equalIn 10000 30 (.agg #[.string x.path, .int .i64 x.kind, .string x.data, .int .i64 x.mode]) (.agg #[.string y.path, .int .i64 y.kind, .string y.data, .int .i64 y.mode])).run Tryz.prog w = .ok (decide (x = y)) w := by
  have u3 := Tryz.underlying3; have a3 := Tryz.isAgg3; have z3 := Tryz.sizeOf3; have u9 := Tryz.underlying9; have a9 := Tryz.isAgg9; have z9 := Tryz.sizeOf9; have hS : Tryz.prog.underlying 30 = some (.struct (Tryz.prog.fieldsOf 30)) := by kernel_rfl
  have hp : Tryz.prog.stoodInHeld 30 = false := by kernel_rfl
  rw [show (10000 : Nat) = 9999 + 1 from rfl, run_equalIn_agg w 9999 30 _ _ hS hp]; simp only [Program.fieldsOf, Tryz.underlying30]
  go_simp
  obtain ⟨x1, x2, x3, x4⟩ := x; obtain ⟨y1, y2, y3, y4⟩ := y
  by_cases h1 : x1 = y1 <;> by_cases h2 : x2 = y2 <;> by_cases h3 : x3 = y3 <;> by_cases h4 : x4 = y4 <;> simp [toList_iff, h1, h2, h3, h4]
set_option maxRecDepth 100000 in
set_option maxHeartbeats 4000000 in
theorem rsame_any (L M : List Node) (p q : Option Addr) (c d : Nat) (w : World) (hL : L.length ≤ 1099511627776) (hM : M.length ≤ 1099511627776) (hp : Row w p L) (hq : Row w q M) :
    Calls Tryz.prog 16 #[.slice p L.length c, .slice q M.length d] w fun e w' => e = .returned (.bool (decide (L = M))) ∧ Off [] w w' := by
  obtain ⟨l, hl⟩ : ∃ l, L.length = l := ⟨_, rfl⟩
  obtain ⟨m, hm⟩ : ∃ m, M.length = m := ⟨_, rfl⟩
  rw [hl, hm]; rw [hl] at hL; rw [hm] at hM; have HP := Lib.hid hp; have HQ := Lib.hid hq; have HL := Lib.hid hl; have HM := Lib.hid hm; clear hp hq hl hm
  by_cases hlm : l = m
  · subst hlm
    go_enter Tryz.func16, Tryz.ntmps16
    go_wp2_with fail
    go_loopw [5] (fun x wr => ∃ i : Nat, x = .int .i64 i ∧ i ≤ l ∧ Off [] w wr ∧ Hid (L.take i = M.take i)) (fun x _ => l - (intOf x).toNat)
    case atStart => exact ⟨0, rfl, by omega, Off.refl _ _, Lib.hid rfl⟩
    case round =>
      obtain ⟨i, rfl, hi, ho, htk⟩ := hrel
      by_cases hlt : i < l
      · have hi1 := List.getElem?_eq_getElem (show i < L.length by rw [HL.out]; exact hlt)
        have hi2 := List.getElem?_eq_getElem (show i < M.length by rw [HM.out]; exact hlt); obtain ⟨a, rfl, hna, hab⟩ := (HP.out.off ho).get i (show i < L.length by rw [HL.out]; exact hlt); obtain ⟨b, rfl, hnb, hbb⟩ := (HQ.out.off ho).get i (show i < M.length by rw [HM.out]; exact hlt); generalize L[i]'(by rw [HL.out]; exact hlt) = x at *
        generalize M[i]'(by rw [HM.out]; exact hlt) = y at *
        have c0 := hna.path; have c1 := hna.kind; have c2 := hna.data; have c3 := hna.mode; have d0 := hnb.path; have d1 := hnb.kind; have d2 := hnb.data; have d3 := hnb.mode; have heq := eqNode x y; have hgd : Tryz.prog.eqGuardType Tryz.prog.depth 30 = false := by kernel_rfl
        have HI1 := Lib.hid hi1; have HI2 := Lib.hid hi2; have habk : (a.add (i * 4)).block < wr.heap.size := by rw [add_block]; exact hab
        have hbbk : (b.add (i * 4)).block < wr.heap.size := by rw [add_block]; exact hbb
        clear hna hnb hi1 hi2
        by_cases hxy : x = y
        · have hd : decide (x = y) = true := decide_eq_true hxy
          have HXY := Lib.hid hxy; rw [hd] at heq; clear hxy hd
          go_wp2_with fail
          go_quiet (fail)
          go_wp2_with fail
          refine ⟨⟨i + 1, by congr 1, by omega, ho.drewN _, Lib.hid ?_⟩, by simp only [intOf]; omega⟩
          rw [take_get HI1.out, take_get HI2.out, htk.out, HXY.out]
        have hd : decide (x = y) = false := decide_eq_false hxy
        have HXY := Lib.hid hxy; rw [hd] at heq; clear hxy hd
        go_wp2_with fail
        go_quiet (fail)
        go_wp2_with fail
        go_ret
        have hne : L ≠ M := fun e => by
          have h1 := HI1.out; rw [e, HI2.out] at h1; exact HXY.out (Option.some.inj h1).symm
        exact ⟨by rw [decide_eq_false hne]; rfl, ho.drewN _⟩
      obtain rfl : i = l := by omega
      go_wp2_with fail
      go_ret
      have he : L = M := by
        have := htk.out; rw [List.take_of_length_le (by rw [HL.out]; exact Nat.le_refl _), List.take_of_length_le (by rw [HM.out]; exact Nat.le_refl _)] at this; exact this
      exact ⟨by rw [decide_eq_true he]; rfl, ho⟩
  have hne : L ≠ M := fun e => hlm (by rw [← HL.out, ← HM.out, e])
  have HNE := Lib.hid hne; clear hne
  go_enter Tryz.func16, Tryz.ntmps16
  go_wp2_with fail
  go_ret
  exact ⟨by rw [decide_eq_false HNE.out]; rfl, Off.refl _ _⟩
set_option maxRecDepth 100000 in
set_option maxHeartbeats 4000000 in
theorem equal_any (L M : List Node) (p q : Option Addr) (c d : Nat) (w : World) (hL : L.length ≤ 1099511627776) (hM : M.length ≤ 1099511627776) (hp : Row w p L) (hq : Row w q M) :
    Calls Tryz.prog 196 #[.slice p L.length c, .slice q M.length d] w fun e w' => e = .returned (.bool (decide (L = M))) ∧ Off [] w w' := by
  obtain ⟨l, hl⟩ : ∃ l, L.length = l := ⟨_, rfl⟩
  obtain ⟨m, hm⟩ : ∃ m, M.length = m := ⟨_, rfl⟩
  rw [hl, hm]; rw [hl] at hL; rw [hm] at hM; have HP := Lib.hid hp; have HQ := Lib.hid hq; have HL := Lib.hid hl; have HM := Lib.hid hm; clear hp hq hl hm
  by_cases hlm : l = m
  · subst hlm
    go_enter Tryz.func196, Tryz.ntmps196
    go_wp2_with fail
    go_loopw [13] (fun x wr => ∃ i : Nat, x = .int .i64 i ∧ i ≤ l ∧ Off [] w wr ∧ Hid (L.take i = M.take i)) (fun x _ => l - (intOf x).toNat)
    case atStart => exact ⟨0, rfl, by omega, Off.refl _ _, Lib.hid rfl⟩
    case round =>
      obtain ⟨i, rfl, hi, ho, htk⟩ := hrel
      by_cases hlt : i < l
      · have hi1 := List.getElem?_eq_getElem (show i < L.length by rw [HL.out]; exact hlt)
        have hi2 := List.getElem?_eq_getElem (show i < M.length by rw [HM.out]; exact hlt); obtain ⟨a, rfl, hna, hab⟩ := (HP.out.off ho).get i (show i < L.length by rw [HL.out]; exact hlt); obtain ⟨b, rfl, hnb, hbb⟩ := (HQ.out.off ho).get i (show i < M.length by rw [HM.out]; exact hlt); generalize L[i]'(by rw [HL.out]; exact hlt) = x at *
        generalize M[i]'(by rw [HM.out]; exact hlt) = y at *
        have c0 := hna.path; have c1 := hna.kind; have c2 := hna.data; have c3 := hna.mode; have d0 := hnb.path; have d1 := hnb.kind; have d2 := hnb.data; have d3 := hnb.mode; have heq := eqNode x y; have hgd : Tryz.prog.eqGuardType Tryz.prog.depth 30 = false := by kernel_rfl
        have HI1 := Lib.hid hi1; have HI2 := Lib.hid hi2; have habk : (a.add (i * 4)).block < wr.heap.size := by rw [add_block]; exact hab
        have hbbk : (b.add (i * 4)).block < wr.heap.size := by rw [add_block]; exact hbb
        clear hna hnb hi1 hi2
        by_cases hxy : x = y
        · have hd : decide (x = y) = true := decide_eq_true hxy
          have HXY := Lib.hid hxy; rw [hd] at heq; clear hxy hd
          go_wp2_with fail
          go_quiet (fail)
          go_wp2_with fail
          refine ⟨⟨i + 1, by congr 1, by omega, ho.drewN _, Lib.hid ?_⟩, by simp only [intOf]; omega⟩
          rw [take_get HI1.out, take_get HI2.out, htk.out, HXY.out]
        have hd : decide (x = y) = false := decide_eq_false hxy
        have HXY := Lib.hid hxy; rw [hd] at heq; clear hxy hd
        go_wp2_with fail
        go_quiet (fail)
        go_wp2_with fail
        go_ret
        have hne : L ≠ M := fun e => by
          have h1 := HI1.out; rw [e, HI2.out] at h1; exact HXY.out (Option.some.inj h1).symm
        exact ⟨by rw [decide_eq_false hne]; rfl, ho.drewN _⟩
      obtain rfl : i = l := by omega
      go_wp2_with fail
      go_ret
      have he : L = M := by
        have := htk.out; rw [List.take_of_length_le (by rw [HL.out]; exact Nat.le_refl _), List.take_of_length_le (by rw [HM.out]; exact Nat.le_refl _)] at this; exact this
      exact ⟨by rw [decide_eq_true he]; rfl, ho⟩
  have hne : L ≠ M := fun e => hlm (by rw [← HL.out, ← HM.out, e])
  have HNE := Lib.hid hne; clear hne
  go_enter Tryz.func196, Tryz.ntmps196
  go_wp2_with fail
  go_ret
  exact ⟨by rw [decide_eq_false HNE.out]; rfl, Off.refl _ _⟩
set_option maxRecDepth 100000 in
theorem same_any (L M : List Node) (p q : Option Addr) (c d : Nat) (w : World) (hL : L.length ≤ 1099511627776) (hM : M.length ≤ 1099511627776) (hp : Row w p L) (hq : Row w q M) :
    Calls Tryz.prog 142 #[.slice p L.length c, .slice q M.length d] w fun e w' => e = .returned (.bool (decide (L = M))) ∧ Off [] w w' := by
  have HE := Lib.hid (equal_any L M p q c d w hL hM hp hq)
  go_enter Tryz.func142, Tryz.ntmps142
  go_wp2_with fail
  refine HE.out.mono ?_
  rintro e w1 ⟨rfl, ho⟩
  go_wp2_with fail
  go_ret
  exact ⟨rfl, ho⟩
end
section
open Go.RowKit Go.Op
end
section
open Go.RowKit Go.Op
theorem rcheck_v (p : Option Addr) (t : List Node) (n cap : Nat) (w : World) (hR : Row w p t) (hn : t.length = n) (hbig : n ≤ 1099511627776) (hF : Fits1 t) (c : Int) (hc : chkV t = c) :
    Calls Tryz.prog 55 #[.slice p n cap] w fun e w' => e = .returned (.int .i64 c) ∧ Off [] w w' := hc ▸ rcheck_any p t n cap w hR hn hbig hF
end
section
open Go.RowKit Go.Op
def cellsOf (t : List Node) : List Value := t.flatMap fun n => [.string n.path, .int .i64 n.kind, .string n.data, .int .i64 n.mode]
theorem cellsOf_len (t : List Node) : (cellsOf t).length = t.length * 4 := by
  unfold cellsOf; rw [List.length_flatMap]; induction t with | nil => rfl | cons n t ih => simp at ih ⊢; omega
theorem cellsOf_append (a b : List Node) : cellsOf (a ++ b) = cellsOf a ++ cellsOf b := by unfold cellsOf; rw [List.flatMap_append]
theorem cellsOf_get : ∀ (t : List Node) (j : Nat) (u : Value), (cellsOf t)[j]? = some u → ∃ (i r : Nat) (n : Node), j = i * 4 + r ∧ r < 4 ∧ t[i]? = some n ∧ [Value.string n.path, .int .i64 n.kind, .string n.data, .int .i64 n.mode][r]? = some u
  | [], j, u, h => by simp [cellsOf] at h
  | n :: t, j, u, h => by
    have e : cellsOf (n :: t) = [Value.string n.path, .int .i64 n.kind, .string n.data, .int .i64 n.mode] ++ cellsOf t := by simp [cellsOf]
    rw [e] at h
    rcases Nat.lt_or_ge j 4 with hj | hj
    · rw [List.getElem?_append_left (by simpa using hj)] at h
      exact ⟨0, j, n, by omega, hj, rfl, h⟩
    rw [List.getElem?_append_right (by simpa using hj)] at h; obtain ⟨i, r, m, h1, h2, h3, h4⟩ := cellsOf_get t _ u h; simp at h1; exact ⟨i + 1, r, m, by omega, h2, by simpa using h3, h4⟩
theorem Row.cells {w : World} {a : Addr} {t : List Node} (h : Row w (some a) t) {j : Nat} {u : Value} (hj : (cellsOf t)[j]? = some u) : w.cell? (a.add j) = some u := by
  obtain ⟨i, r, n, rfl, hr, hi, hu⟩ := cellsOf_get t j u hj; obtain ⟨a', ha, _, hn⟩ := h (fun e => by subst e; simp at hi)
  cases ha
  have hn := hn i n hi; rw [← Go.Deep.add_add]
  match r, hr, hu with
  | 0, _, hu => cases hu; rw [show (a.add (i * 4)).add 0 = a.add (i * 4) by rw [Go.Deep.add_add]; rfl]; exact hn.path
  | 1, _, hu => cases hu; exact hn.kind
  | 2, _, hu => cases hu; exact hn.data
  | 3, _, hu => cases hu; exact hn.mode
theorem cellsOf_one {t : List Node} : ∀ u ∈ cellsOf t, u.oneCell' = true := by
  intro u hu
  unfold cellsOf at hu; rw [List.mem_flatMap] at hu; obtain ⟨n, _, hn⟩ := hu; simp only [List.mem_cons, List.not_mem_nil, or_false] at hn
  rcases hn with rfl | rfl | rfl | rfl <;> rfl
theorem own_row {W : World} {base : Nat} {v : Value} {t : List Node} (h : W.ownsRow base 30 4 v t.length (cellsOf t)) :
    ∃ p cap, v = .slice p t.length cap ∧ Row W p t ∧ t.length ≤ cap ∧ (p = none → t = [] ∧ cap = 0) ∧ ∀ a, p = some a → base ≤ a.block := by
  rcases h.2 with ⟨rfl, h1⟩ | ⟨g, cap, cur, rfl, hb, hh, hc, _, hsz, ht⟩
  · have h2 := List.length_eq_zero_iff.1 h1
    subst h2; exact ⟨none, 0, rfl, fun h => absurd rfl h, Nat.le_refl _, fun _ => ⟨rfl, rfl⟩, fun a h => by cases h⟩
  refine ⟨some ⟨g, 0, none⟩, cap, rfl, fun _ => ⟨⟨g, 0, none⟩, rfl, (Array.getElem?_eq_some_iff.1 hh).1, fun i n hi => ?_⟩, hc, fun h => (by cases h), fun a h => by cases h; exact hb⟩
  have hil := (List.getElem?_eq_some_iff.1 hi).1; have key : ∀ r : Nat, r < 4 → W.cell? ⟨g, i * 4 + r, none⟩ = (cellsOf t)[i * 4 + r]? := fun r hr => by
    rw [cell_of_row W g _ cur 30 (0, 0) hh, ← ht, List.getElem?_take, if_pos (by omega)]; simp
  have hcell : ∀ (t : List Node) (i : Nat) (n : Node), t[i]? = some n → ∀ r, r < 4 → (cellsOf t)[i * 4 + r]? = [Value.string n.path, .int .i64 n.kind, .string n.data, .int .i64 n.mode][r]? := fun t => by
    induction t with
    | nil => intro i n h; simp at h
    | cons m t ih =>
      intro i n h r hr
      have e : cellsOf (m :: t) = [Value.string m.path, .int .i64 m.kind, .string m.data, .int .i64 m.mode] ++ cellsOf t := by simp [cellsOf]
      rw [e]
      cases i with
      | zero => simp at h; subst h; rw [Nat.zero_mul, Nat.zero_add, List.getElem?_append_left (by simpa using hr)]
      | succ i =>
        rw [List.getElem?_append_right (by simp; omega)]; have := ih i n (by simpa using h) r hr; rw [← this]
        congr 1
        simp; omega
  rw [addr_add]; exact ⟨(key 0 (by omega)).trans (hcell t i n hi 0 (by omega)), (key 1 (by omega)).trans (hcell t i n hi 1 (by omega)), (key 2 (by omega)).trans (hcell t i n hi 2 (by omega)), (key 3 (by omega)).trans (hcell t i n hi 3 (by omega))⟩
theorem own_base {W : World} {b b' e sz n : Nat} {v : Value} {xs : List Value} (h : W.ownsRow b e sz v n xs) (hb : b' ≤ b) : W.ownsRow b' e sz v n xs := by
  refine ⟨h.1, ?_⟩
  rcases h.2 with h | ⟨g, cap, cur, h1, h2, h3⟩
  · exact .inl h
  exact .inr ⟨g, cap, cur, h1, Nat.le_trans hb h2, h3⟩
theorem own_grown {w wr W6 : World} {e sz n : Nat} {v : Value} {xs : List Value} (ho : Off [] w wr) (hown : wr.ownsRow w.heap.size e sz v n xs) (hg : wr.grownBy W6 v.ownBlock) : Off [] w W6 := by
  refine ho.grown hg (fun g hg' => .inl ?_)
  rcases hown.2 with ⟨rfl, _⟩ | ⟨g', cap, cur, rfl, hb, _⟩
  · cases hg'
  cases hg'; exact hb
abbrev Pt := Option Addr × List Node × Nat
structure PtsAt (w : World) (g : Nat) (L : List Pt) : Prop where
  lt : g < w.heap.size
  at_ : ∀ (i : Nat) (x : Pt), L[i]? = some x → w.cell? ⟨g, i, none⟩ = some (.slice x.1 x.2.1.length x.2.2) ∧ Row w x.1 x.2.1 ∧ (x.1 = none → x.2.1 = [] ∧ x.2.2 = 0)
theorem PtsAt.off {w w' : World} {g : Nat} {L : List Pt} (h : PtsAt w g L) (ho : Off [] w w') : PtsAt w' g L :=
  ⟨Nat.lt_of_lt_of_le h.lt ho.size, fun i x hi => ⟨(ho.cell (p := ⟨g, i, none⟩) h.lt (by simp)).trans (h.at_ i x hi).1, (h.at_ i x hi).2.1.off ho, (h.at_ i x hi).2.2⟩⟩
def nodesIn (L : List Pt) : List Node := L.flatMap fun x => x.2.1
theorem nodesIn_take {L : List Pt} {i : Nat} {x : Pt} (h : L[i]? = some x) : nodesIn (L.take (i + 1)) = nodesIn (L.take i) ++ x.2.1 := by
  unfold nodesIn; rw [take_get h, List.flatMap_append]; simp
theorem nodesIn_le (L : List Pt) (i : Nat) : (nodesIn (L.take i)).length ≤ (nodesIn L).length := by
  conv => rhs; rw [← List.take_append_drop i L]
  unfold nodesIn; rw [List.flatMap_append, List.length_append]; omega
end
end Go.Proofs.YtoicjadioiomkaaGreatDoor
