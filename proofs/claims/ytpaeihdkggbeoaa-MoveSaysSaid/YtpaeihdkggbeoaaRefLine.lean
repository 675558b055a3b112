/- The walks of the reference's frame of a message, told by its size. Conditions: texts of at most 2^20 bytes. -/
import Derived.Test.YtpaeihdkggbeoaaCrc
namespace Go.Proofs.Ytpaeihdkggbeoaa
open Go.RowKit Go.Op

set_option maxRecDepth 100000 in
theorem rfour (v : Int) (w : World) : Calls Try.prog 46 #[.int .u32 v] w (SizePost w 4) := by
  have hcv := four_cv w
  go_enter Try.func46, Try.ntmps46
  go_wp2
  go_ret
  exact ⟨⟨_, strOfNums_size _, rfl⟩, (Off.refl _ _).alloc _⟩

set_option maxRecDepth 100000 in
set_option maxHeartbeats 2000000 in
theorem rcrc (s : ByteArray) (w : World) (hs : s.size < 1099511627776) : Calls Try.prog 47 #[.string s] w (CrcPost w) := by
  go_enter Try.func47, Try.ntmps47
  go_wp2_with fail
  go_loop [3, 4] (fun v i => ∃ m : Nat, m ≤ s.size ∧ i = .int .i64 m ∧ ∃ x, v = .int .u32 x) (fun _ i => s.size - (intOf i).toNat)
  case atStart => exact ⟨0, by omega, rfl, _, rfl⟩
  case round =>
    obtain ⟨m, hm, rfl, x, rfl⟩ := hrel
    by_cases hms : m < s.size
    · go_wp2_with fail
      go_loop [3, 5] (fun v i => ∃ k : Nat, k ≤ 8 ∧ i = .int .i64 k ∧ ∃ x, v = .int .u32 x) (fun _ i => 8 - (intOf i).toNat)
      case atStart => exact ⟨0, by omega, rfl, _, rfl⟩
      case round =>
        obtain ⟨k, hk, rfl, z, rfl⟩ := hrel
        by_cases hk8 : k < 8
        · go_wp2_with fail
          all_goals
            go_round
            case rel => exact ⟨k + 1, by omega, by go_num, _, rfl⟩
            case measure => simp [intOf]; omega
        · go_wp2_with fail
          go_round
          case rel => exact ⟨m + 1, by omega, by go_num, _, rfl⟩
          case measure => simp [intOf]; omega
    · go_wp2_with fail
      go_ret
      exact ⟨⟨_, rfl⟩, Off.refl _ _⟩

set_option maxRecDepth 100000 in
theorem rmore (n : Nat) (p : ByteArray) (w : World) (hn : n ≤ 1048576) (hp : p.size ≤ 1048576) : Calls Try.prog 29 #[.int .i64 n, .string p] w (MorePost w (12 + p.size)) := by
  go_enter Try.func29, Try.ntmps29
  go_wp2_with fail
  refine (rfour _ _).mono ?_
  rintro e w1 ⟨⟨s1, hs1, rfl⟩, ho1⟩
  go_wp2_with fail
  refine (rcrc _ _ (by omega)).mono ?_
  rintro e w2 ⟨⟨v2, rfl⟩, ho2⟩
  go_wp2_with fail
  refine (rfour _ _).mono ?_
  rintro e w3 ⟨⟨s3, hs3, rfl⟩, ho3⟩
  have ha1 : ∀ wx : World, (Op.stringOp .add s1 s3).run Try.prog wx = .ok (.string (s1 ++ s3)) wx := fun wx => run_string_add_sum wx s1 s3 (by omega)
  go_wp2_with fail
  refine (rfour _ _).mono ?_
  rintro e w4 ⟨⟨s4, hs4, rfl⟩, ho4⟩
  have ha2 : ∀ wx : World, (Op.stringOp .add s4 p).run Try.prog wx = .ok (.string (s4 ++ p)) wx := fun wx => run_string_add_sum wx s4 p (by omega)
  go_wp2_with fail
  refine (rcrc _ _ (by rw [ByteArray.size_append]; omega)).mono ?_
  rintro e w5 ⟨⟨v5, rfl⟩, ho5⟩
  go_wp2_with fail
  refine (rfour _ _).mono ?_
  rintro e w6 ⟨⟨s6, hs6, rfl⟩, ho6⟩
  have z1 : (s1 ++ s3).size = 8 := by rw [ByteArray.size_append]; omega
  have z2 : (s1 ++ s3 ++ s6).size = 12 := by rw [ByteArray.size_append]; omega
  have ha3 : ∀ wx : World, (Op.stringOp .add (s1 ++ s3) s6).run Try.prog wx = .ok (.string (s1 ++ s3 ++ s6)) wx := fun wx => run_string_add_sum wx (s1 ++ s3) s6 (by omega)
  have ha4 : ∀ wx : World, (Op.stringOp .add (s1 ++ s3 ++ s6) p).run Try.prog wx = .ok (.string (s1 ++ s3 ++ s6 ++ p)) wx := fun wx => run_string_add_sum wx (s1 ++ s3 ++ s6) p (by omega)
  have Z2 := Lib.hid z2
  clear z1 z2
  go_wp2_with fail
  go_ret2
  exact ⟨⟨_, by rw [ByteArray.size_append, Z2.out], rfl⟩, ((((ho1.trans_nil ho2).trans_nil ho3).trans_nil ho4).trans_nil ho5).trans_nil ho6⟩
end Go.Proofs.Ytpaeihdkggbeoaa
