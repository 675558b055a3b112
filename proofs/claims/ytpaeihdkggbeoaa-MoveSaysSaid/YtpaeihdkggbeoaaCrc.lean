/- The walks of the check sum and of a number in four bytes, told by their sizes alone. Conditions: texts of less than 2^40 bytes. -/
import Derived.Test.YtpaeihdkggbeoaaCode
namespace Go.Proofs.Ytpaeihdkggbeoaa
open Go.RowKit Go.Op

theorem and15 (x : Int) : ∃ n : Nat, n < 16 ∧ bits BinOp.and IntKind.u32 x 15 = (n : Int) := by
  refine ⟨(BitVec.ofInt 32 x &&& BitVec.ofInt 32 15).toNat, ?_, ?_⟩
  · rw [BitVec.toNat_and]
    have : (BitVec.ofInt 32 15).toNat = 15 := by decide
    rw [this]
    exact Nat.lt_of_le_of_lt Nat.and_le_right (by omega)
  · show IntKind.u32.wrap ((BitVec.ofInt 32 x &&& BitVec.ofInt 32 15).toNat : Int) = _
    have h : (BitVec.ofInt 32 x &&& BitVec.ofInt 32 15).toNat < 4294967296 := (BitVec.ofInt 32 x &&& BitVec.ofInt 32 15).isLt
    generalize (BitVec.ofInt 32 x &&& BitVec.ofInt 32 15).toNat = n at *
    simp [IntKind.wrap, IntKind.bits, IntKind.signed]; omega

def CrcPost (w : World) (e : Ending) (w' : World) : Prop := (∃ v : Int, e = .returned (.int .u32 v)) ∧ Off [] w w'
def TabR (w wr : World) : Prop := Off [] w wr ∧ ∃ cs : Array Value, Blk wr w.heap.size 123 cs ∧ ∀ j : Nat, j < 16 → ∃ v : Int, cs[j]? = some (.int .u32 v)
theorem TabR.set_ {w wr : World} (h : TabR w wr) (k : Nat) (v : Int) : TabR w (wr.setCell ⟨w.heap.size, k, none⟩ (.int .u32 v)) := by
  obtain ⟨ho, cs, hB, hv⟩ := h
  refine ⟨ho.setCell (.inl (Nat.le_refl _)) _, _, hB.set_ k _, fun j hj => ?_⟩
  obtain ⟨u, hu⟩ := hv j hj
  have hlt : j < cs.size := (Array.getElem?_eq_some_iff.1 hu).1
  rw [Array.getElem?_setIfInBounds]
  by_cases hkj : k = j
  · subst hkj
    exact ⟨v, by simp [hlt]⟩
  · exact ⟨u, by simp [hkj, hu]⟩

theorem tab_choose {cs : Array Value} (hv : ∀ j : Nat, j < 16 → ∃ v : Int, cs[j]? = some (.int .u32 v)) : ∃ f : Nat → Int, ∀ j : Nat, j < 16 → cs[j]? = some (.int .u32 (f j)) := by
  refine ⟨fun j => if h : j < 16 then Classical.choose (hv j h) else 0, fun j hj => ?_⟩
  have := Classical.choose_spec (hv j hj)
  simpa [hj] using this
set_option maxRecDepth 100000 in
set_option maxHeartbeats 2000000 in
theorem crc_any (s : ByteArray) (w : World) (hs : s.size < 1099511627776) : Calls Try.prog 52 #[.string s] w (CrcPost w) := by
  go_enter Try.func52, Try.ntmps52
  go_wp2_with fail
  go_loopw [8] (fun i wr => ∃ k : Nat, k ≤ 16 ∧ i = .int .i64 k ∧ TabR w wr) (fun i _ => 16 - (intOf i).toNat)
  case atStart =>
    refine ⟨0, by omega, rfl, (Off.refl _ _).alloc _, _, Blk.new _ _ _, fun j hj => ⟨0, ?_⟩⟩
    match j, hj with
    | 0, _ | 1, _ | 2, _ | 3, _ | 4, _ | 5, _ | 6, _ | 7, _ | 8, _ | 9, _ | 10, _ | 11, _ | 12, _ | 13, _ | 14, _ | 15, _ => rfl
    | n + 16, h => omega
  case round =>
    obtain ⟨k, hk, rfl, hT⟩ := hrel
    obtain ⟨ho, cs, hB, hv⟩ := id hT
    have HT := Lib.hid hT
    clear hT
    have hcB := hB.cell
    have hfB := hB.frozen
    have hlB := hB.lt
    by_cases hlt : k < 16
    · obtain ⟨vk, hvk⟩ := hv k hlt
      clear hv
      go_wp2_with fail
      go_loop [5, 13] (fun a j => ∃ m : Nat, m ≤ 4 ∧ j = .int .i64 m ∧ ∃ v, a = .int .u32 v) (fun _ j => 4 - (intOf j).toNat)
      case atStart => exact ⟨0, by omega, rfl, _, rfl⟩
      case round =>
        obtain ⟨m, hm, rfl, v, rfl⟩ := hrel
        by_cases hm4 : m < 4
        · go_wp2_with fail
          go_round
          case rel => exact ⟨m + 1, by omega, by go_num, _, rfl⟩
          case measure => simp [intOf]; omega
        · go_wp2_with fail
          go_roundw
          case rel => exact ⟨k + 1, by omega, by go_num, HT.out.set_ k v⟩
          case measure => simp [intOf]; omega
    · obtain ⟨f, hf⟩ := tab_choose hv
      have hcell : ∀ x : Int, wr.cell? ⟨w.heap.size, (bits BinOp.and IntKind.u32 x 15).toNat, none⟩ = some (.int .u32 (f (bits BinOp.and IntKind.u32 x 15).toNat)) := fun x => by
        obtain ⟨n, hn, he⟩ := and15 x
        rw [hcB, he]
        exact hf n hn
      have h1 : ∀ x : Int, 0 ≤ bits BinOp.and IntKind.u32 x 15 := fun x => by obtain ⟨n, hn, he⟩ := and15 x; rw [he]; omega
      have h2 : ∀ x : Int, bits BinOp.and IntKind.u32 x 15 < 16 := fun x => by obtain ⟨n, hn, he⟩ := and15 x; rw [he]; omega
      clear hv hcB hfB hf
      go_wp2_with fail
      go_loop [6, 29] (fun v i => ∃ m : Nat, m ≤ s.size ∧ i = .int .i64 m ∧ ∃ x, v = .int .u32 x) (fun _ i => s.size - (intOf i).toNat)
      case atStart => exact ⟨0, by omega, rfl, _, rfl⟩
      case round =>
        obtain ⟨m, hm, rfl, x, rfl⟩ := hrel
        by_cases hms : m < s.size
        · go_wp2_with fail
          go_round
          case rel => exact ⟨m + 1, by omega, by go_num, _, rfl⟩
          case measure => simp [intOf]; omega
        · go_wp2_with fail
          go_ret
          exact ⟨⟨_, rfl⟩, ho⟩

def SizePost (w : World) (n : Nat) (e : Ending) (w' : World) : Prop := (∃ s : ByteArray, s.size = n ∧ e = .returned (.string s)) ∧ Off [] w w'
theorem four_cv (w : World) (a b c d : Int) : (convert 113 9 (.slice (some ⟨w.heap.size, 0, none⟩) 4 4)).run Try.prog (w.alloc (.cells #[.int .u8 a, .int .u8 b, .int .u8 c, .int .u8 d] 5)) =
    .ok (.string (strOfNums [a, b, c, d])) (w.alloc (.cells #[.int .u8 a, .int .u8 b, .int .u8 c, .int .u8 d] 5)) := by
  refine run_convert_bytes_arg _ 113 5 Try.underlying113 Try.underlying5 w.heap.size 0 4 4 [a, b, c, d] rfl (fun i hi => ?_) 9 Try.underlying9
  rw [Nat.zero_add, (Blk.new w _ _).cell i]
  match i, hi with
  | 0, _ | 1, _ | 2, _ | 3, _ => rfl
  | n + 4, h => omega
set_option maxRecDepth 100000 in
theorem four_any (v : Int) (w : World) : Calls Try.prog 51 #[.int .u32 v] w (SizePost w 4) := by
  have hcv := four_cv w
  go_enter Try.func51, Try.ntmps51
  go_wp2
  go_ret
  exact ⟨⟨_, strOfNums_size _, rfl⟩, (Off.refl _ _).alloc _⟩

def MorePost (w : World) (n : Nat) (e : Ending) (w' : World) : Prop := (∃ s : ByteArray, s.size = n ∧ e = .returned (.tuple #[.string s, .int .i64 0])) ∧ Off [] w w'
set_option maxRecDepth 100000 in
theorem more_any (n : Nat) (p : ByteArray) (w : World) (hn : n ≤ 1048576) (hp : p.size ≤ 1048576) : Calls Try.prog 33 #[.int .i64 n, .string p] w (MorePost w (12 + p.size)) := by
  go_enter Try.func33, Try.ntmps33
  go_wp2_with fail
  refine (four_any _ _).mono ?_
  rintro e w1 ⟨⟨s1, hs1, rfl⟩, ho1⟩
  go_wp2_with fail
  refine (crc_any _ _ (by omega)).mono ?_
  rintro e w2 ⟨⟨v2, rfl⟩, ho2⟩
  go_wp2_with fail
  refine (four_any _ _).mono ?_
  rintro e w3 ⟨⟨s3, hs3, rfl⟩, ho3⟩
  have ha1 : ∀ wx : World, (Op.stringOp .add s1 s3).run Try.prog wx = .ok (.string (s1 ++ s3)) wx := fun wx => run_string_add_sum wx s1 s3 (by omega)
  go_wp2_with fail
  refine (four_any _ _).mono ?_
  rintro e w4 ⟨⟨s4, hs4, rfl⟩, ho4⟩
  have ha2 : ∀ wx : World, (Op.stringOp .add s4 p).run Try.prog wx = .ok (.string (s4 ++ p)) wx := fun wx => run_string_add_sum wx s4 p (by omega)
  go_wp2_with fail
  refine (crc_any _ _ (by rw [ByteArray.size_append]; omega)).mono ?_
  rintro e w5 ⟨⟨v5, rfl⟩, ho5⟩
  go_wp2_with fail
  refine (four_any _ _).mono ?_
  rintro e w6 ⟨⟨s6, hs6, rfl⟩, ho6⟩
  have z1 : (s1 ++ s3).size = 8 := by rw [ByteArray.size_append]; omega
  have z2 : (s1 ++ s3 ++ s6).size = 12 := by rw [ByteArray.size_append]; omega
  have ha3 : ∀ wx : World, (Op.stringOp .add (s1 ++ s3) s6).run Try.prog wx = .ok (.string (s1 ++ s3 ++ s6)) wx := fun wx => run_string_add_sum wx (s1 ++ s3) s6 (by omega)
  have ha4 : ∀ wx : World, (Op.stringOp .add (s1 ++ s3 ++ s6) p).run Try.prog wx = .ok (.string (s1 ++ s3 ++ s6 ++ p)) wx := fun wx => run_string_add_sum wx (s1 ++ s3 ++ s6) p (by omega)
  have Z2 := Lib.hid z2
  clear z1 z2
  go_wp2_with fail
  go_ret2
  exact ⟨⟨_, by rw [ByteArray.size_append, Z2.out], rfl⟩, ((((ho1.trans_nil ho2).trans_nil ho3).trans_nil ho4).trans_nil ho5).trans_nil ho6⟩
end Go.Proofs.Ytpaeihdkggbeoaa
