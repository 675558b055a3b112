/- The walks of the reference's writers of numbers, texts and frames. Conditions: numbers below 2^40, texts of less than 2^40 bytes. -/
import Derived.Test.YtpaeihdkggbeoaaCode
import Derived.Test.YtpaeihdkggbeoaaEnc
import Derived.Test.YtpaeihdkggbeoaaCarry
import Derived.Deep.RegionHeld3
import Derived.Deep.RegionWith
namespace Go.Proofs.Ytpaeihdkggbeoaa
open Go.RowKit Go.Op

theorem one_cv {w : World} {g : Nat} {a : Int} (h : Blk w g 5 #[.int .u8 a]) : (convert 113 9 (.slice (some ⟨g, 0, none⟩) 1 1)).run Try.prog w = .ok (.string (strOfNums [a])) w := by
  refine run_convert_bytes_arg _ 113 5 Try.underlying113 Try.underlying5 g 0 1 1 [a] rfl (fun i hi => ?_) 9 Try.underlying9
  rw [Nat.zero_add, h.cell i]
  match i, hi with
  | 0, _ => rfl
  | n + 1, h => omega

set_option maxRecDepth 100000 in
theorem rnum_small (n : Nat) (w : World) (hn : n < 128) : Calls Try.prog 48 #[.int .i64 n] w (NumPost w n) := by
  have hcv := fun a => one_cv (Blk.new w 5 #[.int .u8 a])
  have he : strOfNums [(n : Int)] = ⟨(Pl.num n).toArray⟩ := by rw [Pl.num_small hn]; rfl
  have HE := Lib.hid he
  clear he
  go_enter Try.func48, Try.ntmps48
  go_wp2
  go_ret
  exact ⟨by rw [← HE.out]; rfl, (Off.refl _ _).alloc _⟩

set_option maxRecDepth 100000 in
set_option maxHeartbeats 1000000 in
theorem rnum_big (n : Nat) (w : World) (hn : 128 ≤ n) (hn2 : n < 1099511627776) (ih : ∀ w, Calls Try.prog 48 #[.int .i64 ((n / 128 : Nat) : Int)] w (NumPost w (n / 128))) : Calls Try.prog 48 #[.int .i64 n] w (NumPost w n) := by
  have hi : ((n / 128 : Nat) : Int) = (n : Int) / 128 := by omega
  rw [hi] at ih
  have IH := Lib.hid ih
  have ht : (n : Int).tmod 128 = (n : Int) % 128 := by rw [Int.tmod_eq_emod_of_nonneg (by omega)]
  have hw1 : IntKind.i64.wrap (128 + (n : Int) % 128) = 128 + (n : Int) % 128 := by rw [IntWalk.i64_in _ (by omega)]
  have hw2 : IntKind.u8.wrap (128 + (n : Int) % 128) = 128 + (n : Int) % 128 := by simp [IntKind.wrap, IntKind.bits, IntKind.signed]; omega
  have hq : IntKind.i64.wrap ((n : Int) / 128) = (n : Int) / 128 := by rw [IntWalk.i64_in _ (by omega)]
  have hcv := fun a => one_cv (Blk.drew (Blk.new w 5 #[.int .u8 a]))
  have hl := numLen (n := n / 128) (by omega)
  have hadd : ∀ wx : World, (Op.stringOp .add (strOfNums [128 + (n : Int) % 128]) ⟨(Pl.num (n / 128)).toArray⟩).run Try.prog wx = .ok (.string ⟨(Pl.num n).toArray⟩) wx := fun wx => by
    rw [run_string_add_sum wx _ _ (by rw [strOfNums_size, sizeMk]; simp; omega)]
    congr 2
    apply ByteArray.ext
    rw [Pl.num_big hn]
    have : (128 + (n : Int) % 128).toNat = 128 + n % 128 := by omega
    simp [strOfNums, ByteArray.data_append, this]
  clear ih hi hl
  go_enter Try.func48, Try.ntmps48
  go_wp2_with fail
  go_region_with (go_at_call 48; refine (IH.out _).mono ?_; rintro e w1 ⟨rfl, ho⟩; have h1 := (fun a => one_cv (Blk.new w1 5 #[.int .u8 a])); first | have h2 := one_cv ((Blk.drew (Blk.new w 5 #[_])).off ho (by simp)) | skip)
  all_goals go_wp2
  all_goals go_ret
  all_goals refine ⟨rfl, ?_⟩
  all_goals first
    | exact ((((Off.refl _ _).alloc _).drew).trans_nil (by assumption))
    | exact (((Off.refl _ _).drew).trans_nil (by assumption)).alloc _
theorem rnum_any : ∀ (k n : Nat) (w : World), n < 128 ^ (k + 1) → n < 1099511627776 → Calls Try.prog 48 #[.int .i64 n] w (NumPost w n) := by
  intro k
  induction k with
  | zero => intro n w h _; exact rnum_small n w (by simpa using h)
  | succ k ih =>
    intro n w h h2
    by_cases hn : n < 128
    · exact rnum_small n w hn
    · exact rnum_big n w (by omega) h2 (fun w => ih (n / 128) w (by rw [Nat.pow_succ] at h; omega) (by omega))
theorem rnum (n : Nat) (w : World) (h : n < 1099511627776) : Calls Try.prog 48 #[.int .i64 n] w (NumPost w n) := rnum_any 5 n w (by omega) h

set_option maxRecDepth 100000 in
theorem rtext (s : ByteArray) (w : World) (hs : s.size < 1099511627776) : Calls Try.prog 49 #[.string s] w (StrPost w (textB s)) := by
  have hadd : ∀ w1 : World, (Op.stringOp .add ⟨(Pl.num s.size).toArray⟩ s).run Try.prog w1 = .ok (.string ⟨(Pl.num s.size ++ s.data.toList).toArray⟩) w1 := fun w1 => by
    rw [run_string_add_sum w1 ⟨(Pl.num s.size).toArray⟩ s (by rw [sizeMk]; have := numLen hs; omega), mk_append]
  go_enter Try.func49, Try.ntmps49
  go_wp2_with (go_at_call 48; refine (rnum _ _ (by omega)).mono ?_; rintro e w1 ⟨rfl, ho⟩; skip)
  go_ret
  exact ⟨rfl, ho⟩
theorem rflag (b : Bool) (w : World) : Calls Try.prog 50 #[.bool b] w fun e w' => e = .returned (.string (flagS b)) ∧ w = w' := by
  cases b
  all_goals
    go_enter Try.func50, Try.ntmps50
    go_wp2
    go_ret
    exact ⟨rfl, rfl⟩

theorem mk_mk (l m : List UInt8) : (ByteArray.mk l.toArray) ++ (ByteArray.mk m.toArray) = ⟨(l ++ m).toArray⟩ := by
  apply ByteArray.ext; simp [ByteArray.data_append]
set_option maxRecDepth 100000 in
set_option maxHeartbeats 2000000 in
theorem rencode (c a : Nat) (s : ByteArray) (l : Bool) (w : World) (hc : c < 1099511627776) (ha : a < 1099511627776) (hs : s.size < 1099511627776) :
    Calls Try.prog 30 #[.agg #[.int .i64 c, .int .i64 a, .string s, .bool l]] w (StrPost w (encB c a s l)) := by
  have n1 := numLen hc
  have n2 := numLen ha
  have n3 := numLen hs
  have hd : s.data.toList.length = s.size := len_data s
  have hf1 : (flagS l).size = 1 := by cases l <;> rfl
  have h1 : ∀ wx : World, (Op.stringOp .add ⟨(Pl.num c).toArray⟩ ⟨(Pl.num a).toArray⟩).run Try.prog wx = .ok (.string ⟨(Pl.num c ++ Pl.num a).toArray⟩) wx := fun wx => by
    rw [run_string_add_sum wx _ _ (by rw [sizeMk, sizeMk]; omega), mk_mk]
  have h2 : ∀ wx : World, (Op.stringOp .add ⟨(Pl.num c ++ Pl.num a).toArray⟩ ⟨(textB s).toArray⟩).run Try.prog wx = .ok (.string ⟨(Pl.num c ++ (Pl.num a ++ textB s)).toArray⟩) wx := fun wx => by
    rw [run_string_add_sum wx _ _ (by rw [sizeMk, sizeMk]; simp only [textB, List.length_append]; omega), mk_mk, List.append_assoc]
  have h3 : ∀ wx : World, (Op.stringOp .add ⟨(Pl.num c ++ (Pl.num a ++ textB s)).toArray⟩ (flagS l)).run Try.prog wx = .ok (.string ⟨(encB c a s l).toArray⟩) wx := fun wx => by
    rw [run_string_add_sum wx _ _ (by rw [sizeMk]; simp only [textB, List.length_append]; omega), mk_append]; simp [encB]
  clear n1 n2 n3 hd hf1
  go_enter Try.func30, Try.ntmps30
  go_wp2_with fail
  go_region_held3 (fun w' => Off [] w w' ∧ w.heap.size < w'.heap.size ∧ ∀ i, w'.cell? ⟨w.heap.size, i, none⟩ = (#[Value.int .i64 c, .int .i64 a, .string s, .bool l] : Array Value)[i]?) (first | exact keep0 _ _ _ | exact keepA (by assumption) (by assumption) | exact keepB (by assumption) | assumption) (first
    | (go_at_call 48; refine (rnum _ _ (by omega)).mono ?_; rintro e w1 ⟨rfl, ho⟩)
    | (go_at_call 49; refine (rtext _ _ (by omega)).mono ?_; rintro e w1 ⟨rfl, ho⟩)
    | (go_at_call 50; refine (rflag _ _).mono ?_; rintro e w1 ⟨rfl, rfl⟩))
  go_wp2
  go_ret
  exact ⟨rfl, (by assumption : Off [] w _ ∧ _).1⟩
end Go.Proofs.Ytpaeihdkggbeoaa
