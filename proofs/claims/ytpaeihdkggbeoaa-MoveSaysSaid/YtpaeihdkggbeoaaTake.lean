/- The walk of the receiver's Take at call 0. Conditions: texts of at most 65536 bytes in all. -/
import Derived.Test.YtpaeihdkggbeoaaIn
import Derived.Deep.RegionLaw
import Derived.Deep.AppendLies
namespace Go.Proofs.Ytpaeihdkggbeoaa
open Go.RowKit Go.Op
open Go.ChangeMaps (setBlock)
attribute [local go_sem] cell_setBlock_ne frozen_setBlock_ne

/-- the map's entries with one call, or none -/
def entB (gt : Nat) (first : Bool) : Array MapEntry := if first then #[] else #[{ key := .int .i64 0, val := .pointer (some ⟨gt, 0, none⟩), born := 0 }]
def clkB (first : Bool) : Nat := if first then 0 else 1
def TakePost (w : World) (gI gm gt : Nat) (l : Bool) (T : ByteArray) (N : Int) (e : Ending) (w' : World) : Prop :=
  e = .returned (.tuple #[.int .i64 N, .int .i64 0]) ∧ Off [gI, gm, gt] w w' ∧ if l then In2 w' gI gm gt T else In1 w' gI gm gt T

def TakePhi (w0 : World) (gI gm gt gF : Nat) (first : Bool) (t x : ByteArray) (l : Bool) (W : World) : Prop :=
  Blk W gI 88 #[.map (some gm), .slice none 0 0] ∧ MapB W gm (entB gt first) (clkB first) ∧ Blk W gt 105 #[.string t, .bool false, .bool false] ∧ Blk W gF 66 #[.int .i64 0, .int .i64 t.size, .string x, .bool l] ∧ Off [gI, gm, gt] w0 W
def TakePhi2 (w0 : World) (gI gm gt gF : Nat) (first : Bool) (T x : ByteArray) (a : Nat) (l : Bool) (W : World) : Prop :=
  Blk W gI 88 #[.map (some gm), .slice none 0 0] ∧ MapB W gm (entB gt first) (clkB first) ∧ Blk W gt 105 #[.string T, .bool false, .bool l] ∧ Blk W gF 66 #[.int .i64 0, .int .i64 a, .string x, .bool l] ∧ Off [gI, gm, gt] w0 W
def TakePhi3 (w0 : World) (gI gm gt gF : Nat) (T x : ByteArray) (a : Nat) (l : Bool) (W : World) : Prop :=
  Blk W gI 88 #[.map (some gm), .slice none 0 0] ∧ MapB W gm #[{ key := .int .i64 0, val := .pointer (some ⟨gt, 0, none⟩), born := 0 }] 1 ∧ Blk W gt 105 #[.string T, .bool false, .bool l] ∧ Blk W gF 66 #[.int .i64 0, .int .i64 a, .string x, .bool l] ∧ Off [gI, gm, gt] w0 W

theorem info3' : (Try.prog.info? 3).map (fun i => (i.zero, i.size, i.bytes)) = some (some (.int .i64 0), 1, 8) := by kernel_rfl
theorem take_end {w w2 : World} {gI gm gt : Nat} {T : ByteArray} (hI : Blk w2 gI 88 #[.map (some gm), .slice none 0 0]) (hm : MapB w2 gm #[{ key := .int .i64 0, val := .pointer (some ⟨gt, 0, none⟩), born := 0 }] 1)
    (ht : Blk w2 gt 105 #[.string T, .bool false, .bool true]) (ho : Off [gI, gm, gt] w w2) (v : Value) (N : Int) :
    TakePost w gI gm gt true T N (.returned (.tuple #[.int .i64 N, .int .i64 0])) (w2.setCell ⟨gI, 1, none⟩ v) := by
  have n1 : gI ≠ gt := hI.ne_ ht (by decide)
  have n2 : gI ≠ gm := hm.ne_ hI
  exact ⟨rfl, ho.setCell (.inr (by simp)) _, ⟨⟨_, hI.set_ 1 _⟩, hm.far n2.symm _, ht.far n1.symm _⟩⟩

set_option maxRecDepth 100000 in
set_option maxHeartbeats 2000000 in
theorem take0 (gI gm : Nat) (x : ByteArray) (l : Bool) (w : World) (hx : x.size ≤ 65536) (h : In0 w gI gm) :
    Calls Try.prog 22 #[.pointer (some ⟨gI, 0, none⟩), .agg #[.int .i64 0, .int .i64 0, .string x, .bool l]] w (TakePost w gI gm (w.heap.size + 1) l x x.size) := by
  obtain ⟨hI, hm⟩ := h
  have hne : gI ≠ gm := hm.ne_ hI
  go_enter Try.func22, Try.ntmps22
  go_wp2_with fail
  refine code_gen (fun W => Blk W gI 88 #[.map (some gm), .slice none 0 0] ∧ MapB W gm #[] 0 ∧ Blk W w.heap.size 66 #[.int .i64 0, .int .i64 0, .string x, .bool l] ∧ Off [] w W ∧ W.heap.size = w.heap.size + 1) ⟨hI.alloc _, hm.alloc _, Blk.new _ _ _, (Off.refl _ _).alloc _, by simp⟩ ?_
  rintro W ⟨hI1, hm1, hF1, ho1, hs1⟩
  have hcI1 := hI1.cell
  have hcF1 := hF1.cell
  have hlk := fun n => run_lk0 (W.drewN n) gm 0 hm1
  have hlk0 := run_lk0 W gm 0 hm1
  go_quiet (fail)
  go_wp2_with fail
  refine code_gen (TakePhi w gI gm (w.heap.size + 1) w.heap.size true ⟨#[]⟩ x l) ⟨(hI1.drewN _).alloc _, (hm1.drewN _).alloc _, ?_, (hF1.drewN _).alloc _, ((ho1.mono (by simp)).drewN _).alloc _⟩ ?_
  · have := Blk.new (W.drewN nq) 105 #[.string ⟨#[]⟩, .bool false, .bool false]
    rw [show (W.drewN nq).heap.size = w.heap.size + 1 from hs1] at this
    exact this
  rintro W2 ⟨hI2, hm2, ht2, hF2, ho2⟩
  have hcI2 := hI2.cell
  have hct2 := ht2.cell
  have hcF2 := hF2.cell
  have q1 : ¬ ((65536 : Int) < (x.size : Int)) := by omega
  go_quiet (fail)
  go_wp2_with fail
  refine code_gen (TakePhi w gI gm (w.heap.size + 1) w.heap.size true ⟨#[]⟩ x l) ⟨hI2.drewN _, hm2.drewN _, ht2.drewN _, hF2.drewN _, ho2.drewN _⟩ ?_
  clear hI1 hm1 hF1 ho1 hs1 hcI1 hcF1 hlk hlk0 hI2 hm2 ht2 hF2 ho2 hcI2 hct2 hcF2 q1
  rintro W3 ⟨hI3, hm3, ht3, hF3, ho3⟩
  have hcI3 := hI3.cell
  have hct3 := ht3.cell
  have hft3 := ht3.frozen
  have hcF3 := hF3.cell
  have hlt3 := ht3.lt
  have n1 : gI ≠ (w.heap.size + 1) := hI3.ne_ ht3 (by decide)
  have n2 : w.heap.size ≠ (w.heap.size + 1) := hF3.ne_ ht3 (by decide)
  have n3 : gm ≠ (w.heap.size + 1) := (hm3.ne_ ht3).symm
  have n4 : gI ≠ gm := hm3.ne_ hI3
  have n5 : (w.heap.size + 1) ≠ gm := hm3.ne_ ht3
  have n6 : w.heap.size ≠ gm := hm3.ne_ hF3
  have hadd : ∀ wx : World, (Op.stringOp .add ⟨#[]⟩ x).run Try.prog wx = .ok (.string x) wx := fun wx => by
    rw [run_string_add_sum wx ⟨#[]⟩ x (by show 0 + x.size ≤ _; omega)]
    congr 2
  go_region
  go_wp2_with fail
  refine code_gen (TakePhi2 w gI gm (w.heap.size + 1) w.heap.size true x x 0 l) ⟨((hI3.far n1 _).far n1 _).drew, ((hm3.far n3 _).far n3 _).drew, ?_, ((hF3.far n2 _).far n2 _).drew, ((ho3.setCell (.inr (by simp)) _).setCell (.inr (by simp)) _).drew⟩ ?_
  · have := ((ht3.set_ 0 (.string x)).set_ 2 (.bool l)).drew
    exact this
  clear hI3 hm3 ht3 hF3 ho3 hcI3 hct3 hft3 hcF3 hlt3 hadd
  rintro W4 ⟨hI4, hm4, ht4, hF4, ho4⟩
  have hcI4 := hI4.cell
  have hcF4 := hF4.cell
  have hct4 := ht4.cell
  have hup := run_up0 W4.drew gm 0 (.pointer (some ⟨w.heap.size + 1, 0, none⟩)) hm4
  cases l
  · go_region
    go_wp2_with fail
    go_ret2
    exact ⟨rfl, ho4.drew.setBlock (.inr (by simp)) _, ⟨hI4.drew.setBlock n4 _, hm4.drew.put _ _, ht4.drew.setBlock n5 _⟩⟩
  · go_region
    go_wp2_with fail
    refine code_gen (TakePhi3 w gI gm (w.heap.size + 1) w.heap.size x x 0 true) ⟨hI4.drew.setBlock n4 _, hm4.drew.put _ _, ht4.drew.setBlock n5 _, hF4.drew.setBlock n6 _, ho4.drew.setBlock (.inr (by simp)) _⟩ ?_
    clear hI4 hm4 ht4 hF4 ho4 hcI4 hct4 hcF4 hup
    intro W5 h5
    obtain ⟨hI5, hm5, ht5, hF5, ho5⟩ := id h5
    have H5 := Lib.hid h5
    clear h5
    have hcI5 := hI5.cell
    have hfI5 := hI5.frozen
    have hct5 := ht5.cell
    have hcF5 := hF5.cell
    have hlI5 := hI5.lt
    obtain ⟨i0, hi, hz0, hz1, hz2⟩ := info_parts info3'
    go_region_law ((refine step_append_lies _ (by rfl) _ _ _ (by rfl) W5.heap.size 3 i0 (.int .i64 0) 1 8 Try.underlying86 hi hz0 hz1 hz2 rfl (by decide) _ 0 [] (by rfl) ⟨rfl, .inl ⟨rfl, rfl⟩⟩ ⟨W5.heap.size, 0, none⟩ 1 1 [_] (by rfl) (by rfl) (cell_one_at (Blk.new W5 _ _)) (by simp [Value.oneCell']) (by omega) (by unfold maxLen; omega) (by omega) (by simp) (W5.heap.size + 1) (by simp) ?_; intro gg cap w1 hown1 hgrow hat hlt; have hI6 := (hI5.alloc _).drew.grown hgrow (by simp [Value.ownBlock]); have hcI6 := hI6.cell; have hfI6 := hI6.frozen; have ht6 := (ht5.alloc _).drew.grown hgrow (by simp [Value.ownBlock]); have hct6 := ht6.cell; have hm6 := (hm5.alloc _).drew.grown hgrow (by simp [Value.ownBlock]); have ho6 := (ho5.alloc _).drew.grown hgrow (by intro k hk; simp [Value.ownBlock] at hk)))
    go_wp2_with fail
    all_goals go_ret2
    all_goals exact take_end (by assumption) (by assumption) (by assumption) (by assumption) _ _

set_option maxRecDepth 100000 in
set_option maxHeartbeats 2000000 in
theorem take1 (gI gm gt : Nat) (t x : ByteArray) (l : Bool) (w : World) (hx : t.size + x.size ≤ 65536) (h : In1 w gI gm gt t) :
    Calls Try.prog 22 #[.pointer (some ⟨gI, 0, none⟩), .agg #[.int .i64 0, .int .i64 t.size, .string x, .bool l]] w (TakePost w gI gm gt l (t ++ x) ((t.size : Int) + (x.size : Int))) := by
  obtain ⟨hI, hm, ht⟩ := h
  have hne : gI ≠ gm := hm.ne_ hI
  go_enter Try.func22, Try.ntmps22
  go_wp2_with fail
  refine code_gen (TakePhi w gI gm gt w.heap.size false t x l) ⟨hI.alloc _, hm.alloc _, ht.alloc _, Blk.new _ _ _, (Off.refl _ _).alloc _⟩ ?_
  rintro W ⟨hI1, hm1, ht1, hF1, ho1⟩
  have hcI1 := hI1.cell
  have hcF1 := hF1.cell
  have hlk := fun n => run_lk1 (W.drewN n) gm 1 0 (.pointer (some ⟨gt, 0, none⟩)) hm1
  have hlk0 := run_lk1 W gm 1 0 (.pointer (some ⟨gt, 0, none⟩)) hm1
  go_quiet (fail)
  go_wp2_with fail
  refine code_gen (TakePhi w gI gm gt w.heap.size false t x l) ⟨hI1.drewN _, hm1.drewN _, ht1.drewN _, hF1.drewN _, ho1.drewN _⟩ ?_
  rintro W2 ⟨hI2, hm2, ht2, hF2, ho2⟩
  have hcI2 := hI2.cell
  have hct2 := ht2.cell
  have hcF2 := hF2.cell
  have d1 : IntKind.i64.wrap ((65536 : Int) - (t.size : Int)) = 65536 - (t.size : Int) := by rw [IntWalk.i64_in _ (by omega)]
  have q1 : ¬ ((65536 : Int) - (t.size : Int) < (x.size : Int)) := by omega
  go_quiet (fail)
  go_wp2_with fail
  refine code_gen (TakePhi w gI gm gt w.heap.size false t x l) ⟨hI2.drewN _, hm2.drewN _, ht2.drewN _, hF2.drewN _, ho2.drewN _⟩ ?_
  clear hI1 hm1 ht1 hF1 ho1 hcI1 hcF1 hlk hlk0 hI2 hm2 ht2 hF2 ho2 hcI2 hct2 hcF2 q1 d1
  rintro W3 ⟨hI3, hm3, ht3, hF3, ho3⟩
  have hcI3 := hI3.cell
  have hct3 := ht3.cell
  have hft3 := ht3.frozen
  have hcF3 := hF3.cell
  have hlt3 := ht3.lt
  have n1 : gI ≠ gt := hI3.ne_ ht3 (by decide)
  have n2 : w.heap.size ≠ gt := hF3.ne_ ht3 (by decide)
  have n3 : gm ≠ gt := (hm3.ne_ ht3).symm
  have n4 : gI ≠ gm := hm3.ne_ hI3
  have n5 : gt ≠ gm := hm3.ne_ ht3
  have n6 : w.heap.size ≠ gm := hm3.ne_ hF3
  have hadd : ∀ wx : World, (Op.stringOp .add t x).run Try.prog wx = .ok (.string (t ++ x)) wx := fun wx => by
    rw [run_string_add_sum wx t x (by omega)]
  go_region
  go_wp2_with fail
  refine code_gen (TakePhi2 w gI gm gt w.heap.size false (t ++ x) x t.size l) ⟨((hI3.far n1 _).far n1 _).drew, ((hm3.far n3 _).far n3 _).drew, ?_, ((hF3.far n2 _).far n2 _).drew, ((ho3.setCell (.inr (by simp)) _).setCell (.inr (by simp)) _).drew⟩ ?_
  · have := ((ht3.set_ 0 (.string (t ++ x))).set_ 2 (.bool l)).drew
    exact this
  clear hI3 hm3 ht3 hF3 ho3 hcI3 hct3 hft3 hcF3 hlt3 hadd
  rintro W4 ⟨hI4, hm4, ht4, hF4, ho4⟩
  have hcI4 := hI4.cell
  have hcF4 := hF4.cell
  have hct4 := ht4.cell
  have hup := run_up1 W4.drew gm 1 0 (.pointer (some ⟨gt, 0, none⟩)) (.pointer (some ⟨gt, 0, none⟩)) hm4
  cases l
  · go_region
    go_wp2_with fail
    go_ret2
    exact ⟨rfl, ho4.drew.setBlock (.inr (by simp)) _, ⟨hI4.drew.setBlock n4 _, hm4.drew.put _ _, ht4.drew.setBlock n5 _⟩⟩
  · go_region
    go_wp2_with fail
    refine code_gen (TakePhi3 w gI gm gt w.heap.size (t ++ x) x t.size true) ⟨hI4.drew.setBlock n4 _, hm4.drew.put _ _, ht4.drew.setBlock n5 _, hF4.drew.setBlock n6 _, ho4.drew.setBlock (.inr (by simp)) _⟩ ?_
    clear hI4 hm4 ht4 hF4 ho4 hcI4 hct4 hcF4 hup
    intro W5 h5
    obtain ⟨hI5, hm5, ht5, hF5, ho5⟩ := id h5
    have H5 := Lib.hid h5
    clear h5
    have hcI5 := hI5.cell
    have hfI5 := hI5.frozen
    have hct5 := ht5.cell
    have hcF5 := hF5.cell
    have hlI5 := hI5.lt
    obtain ⟨i0, hi, hz0, hz1, hz2⟩ := info_parts info3'
    go_region_law ((refine step_append_lies _ (by rfl) _ _ _ (by rfl) W5.heap.size 3 i0 (.int .i64 0) 1 8 Try.underlying86 hi hz0 hz1 hz2 rfl (by decide) _ 0 [] (by rfl) ⟨rfl, .inl ⟨rfl, rfl⟩⟩ ⟨W5.heap.size, 0, none⟩ 1 1 [_] (by rfl) (by rfl) (cell_one_at (Blk.new W5 _ _)) (by simp [Value.oneCell']) (by omega) (by unfold maxLen; omega) (by omega) (by simp) (W5.heap.size + 1) (by simp) ?_; intro gg cap w1 hown1 hgrow hat hlt; have hI6 := (hI5.alloc _).drew.grown hgrow (by simp [Value.ownBlock]); have hcI6 := hI6.cell; have hfI6 := hI6.frozen; have ht6 := (ht5.alloc _).drew.grown hgrow (by simp [Value.ownBlock]); have hct6 := ht6.cell; have hm6 := (hm5.alloc _).drew.grown hgrow (by simp [Value.ownBlock]); have ho6 := (ho5.alloc _).drew.grown hgrow (by intro k hk; simp [Value.ownBlock] at hk)))
    go_wp2_with fail
    all_goals go_ret2
    all_goals exact take_end (by assumption) (by assumption) (by assumption) (by assumption) _ _
end Go.Proofs.Ytpaeihdkggbeoaa
