/- The walk of a direction's carry: a payload over the line, and what is counted. Conditions: payloads and counts of at most 2^20. -/
import Derived.Test.YtpaeihdkggbeoaaCarry
import Derived.Test.YtpaeihdkggbeoaaIn
namespace Go.Proofs.Ytpaeihdkggbeoaa
open Go.RowKit Go.Op

/-- a direction: its fault, how many messages and bytes were sent -/
structure WayS where
  cut : Int
  flip : Int
  by_ : UInt8
  msgs : Nat
  bytes : Nat
/-- the eleven cells of both directions -/
def waysC (a b : WayS) (d : Bool) : Array Value :=
  #[.int .i64 a.cut, .int .i64 a.flip, .int .u8 a.by_.toNat, .int .i64 a.msgs, .int .i64 a.bytes, .int .i64 b.cut, .int .i64 b.flip, .int .u8 b.by_.toNat, .int .i64 b.msgs, .int .i64 b.bytes, .bool d]
/-- does a frame of n bytes come? -/
def WayS.ok (a : WayS) (n : Nat) : Bool := !(decide (0 ≤ a.cut) && decide (a.cut < a.bytes + n)) && !(decide (a.by_.toNat ≠ 0) && decide ((a.bytes : Int) ≤ a.flip) && decide (a.flip < a.bytes + n))
def WayS.add (a : WayS) (n : Nat) : WayS := { a with msgs := a.msgs + 1, bytes := a.bytes + n }
structure WayS.Fit (a : WayS) : Prop where
  c0 : -9223372036854775808 ≤ a.cut
  c1 : a.cut < 9223372036854775808
  f0 : -9223372036854775808 ≤ a.flip
  f1 : a.flip < 9223372036854775808

def WayCarryPost (w : World) (gW : Nat) (a b : WayS) (d : Bool) (back : Bool) (p : ByteArray) (n : Nat) (e : Ending) (w' : World) : Prop :=
  e = .returned (.tuple #[.string (if (if back then b else a).ok n then p else ⟨#[]⟩), .bool ((if back then b else a).ok n)]) ∧
  Blk w' gW 49 (if back then waysC a (b.add n) d else waysC (a.add n) b d) ∧ Off [gW] w w'

theorem way_end {w : World} {gW : Nat} {a b : WayS} {d : Bool} {back : Bool} {p : ByteArray} {n : Nat} {C : Prop} {v : Value} {r : Bool} {w' : World}
    (hok : (if back then b else a).ok n = true ↔ C) (hr : r = true ↔ C)
    (hv : v = .tuple #[.string (if r then p else ⟨#[]⟩), .bool r]) (hB : Blk w' gW 49 (if back then waysC a (b.add n) d else waysC (a.add n) b d)) (ho : Off [gW] w w') :
    WayCarryPost w gW a b d back p n (.returned v) w' := by
  have : (if back then b else a).ok n = r := by
    rw [Bool.eq_iff_iff, hok, hr]
  refine ⟨?_, hB, ho⟩
  rw [this, hv]
theorem neq_toList {c s : ByteArray} (h : ¬ c = s) : (c.toList == s.toList) = false := by
  refine beq_eq_false_iff_ne.2 fun e => h ?_
  rw [ByteArray.toList_eq, ByteArray.toList_eq] at e
  exact ByteArray.ext (Array.toList_inj.1 e)
theorem wayOk_neg (cut flip : Int) (y : UInt8) (m n k : Nat) (flip' : Int) (hk : 0 < k) (hk2 : k ≤ 1099511627776) (hn : n ≤ 1099511627776) (hc : cut < 0) (f0 : -9223372036854775808 ≤ flip) (f1 : flip < 9223372036854775808) (hf : flip' = wrap64 (flip - n)) :
    (WayS.mk cut flip y m n).ok k = true ↔ carryOk k cut flip' y.toNat := by
  have hw : flip' = flip - n ∨ (flip - n < -9223372036854775808 ∧ flip' = flip - n + 18446744073709551616) := by
    rw [hf]
    unfold wrap64
    omega
  simp only [WayS.ok, carryOk, Bool.and_eq_true, Bool.not_eq_true', Bool.and_eq_false_iff, decide_eq_false_iff_not]
  omega
theorem wayOk_pos (cut flip : Int) (y : UInt8) (m n k : Nat) (flip' cut' : Int) (hk : 0 < k) (hk2 : k ≤ 1099511627776) (hn : n ≤ 1099511627776) (hc : 0 ≤ cut) (hc' : cut' = max (cut - n) 0) (f0 : -9223372036854775808 ≤ flip) (f1 : flip < 9223372036854775808) (hf : flip' = wrap64 (flip - n)) :
    (WayS.mk cut flip y m n).ok k = true ↔ carryOk k cut' flip' y.toNat := by
  have hw : flip' = flip - n ∨ (flip - n < -9223372036854775808 ∧ flip' = flip - n + 18446744073709551616) := by
    rw [hf]
    unfold wrap64
    omega
  simp only [WayS.ok, carryOk, Bool.and_eq_true, Bool.not_eq_true', Bool.and_eq_false_iff, decide_eq_false_iff_not]
  omega

set_option maxRecDepth 100000 in
set_option maxHeartbeats 2000000 in
theorem wcarry_a1 (gW : Nat) (a b : WayS) (d : Bool) (p : ByteArray) (w : World) (hp : p.size ≤ 1048000) (hm : a.msgs ≤ 1048576) (hb : a.bytes ≤ 1099511627776) (hf : a.Fit) (hc : a.cut < 0)
    (h : Blk w gW 49 (waysC a b d)) : Calls Try.prog 19 #[.pointer (some ⟨gW, 0, none⟩), .string p] w (WayCarryPost w gW a b d false p (12 + p.size)) := by
  obtain ⟨hc0, hc1, hf0, hf1⟩ := hf
  obtain ⟨cut1, flip1, y1, m1, n1⟩ := a
  obtain ⟨cut2, flip2, y2, m2, n2⟩ := b
  simp only [waysC] at h
  simp only [] at hm hb hc hc0 hc1 hf0 hf1
  have hcW := h.cell
  have hlW := h.lt
  go_enter Try.func19, Try.ntmps19
  go_wp2_with fail
  refine (more_any _ _ _ hm (by omega)).mono ?_
  rintro e w1 ⟨⟨s, hs, rfl⟩, ho1⟩
  have HS := Lib.hid hs
  have hs1 : s.size ≤ 1048588 := by omega
  clear hs
  have hW1 := h.off ho1 (by simp)
  have hcW1 := hW1.cell
  have hlW1 := hW1.lt
  go_wp2_with fail
  refine code_gen (fun W => Blk W gW 49 #[.int .i64 cut1, .int .i64 flip1, .int .u8 y1.toNat, .int .i64 m1, .int .i64 n1, .int .i64 cut2, .int .i64 flip2, .int .u8 y2.toNat, .int .i64 m2, .int .i64 n2, .bool d] ∧ Blk W w1.heap.size 23 #[.int .i64 cut1, .int .i64 flip1, .int .u8 y1.toNat] ∧ Off [] w W) ⟨hW1.alloc _, Blk.new _ _ _, ho1.alloc _⟩ ?_
  have hlw1 := ho1.size
  clear hW1 hcW1 hlW1 ho1
  generalize w1.heap.size = gF at *
  rintro W ⟨hW2, hF2, ho2⟩
  have hcW2 := hW2.cell
  have hfW2 := hW2.frozen
  have hcF2 := hF2.cell
  have hfF2 := hF2.frozen
  have hlF2 := hF2.lt
  have hne : gW ≠ gF := hW2.ne_ hF2 (by decide)
  have hne' : gF ≠ gW := hne.symm
  go_region
  go_wp2_with fail
  refine (carry_any s _ _ y1 _ (by omega) hc1).mono ?_
  rintro e w3 ⟨⟨c, hiff, rfl⟩, ho3⟩
  have hW3 := (hW2.far hne _).drew.off ho3 (by simp)
  have ho3w : Off [gW] w w3 := (((ho2.setCell (.inl hlw1) _).drew).trans_nil ho3).mono (by simp)
  clear hcW2 hfW2 hcF2 hfF2 hlF2 hW2 hF2 ho2 ho3 hcW hlW
  have hcW3 := hW3.cell
  have hfW3 := hW3.frozen
  have e1 : IntKind.i64.wrap ((m1 : Int) + 1) = (m1 : Int) + 1 := by rw [IntWalk.i64_in _ (by omega)]
  have e2 : IntKind.i64.wrap ((n1 : Int) + (s.size : Int)) = (n1 : Int) + (s.size : Int) := by rw [IntWalk.i64_in _ (by omega)]
  by_cases hcs : c = s
  · have HC := Lib.hid (hiff.1 hcs)
    clear hiff
    subst hcs
    go_wp2_with fail
    go_ret2
    refine way_end (r := true) ?_ ⟨fun _ => HC.out, fun _ => rfl⟩ (by simp) ?_ ((ho3w.setCell (.inr (by simp)) _).setCell (.inr (by simp)) _)
    · rw [HS.out]; exact wayOk_neg _ _ _ _ _ _ _ (by omega) (by omega) hb hc hf0 hf1 rfl
    · have := (hW3.set_ 3 (.int .i64 ((m1 : Int) + 1))).set_ 4 (.int .i64 ((n1 : Int) + (c.size : Int)))
      rw [HS.out] at this
      simpa [waysC, WayS.add, HS.out] using this
  · have q1 : (c.toList == s.toList) = false := neq_toList hcs
    have HC := Lib.hid (fun h => hcs (hiff.2 h))
    clear hiff
    go_wp2_with fail
    go_ret2
    refine way_end (r := false) ?_ ⟨fun h => Bool.noConfusion h, fun h => absurd h HC.out⟩ (by simp) ?_ ((ho3w.setCell (.inr (by simp)) _).setCell (.inr (by simp)) _)
    · rw [HS.out]; exact wayOk_neg _ _ _ _ _ _ _ (by omega) (by omega) hb hc hf0 hf1 rfl
    · have := (hW3.set_ 3 (.int .i64 ((m1 : Int) + 1))).set_ 4 (.int .i64 ((n1 : Int) + (s.size : Int)))
      rw [HS.out] at this
      simpa [waysC, WayS.add, HS.out] using this

set_option maxRecDepth 100000 in
set_option maxHeartbeats 2000000 in
theorem wcarry_a2 (gW : Nat) (a b : WayS) (d : Bool) (p : ByteArray) (w : World) (hp : p.size ≤ 1048000) (hm : a.msgs ≤ 1048576) (hb : a.bytes ≤ 1099511627776) (hf : a.Fit) (hc : 0 ≤ a.cut)
    (h : Blk w gW 49 (waysC a b d)) : Calls Try.prog 19 #[.pointer (some ⟨gW, 0, none⟩), .string p] w (WayCarryPost w gW a b d false p (12 + p.size)) := by
  obtain ⟨hc0, hc1, hf0, hf1⟩ := hf
  obtain ⟨cut1, flip1, y1, m1, n1⟩ := a
  obtain ⟨cut2, flip2, y2, m2, n2⟩ := b
  simp only [waysC] at h
  simp only [] at hm hb hc hc0 hc1 hf0 hf1
  have hcW := h.cell
  have hlW := h.lt
  go_enter Try.func19, Try.ntmps19
  go_wp2_with fail
  refine (more_any _ _ _ hm (by omega)).mono ?_
  rintro e w1 ⟨⟨s, hs, rfl⟩, ho1⟩
  have HS := Lib.hid hs
  have hs1 : s.size ≤ 1048588 := by omega
  clear hs
  have hW1 := h.off ho1 (by simp)
  have hcW1 := hW1.cell
  have hlW1 := hW1.lt
  go_wp2_with fail
  refine code_gen (fun W => Blk W gW 49 #[.int .i64 cut1, .int .i64 flip1, .int .u8 y1.toNat, .int .i64 m1, .int .i64 n1, .int .i64 cut2, .int .i64 flip2, .int .u8 y2.toNat, .int .i64 m2, .int .i64 n2, .bool d] ∧ Blk W w1.heap.size 23 #[.int .i64 cut1, .int .i64 flip1, .int .u8 y1.toNat] ∧ Off [] w W) ⟨hW1.alloc _, Blk.new _ _ _, ho1.alloc _⟩ ?_
  have hlw1 := ho1.size
  clear hW1 hcW1 hlW1 ho1
  generalize w1.heap.size = gF at *
  rintro W ⟨hW2, hF2, ho2⟩
  have hcW2 := hW2.cell
  have hfW2 := hW2.frozen
  have hcF2 := hF2.cell
  have hfF2 := hF2.frozen
  have hlF2 := hF2.lt
  have hne : gW ≠ gF := hW2.ne_ hF2 (by decide)
  have hne' : gF ≠ gW := hne.symm
  have d0 : IntKind.i64.wrap (cut1 - (n1 : Int)) = cut1 - (n1 : Int) := by rw [IntWalk.i64_in _ (by omega)]
  obtain ⟨k, hk, hk1⟩ : ∃ k : Int, k = max (cut1 - (n1 : Int)) 0 ∧ k < 9223372036854775808 := ⟨_, rfl, by omega⟩
  have hmax : ∀ (ts : Array TypeId) (x : World), (Builtin.max_ ts 3 #[.int .i64 (cut1 - (n1 : Int)), .int .i64 0]).run Try.prog x = .ok (.int .i64 k) x := by
    intro ts x
    simp [Builtin.max_, Builtin.max2]
    split <;> omega
  have HK := Lib.hid hk
  clear hk
  go_region
  go_wp2_with fail
  refine code_gen (fun W => Blk W gW 49 #[.int .i64 cut1, .int .i64 flip1, .int .u8 y1.toNat, .int .i64 m1, .int .i64 n1, .int .i64 cut2, .int .i64 flip2, .int .u8 y2.toNat, .int .i64 m2, .int .i64 n2, .bool d] ∧ Blk W gF 23 #[.int .i64 k, .int .i64 flip1, .int .u8 y1.toNat] ∧ Off [] w W) ⟨(hW2.far hne _).drew, (hF2.set_ 0 (.int .i64 k)).drew, (ho2.setCell (.inl hlw1) _).drew⟩ ?_
  clear hcW2 hfW2 hcF2 hfF2 hlF2 hW2 hF2 ho2
  rintro W2 ⟨hW2, hF2, ho2⟩
  have hcW2 := hW2.cell
  have hfW2 := hW2.frozen
  have hcF2 := hF2.cell
  have hfF2 := hF2.frozen
  have hlF2 := hF2.lt
  go_region
  go_wp2_with fail
  refine (carry_any s _ _ y1 _ (by omega) hk1).mono ?_
  rintro e w3 ⟨⟨c, hiff, rfl⟩, ho3⟩
  have hW3 := (hW2.far hne _).drew.off ho3 (by simp)
  have ho3w : Off [gW] w w3 := (((ho2.setCell (.inl hlw1) _).drew).trans_nil ho3).mono (by simp)
  clear hcW2 hfW2 hcF2 hfF2 hlF2 hW2 hF2 ho2 ho3 hcW hlW
  have hcW3 := hW3.cell
  have hfW3 := hW3.frozen
  have e1 : IntKind.i64.wrap ((m1 : Int) + 1) = (m1 : Int) + 1 := by rw [IntWalk.i64_in _ (by omega)]
  have e2 : IntKind.i64.wrap ((n1 : Int) + (s.size : Int)) = (n1 : Int) + (s.size : Int) := by rw [IntWalk.i64_in _ (by omega)]
  by_cases hcs : c = s
  · have HC := Lib.hid (hiff.1 hcs)
    clear hiff
    subst hcs
    go_wp2_with fail
    go_ret2
    refine way_end (r := true) ?_ ⟨fun _ => HC.out, fun _ => rfl⟩ (by simp) ?_ ((ho3w.setCell (.inr (by simp)) _).setCell (.inr (by simp)) _)
    · rw [HS.out]; exact wayOk_pos _ _ _ _ _ _ _ _ (by omega) (by omega) hb hc HK.out hf0 hf1 rfl
    · have := (hW3.set_ 3 (.int .i64 ((m1 : Int) + 1))).set_ 4 (.int .i64 ((n1 : Int) + (c.size : Int)))
      rw [HS.out] at this
      simpa [waysC, WayS.add, HS.out] using this
  · have q1 : (c.toList == s.toList) = false := neq_toList hcs
    have HC := Lib.hid (fun h => hcs (hiff.2 h))
    clear hiff
    go_wp2_with fail
    go_ret2
    refine way_end (r := false) ?_ ⟨fun h => Bool.noConfusion h, fun h => absurd h HC.out⟩ (by simp) ?_ ((ho3w.setCell (.inr (by simp)) _).setCell (.inr (by simp)) _)
    · rw [HS.out]; exact wayOk_pos _ _ _ _ _ _ _ _ (by omega) (by omega) hb hc HK.out hf0 hf1 rfl
    · have := (hW3.set_ 3 (.int .i64 ((m1 : Int) + 1))).set_ 4 (.int .i64 ((n1 : Int) + (s.size : Int)))
      rw [HS.out] at this
      simpa [waysC, WayS.add, HS.out] using this

set_option maxRecDepth 100000 in
set_option maxHeartbeats 2000000 in
theorem wcarry_b1 (gW : Nat) (a b : WayS) (d : Bool) (p : ByteArray) (w : World) (hp : p.size ≤ 1048000) (hm : b.msgs ≤ 1048576) (hb : b.bytes ≤ 1099511627776) (hf : b.Fit) (hc : b.cut < 0)
    (h : Blk w gW 49 (waysC a b d)) : Calls Try.prog 19 #[.pointer (some ⟨gW, 5, none⟩), .string p] w (WayCarryPost w gW a b d true p (12 + p.size)) := by
  obtain ⟨hc0, hc1, hf0, hf1⟩ := hf
  obtain ⟨cut1, flip1, y1, m1, n1⟩ := a
  obtain ⟨cut2, flip2, y2, m2, n2⟩ := b
  simp only [waysC] at h
  simp only [] at hm hb hc hc0 hc1 hf0 hf1
  have hcW := h.cell
  have hlW := h.lt
  go_enter Try.func19, Try.ntmps19
  go_wp2_with fail
  refine (more_any _ _ _ hm (by omega)).mono ?_
  rintro e w1 ⟨⟨s, hs, rfl⟩, ho1⟩
  have HS := Lib.hid hs
  have hs1 : s.size ≤ 1048588 := by omega
  clear hs
  have hW1 := h.off ho1 (by simp)
  have hcW1 := hW1.cell
  have hlW1 := hW1.lt
  go_wp2_with fail
  refine code_gen (fun W => Blk W gW 49 #[.int .i64 cut1, .int .i64 flip1, .int .u8 y1.toNat, .int .i64 m1, .int .i64 n1, .int .i64 cut2, .int .i64 flip2, .int .u8 y2.toNat, .int .i64 m2, .int .i64 n2, .bool d] ∧ Blk W w1.heap.size 23 #[.int .i64 cut2, .int .i64 flip2, .int .u8 y2.toNat] ∧ Off [] w W) ⟨hW1.alloc _, Blk.new _ _ _, ho1.alloc _⟩ ?_
  have hlw1 := ho1.size
  clear hW1 hcW1 hlW1 ho1
  generalize w1.heap.size = gF at *
  rintro W ⟨hW2, hF2, ho2⟩
  have hcW2 := hW2.cell
  have hfW2 := hW2.frozen
  have hcF2 := hF2.cell
  have hfF2 := hF2.frozen
  have hlF2 := hF2.lt
  have hne : gW ≠ gF := hW2.ne_ hF2 (by decide)
  have hne' : gF ≠ gW := hne.symm
  go_region
  go_wp2_with fail
  refine (carry_any s _ _ y2 _ (by omega) hc1).mono ?_
  rintro e w3 ⟨⟨c, hiff, rfl⟩, ho3⟩
  have hW3 := (hW2.far hne _).drew.off ho3 (by simp)
  have ho3w : Off [gW] w w3 := (((ho2.setCell (.inl hlw1) _).drew).trans_nil ho3).mono (by simp)
  clear hcW2 hfW2 hcF2 hfF2 hlF2 hW2 hF2 ho2 ho3 hcW hlW
  have hcW3 := hW3.cell
  have hfW3 := hW3.frozen
  have e1 : IntKind.i64.wrap ((m2 : Int) + 1) = (m2 : Int) + 1 := by rw [IntWalk.i64_in _ (by omega)]
  have e2 : IntKind.i64.wrap ((n2 : Int) + (s.size : Int)) = (n2 : Int) + (s.size : Int) := by rw [IntWalk.i64_in _ (by omega)]
  by_cases hcs : c = s
  · have HC := Lib.hid (hiff.1 hcs)
    clear hiff
    subst hcs
    go_wp2_with fail
    go_ret2
    refine way_end (r := true) ?_ ⟨fun _ => HC.out, fun _ => rfl⟩ (by simp) ?_ ((ho3w.setCell (.inr (by simp)) _).setCell (.inr (by simp)) _)
    · rw [HS.out]; exact wayOk_neg _ _ _ _ _ _ _ (by omega) (by omega) hb hc hf0 hf1 rfl
    · have := (hW3.set_ 8 (.int .i64 ((m2 : Int) + 1))).set_ 9 (.int .i64 ((n2 : Int) + (c.size : Int)))
      rw [HS.out] at this
      simpa [waysC, WayS.add, HS.out] using this
  · have q1 : (c.toList == s.toList) = false := neq_toList hcs
    have HC := Lib.hid (fun h => hcs (hiff.2 h))
    clear hiff
    go_wp2_with fail
    go_ret2
    refine way_end (r := false) ?_ ⟨fun h => Bool.noConfusion h, fun h => absurd h HC.out⟩ (by simp) ?_ ((ho3w.setCell (.inr (by simp)) _).setCell (.inr (by simp)) _)
    · rw [HS.out]; exact wayOk_neg _ _ _ _ _ _ _ (by omega) (by omega) hb hc hf0 hf1 rfl
    · have := (hW3.set_ 8 (.int .i64 ((m2 : Int) + 1))).set_ 9 (.int .i64 ((n2 : Int) + (s.size : Int)))
      rw [HS.out] at this
      simpa [waysC, WayS.add, HS.out] using this

set_option maxRecDepth 100000 in
set_option maxHeartbeats 2000000 in
theorem wcarry_b2 (gW : Nat) (a b : WayS) (d : Bool) (p : ByteArray) (w : World) (hp : p.size ≤ 1048000) (hm : b.msgs ≤ 1048576) (hb : b.bytes ≤ 1099511627776) (hf : b.Fit) (hc : 0 ≤ b.cut)
    (h : Blk w gW 49 (waysC a b d)) : Calls Try.prog 19 #[.pointer (some ⟨gW, 5, none⟩), .string p] w (WayCarryPost w gW a b d true p (12 + p.size)) := by
  obtain ⟨hc0, hc1, hf0, hf1⟩ := hf
  obtain ⟨cut1, flip1, y1, m1, n1⟩ := a
  obtain ⟨cut2, flip2, y2, m2, n2⟩ := b
  simp only [waysC] at h
  simp only [] at hm hb hc hc0 hc1 hf0 hf1
  have hcW := h.cell
  have hlW := h.lt
  go_enter Try.func19, Try.ntmps19
  go_wp2_with fail
  refine (more_any _ _ _ hm (by omega)).mono ?_
  rintro e w1 ⟨⟨s, hs, rfl⟩, ho1⟩
  have HS := Lib.hid hs
  have hs1 : s.size ≤ 1048588 := by omega
  clear hs
  have hW1 := h.off ho1 (by simp)
  have hcW1 := hW1.cell
  have hlW1 := hW1.lt
  go_wp2_with fail
  refine code_gen (fun W => Blk W gW 49 #[.int .i64 cut1, .int .i64 flip1, .int .u8 y1.toNat, .int .i64 m1, .int .i64 n1, .int .i64 cut2, .int .i64 flip2, .int .u8 y2.toNat, .int .i64 m2, .int .i64 n2, .bool d] ∧ Blk W w1.heap.size 23 #[.int .i64 cut2, .int .i64 flip2, .int .u8 y2.toNat] ∧ Off [] w W) ⟨hW1.alloc _, Blk.new _ _ _, ho1.alloc _⟩ ?_
  have hlw1 := ho1.size
  clear hW1 hcW1 hlW1 ho1
  generalize w1.heap.size = gF at *
  rintro W ⟨hW2, hF2, ho2⟩
  have hcW2 := hW2.cell
  have hfW2 := hW2.frozen
  have hcF2 := hF2.cell
  have hfF2 := hF2.frozen
  have hlF2 := hF2.lt
  have hne : gW ≠ gF := hW2.ne_ hF2 (by decide)
  have hne' : gF ≠ gW := hne.symm
  have d0 : IntKind.i64.wrap (cut2 - (n2 : Int)) = cut2 - (n2 : Int) := by rw [IntWalk.i64_in _ (by omega)]
  obtain ⟨k, hk, hk1⟩ : ∃ k : Int, k = max (cut2 - (n2 : Int)) 0 ∧ k < 9223372036854775808 := ⟨_, rfl, by omega⟩
  have hmax : ∀ (ts : Array TypeId) (x : World), (Builtin.max_ ts 3 #[.int .i64 (cut2 - (n2 : Int)), .int .i64 0]).run Try.prog x = .ok (.int .i64 k) x := by
    intro ts x
    simp [Builtin.max_, Builtin.max2]
    split <;> omega
  have HK := Lib.hid hk
  clear hk
  go_region
  go_wp2_with fail
  refine code_gen (fun W => Blk W gW 49 #[.int .i64 cut1, .int .i64 flip1, .int .u8 y1.toNat, .int .i64 m1, .int .i64 n1, .int .i64 cut2, .int .i64 flip2, .int .u8 y2.toNat, .int .i64 m2, .int .i64 n2, .bool d] ∧ Blk W gF 23 #[.int .i64 k, .int .i64 flip2, .int .u8 y2.toNat] ∧ Off [] w W) ⟨(hW2.far hne _).drew, (hF2.set_ 0 (.int .i64 k)).drew, (ho2.setCell (.inl hlw1) _).drew⟩ ?_
  clear hcW2 hfW2 hcF2 hfF2 hlF2 hW2 hF2 ho2
  rintro W2 ⟨hW2, hF2, ho2⟩
  have hcW2 := hW2.cell
  have hfW2 := hW2.frozen
  have hcF2 := hF2.cell
  have hfF2 := hF2.frozen
  have hlF2 := hF2.lt
  go_region
  go_wp2_with fail
  refine (carry_any s _ _ y2 _ (by omega) hk1).mono ?_
  rintro e w3 ⟨⟨c, hiff, rfl⟩, ho3⟩
  have hW3 := (hW2.far hne _).drew.off ho3 (by simp)
  have ho3w : Off [gW] w w3 := (((ho2.setCell (.inl hlw1) _).drew).trans_nil ho3).mono (by simp)
  clear hcW2 hfW2 hcF2 hfF2 hlF2 hW2 hF2 ho2 ho3 hcW hlW
  have hcW3 := hW3.cell
  have hfW3 := hW3.frozen
  have e1 : IntKind.i64.wrap ((m2 : Int) + 1) = (m2 : Int) + 1 := by rw [IntWalk.i64_in _ (by omega)]
  have e2 : IntKind.i64.wrap ((n2 : Int) + (s.size : Int)) = (n2 : Int) + (s.size : Int) := by rw [IntWalk.i64_in _ (by omega)]
  by_cases hcs : c = s
  · have HC := Lib.hid (hiff.1 hcs)
    clear hiff
    subst hcs
    go_wp2_with fail
    go_ret2
    refine way_end (r := true) ?_ ⟨fun _ => HC.out, fun _ => rfl⟩ (by simp) ?_ ((ho3w.setCell (.inr (by simp)) _).setCell (.inr (by simp)) _)
    · rw [HS.out]; exact wayOk_pos _ _ _ _ _ _ _ _ (by omega) (by omega) hb hc HK.out hf0 hf1 rfl
    · have := (hW3.set_ 8 (.int .i64 ((m2 : Int) + 1))).set_ 9 (.int .i64 ((n2 : Int) + (c.size : Int)))
      rw [HS.out] at this
      simpa [waysC, WayS.add, HS.out] using this
  · have q1 : (c.toList == s.toList) = false := neq_toList hcs
    have HC := Lib.hid (fun h => hcs (hiff.2 h))
    clear hiff
    go_wp2_with fail
    go_ret2
    refine way_end (r := false) ?_ ⟨fun h => Bool.noConfusion h, fun h => absurd h HC.out⟩ (by simp) ?_ ((ho3w.setCell (.inr (by simp)) _).setCell (.inr (by simp)) _)
    · rw [HS.out]; exact wayOk_pos _ _ _ _ _ _ _ _ (by omega) (by omega) hb hc HK.out hf0 hf1 rfl
    · have := (hW3.set_ 8 (.int .i64 ((m2 : Int) + 1))).set_ 9 (.int .i64 ((n2 : Int) + (s.size : Int)))
      rw [HS.out] at this
      simpa [waysC, WayS.add, HS.out] using this


/-- both directions, the one at hand first -/
def wayB (back : Bool) (x y : WayS) (d : Bool) : Array Value := if back then waysC y x d else waysC x y d
def bo (back : Bool) : Nat := if back then 5 else 0
def WayPost (w : World) (gW : Nat) (x y : WayS) (d : Bool) (back : Bool) (v : Value) (n : Nat) (e : Ending) (w' : World) : Prop :=
  e = .returned v ∧ Blk w' gW 49 (wayB back (x.add n) y d) ∧ Off [gW] w w'
theorem wcarry_yes (gW o : Nat) (x y : WayS) (d back : Bool) (p : ByteArray) (w : World) (ho : o = bo back) (hp : p.size ≤ 1048000) (hm : x.msgs ≤ 1048576) (hb : x.bytes ≤ 1099511627776) (hf : x.Fit) (hok : x.ok (12 + p.size) = true)
    (h : Blk w gW 49 (wayB back x y d)) : Calls Try.prog 19 #[.pointer (some ⟨gW, o, none⟩), .string p] w (WayPost w gW x y d back (.tuple #[.string p, .bool true]) (12 + p.size)) := by
  subst ho
  cases back
  · by_cases hc : x.cut < 0
    · refine (wcarry_a1 gW x y d p w hp hm hb hf hc h).mono fun e w' ⟨h1, h2, h3⟩ => ⟨?_, h2, h3⟩
      simpa [hok] using h1
    · refine (wcarry_a2 gW x y d p w hp hm hb hf (by omega) h).mono fun e w' ⟨h1, h2, h3⟩ => ⟨?_, h2, h3⟩
      simpa [hok] using h1
  · by_cases hc : x.cut < 0
    · refine (wcarry_b1 gW y x d p w hp hm hb hf hc h).mono fun e w' ⟨h1, h2, h3⟩ => ⟨?_, h2, h3⟩
      simpa [hok] using h1
    · refine (wcarry_b2 gW y x d p w hp hm hb hf (by omega) h).mono fun e w' ⟨h1, h2, h3⟩ => ⟨?_, h2, h3⟩
      simpa [hok] using h1
theorem wcarry_no (gW o : Nat) (x y : WayS) (d back : Bool) (p : ByteArray) (w : World) (ho : o = bo back) (hp : p.size ≤ 1048000) (hm : x.msgs ≤ 1048576) (hb : x.bytes ≤ 1099511627776) (hf : x.Fit) (hok : x.ok (12 + p.size) = false)
    (h : Blk w gW 49 (wayB back x y d)) : Calls Try.prog 19 #[.pointer (some ⟨gW, o, none⟩), .string p] w (WayPost w gW x y d back (.tuple #[.string ⟨#[]⟩, .bool false]) (12 + p.size)) := by
  subst ho
  cases back
  · by_cases hc : x.cut < 0
    · refine (wcarry_a1 gW x y d p w hp hm hb hf hc h).mono fun e w' ⟨h1, h2, h3⟩ => ⟨?_, h2, h3⟩
      simpa [hok] using h1
    · refine (wcarry_a2 gW x y d p w hp hm hb hf (by omega) h).mono fun e w' ⟨h1, h2, h3⟩ => ⟨?_, h2, h3⟩
      simpa [hok] using h1
  · by_cases hc : x.cut < 0
    · refine (wcarry_b1 gW y x d p w hp hm hb hf hc h).mono fun e w' ⟨h1, h2, h3⟩ => ⟨?_, h2, h3⟩
      simpa [hok] using h1
    · refine (wcarry_b2 gW y x d p w hp hm hb hf (by omega) h).mono fun e w' ⟨h1, h2, h3⟩ => ⟨?_, h2, h3⟩
      simpa [hok] using h1
end Go.Proofs.Ytpaeihdkggbeoaa
