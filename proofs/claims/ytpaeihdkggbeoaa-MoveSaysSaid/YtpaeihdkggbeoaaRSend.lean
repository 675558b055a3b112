/- The walk of the reference's Send with one call. Conditions: a text of at most 65536 bytes. -/
import Derived.Test.YtpaeihdkggbeoaaROut
import Derived.Test.YtpaeihdkggbeoaaIn
namespace Go.Proofs.Ytpaeihdkggbeoaa
open Go.RowKit Go.Op

set_option maxRecDepth 100000 in
set_option maxHeartbeats 4000000 in
theorem rsend (gO gL cap : Nat) (cur : Array Value) (t : ByteArray) (b : Bool) (s : Nat) (w : World) (hs : s ≤ t.size) (ht : t.size ≤ 65536) (hw : waitsB t b s = true) (h : ROutAt w gO gL cap cur t b s s) :
    Calls Try.prog 27 #[.pointer (some ⟨gO, 0, none⟩), .int .i64 0] w (RSendPost w gO gL cap t s) := by
  obtain ⟨i0, hi, hz0, hz1, hz2⟩ := info_parts info3
  have h_ := Lib.hid h
  obtain ⟨hO0, hL0, hk, hc0, hc1, hc2, hc3, hc4⟩ := h
  have HW := Lib.hid hw
  clear hw
  go_enter Try.func27, Try.ntmps27
  go_wp2_with fail
  refine code_gen (fun W => Blk W gO 79 #[.int .i64 4096, .int .i64 1024, .slice (some ⟨gL, 0, none⟩) 1 cap] ∧ Blk W gL 108 cur ∧ Blk W w.heap.size 66 #[.int .i64 0, .int .i64 0, .string ⟨#[]⟩, .bool false] ∧ Off [] w W) ⟨hO0.alloc _, hL0.alloc _, Blk.new _ _ _, (Off.refl _ _).alloc _⟩ ?_
  clear hO0 hL0
  rintro W ⟨hO, hL, hR, hoW⟩
  have hcO := hO.cell
  have hcL := hL.cell
  have hlO := hO.lt
  have hlL := hL.lt
  refine wp_loop_rounds 2 ?_
  rw [rounds_succ]
  go_wp2_with fail
  go_region_held3 (fun w' => Off [] W w' ∧ (gO < w'.heap.size ∧ gL < w'.heap.size) ∧ (∀ i, w'.cell? ⟨gO, i, none⟩ = (#[Value.int .i64 4096, .int .i64 1024, .slice (some ⟨gL, 0, none⟩) 1 cap] : Array Value)[i]?) ∧ ∀ i, w'.cell? ⟨gL, i, none⟩ = cur[i]?) (first | assumption | exact ⟨(Off.refl _ _).drew, ⟨hlO, hlL⟩, hcO, hcL⟩ | exact keepA2 (by assumption) (by assumption)) (first
    | (go_at_call 45; refine (rwaits t b false s s _).mono ?_; rw [HW.out]; rintro e w1 ⟨rfl, ho⟩))
  obtain ⟨hoX, -, -, -⟩ := (by assumption : Off [] W _ ∧ _ ∧ _ ∧ _)
  have hOX := hO.off hoX (by simp)
  have hLX := hL.off hoX (by simp)
  have hRX := hR.off hoX (by simp)
  have hoWX := hoW.trans_nil hoX
  have hzX := hoWX.size
  clear hO hL hR hoW hcO hcL hlO hlL
  go_wp2_with (at_builtin; refine wpList_append_own _ rfl _ _ 86 rfl w.heap.size 3 i0 (.int .i64 0) 1 8 Try.underlying86 hi hz0 hz1 hz2 rfl (by decide) _ 0 [] rfl ⟨rfl, .inl ⟨rfl, rfl⟩⟩ _ 1 1 [_] rfl rfl (cell_one_new _ _ _) (by simp [Value.oneCell']) (by unfold maxLen; omega) (by omega) (by simp; omega) ?_; intro v' w2 hown' hgrow _; obtain ⟨gM, capM, rfl⟩ := ownsRow_succ (k := 0) hown'; have hO2 := (hOX.alloc _).grown hgrow (by simp [Value.ownBlock, Act.eval]); have hcO2 := hO2.cell)
  rw [rounds_succ]
  obtain ⟨curM, hM2, hbM, hkM, hcurM⟩ := own_blk (by assumption) (by omega)
  have hgrow := (by assumption : World.grownBy _ _ _)
  have hL2 := (hLX.alloc _).grown hgrow (by simp [Value.ownBlock, Act.eval])
  have hR2 := (hRX.alloc _).grown hgrow (by simp [Value.ownBlock, Act.eval])
  have hoW2 : Off [] w _ := (hoWX.alloc _).grown hgrow (by simp [Value.ownBlock, Act.eval])
  have hM0 : curM[0]? = some (.int .i64 0) := hcurM 0 _ rfl
  clear hgrow hcurM
  have hcM2 := hM2.cell
  have hcL2 := hL2.cell
  go_wp2_with fail
  refine code_gen (fun W => Blk W gO 79 #[.int .i64 4096, .int .i64 1024, .slice (some ⟨gL, 0, none⟩) 1 cap] ∧ Blk W gL 108 cur ∧ Blk W w.heap.size 66 #[.int .i64 0, .int .i64 0, .string ⟨#[]⟩, .bool false] ∧ Off [] w W ∧ Blk W w2.heap.size 108 #[.string t, .int .i64 s, .int .i64 s, .bool b, .bool false]) ⟨hO2.alloc _, hL2.alloc _, hR2.alloc _, hoW2.alloc _, Blk.new _ _ _⟩ ?_
  have hlC : gL < w2.heap.size := hL2.lt
  have hwC : w.heap.size < w2.heap.size := hR2.lt
  clear hO2 hcO2 hL2 hR2 hoW2 hcM2 hcL2 hOX hLX hRX hoWX hzX hoX
  generalize w2.heap.size = gC at *
  rintro W3 ⟨hO3, hL3, hR3, hoW3, hC3⟩
  obtain ⟨m, N, hm, hN, HNN, hmin⟩ : ∃ m N : Nat, t.size = s + m ∧ N ≤ m ∧ Hid (sendN t s = N) ∧ ∀ (ts : Array TypeId) (x : World), (Builtin.min_ ts 3 #[.int .i64 m, .int .i64 1024, .int .i64 4096]).run Try.prog x = .ok (.int .i64 N) x := by
    refine ⟨t.size - s, sendN t s, by omega, by unfold sendN; omega, rfl, fun ts x => ?_⟩
    rw [run_min_int3]
    unfold sendN
    congr 2
    split <;> split <;> omega
  have d0 : IntKind.i64.wrap 0 = 0 := by decide
  have d1 : IntKind.i64.wrap ((t.size : Int) - (s : Int)) = (m : Int) := by rw [IntWalk.i64_in _ (by omega)]; omega
  have d2 : IntKind.i64.wrap 4096 = 4096 := by decide
  have HM := Lib.hid hm
  have hm1 : s + m ≤ t.size := by omega
  have hm2 : t.size ≤ s + m := by omega
  clear hm
  have hcO3 := hO3.cell
  have hcC3 := hC3.cell
  go_region
  go_wp2_with fail
  refine code_gen (fun W => Blk W gO 79 #[.int .i64 4096, .int .i64 1024, .slice (some ⟨gL, 0, none⟩) 1 cap] ∧ Blk W gL 108 cur ∧ Blk W w.heap.size 66 #[.int .i64 0, .int .i64 0, .string ⟨#[]⟩, .bool false] ∧ Off [] w W ∧ Blk W gC 108 #[.string t, .int .i64 s, .int .i64 s, .bool b, .bool false]) ⟨hO3.drew, hL3.drew, hR3.drew, hoW3.drew, hC3.drew⟩ ?_
  clear hO3 hL3 hR3 hoW3 hC3 hcO3 hcC3
  rintro W4 ⟨hO4, hL4, hR4, hoW4, hC4⟩
  have hsl : ∀ wx : World, (Instr.slice 9 (.string t) (some (.int .i64 (s : Int))) (some (.int .i64 ((s : Int) + (N : Int)))) none).run Try.prog wx = .ok (.string (t.extract s (s + N))) wx := fun wx => by
    rw [run_slice_string (w := wx) 9 t .i64 .i64 (s : Int) ((s : Int) + (N : Int)) Try.underlying9 (by omega) (by omega) (by omega)]
    congr 2
  have d3 : IntKind.i64.wrap ((s : Int) + (N : Int)) = (s : Int) + (N : Int) := by rw [IntWalk.i64_in _ (by omega)]
  have hcC4 := hC4.cell
  have hlC4 := hC4.lt
  have hfC4 := hC4.frozen
  go_region_held3 (fun w' => Off [] W4 w' ∧ gC < w'.heap.size ∧ ∀ i, w'.cell? ⟨gC, i, none⟩ = (#[Value.string t, .int .i64 s, .int .i64 s, .bool b, .bool false] : Array Value)[i]?) (first | exact ⟨(Off.refl _ _).drew, hlC4, hcC4⟩ | assumption | exact ⟨((Off.refl _ _).alloc _).drew, (hC4.alloc _).drew.lt, (hC4.alloc _).drew.cell⟩ | exact keepB' (by assumption)) (fail)
  go_wp2_with fail
  have hcO4 := hO4.cell
  have hcL4 := hL4.cell
  have hfL4 := hL4.frozen
  have hlL4 := hL4.lt
  have hlO4 := hO4.lt
  have hcR4 := hR4.cell
  have hfR4 := hR4.frozen
  have hlR4 := hR4.lt
  have n1 : gL ≠ gC := by omega
  have n2 : gC ≠ gL := by omega
  have n3 : gO ≠ gC := hO4.ne_ hC4 (by decide)
  have n4 : gO ≠ gL := hO4.ne_ hL4 (by decide)
  have n5 : w.heap.size ≠ gC := by omega
  have n6 : w.heap.size ≠ gL := hR4.ne_ hL4 (by decide)
  have n7 : gC ≠ w.heap.size := by omega
  have n8 : gL ≠ w.heap.size := Ne.symm n6
  have n9 : gO ≠ w.heap.size := hO4.ne_ hR4 (by decide)
  go_region
  go_wp2_with fail
  refine bodyPost_ret (v := .tuple #[.agg #[.int .i64 0, .int .i64 s, .string (t.extract s (s + N)), .bool ((s : Int) + (N : Int) == (t.size : Int))], .bool true]) (by simp [results, Try.results27, go_sem, hcR4, hlR4]) rfl ?_
  exact rsend_end h_.out HNN.out hoW4 hO4 hL4 n1 n3 n4 n8 n9 (Nat.le_of_lt hwC)
end Go.Proofs.Ytpaeihdkggbeoaa
