/- The walks of the sender's Ack and Send with one call. Conditions: a text of at most 65536 bytes. -/
import Derived.Test.YtpaeihdkggbeoaaOut
namespace Go.Proofs.Ytpaeihdkggbeoaa
open Go.RowKit Go.Op

set_option maxRecDepth 100000 in
theorem ack_any (gO gL gS cap : Nat) (cur : Array Value) (t : ByteArray) (b : Bool) (s a n : Nat) (w : World) (ha : a ≤ n) (hn : n ≤ s) (_hs : s < 1099511627776) (h : OutAt w gO gL gS cap cur t b s a) :
    Calls Try.prog 23 #[.pointer (some ⟨gO, 0, none⟩), .int .i64 0, .int .i64 n] w fun e w' => e = .returned (.int .i64 0) ∧ OutAt w' gO gL gS cap cur t b s n ∧ Off [gS] w w' := by
  have hcO := h.o.cell
  have hcL := h.l.cell
  have hc0 := h.c
  have hk := h.k
  have hcS := h.s.cell
  have hfS := h.s.frozen
  have n1 : gO ≠ gS := h.o.ne_ h.s (by decide)
  have n2 : gL ≠ gS := h.l.ne_ h.s (by decide)
  go_enter Try.func23, Try.ntmps23
  go_wp2_with (go_at_call 44; go_in)
  go_ret
  exact ⟨rfl, ⟨h.o.far n1 _, h.l.far n2 _, h.c, h.k, h.s.set_ 3 _⟩, (Off.refl _ _).setCell (.inr (by simp)) _⟩

theorem keepA' {w wa wb : World} {g : Nat} {cs : Array Value} (ho : Off [] wa wb) (h : Off [] w wa ∧ g < wa.heap.size ∧ ∀ i, wa.cell? ⟨g, i, none⟩ = cs[i]?) :
    Off [] w wb ∧ g < wb.heap.size ∧ ∀ i, wb.cell? ⟨g, i, none⟩ = cs[i]? :=
  ⟨h.1.trans_nil ho, Nat.lt_of_lt_of_le h.2.1 ho.size, fun i => (ho.cell (p := ⟨g, i, none⟩) h.2.1 (by simp)).trans (h.2.2 i)⟩
theorem keepB' {w wa : World} {g : Nat} {cs : Array Value} {o : Obj} (h : Off [] w wa ∧ g < wa.heap.size ∧ ∀ i, wa.cell? ⟨g, i, none⟩ = cs[i]?) :
    Off [] w (wa.alloc o) ∧ g < (wa.alloc o).heap.size ∧ ∀ i, (wa.alloc o).cell? ⟨g, i, none⟩ = cs[i]? :=
  keepA' ((Off.refl _ _).alloc _) h

theorem info3 : (Try.prog.info? 3).map (fun i => (i.zero, i.size, i.bytes)) = some (some (.int .i64 0), 1, 8) := by kernel_rfl

def sendN (t : ByteArray) (s : Nat) : Nat := min (t.size - s) 1024
def SendPost (w : World) (gO gL gS cap : Nat) (cur : Array Value) (t : ByteArray) (s : Nat) (e : Ending) (w' : World) : Prop :=
  e = .returned (.tuple #[.agg #[.int .i64 0, .int .i64 s, .string (t.extract s (s + sendN t s)), .bool (decide (s + sendN t s = t.size))], .bool true]) ∧ OutAt w' gO gL gS cap cur t true (s + sendN t s) s ∧ Off [gS] w w'
theorem send_end {w w2 : World} {gO gL gS cap s N : Nat} {cur : Array Value} {t : ByteArray} {b : Bool} (hN : sendN t s = N) (ho : Off [] w w2)
    (hO : Blk w2 gO 84 #[.int .i64 4096, .int .i64 1024, .slice (some ⟨gL, 0, none⟩) 1 cap]) (hL : Blk w2 gL 89 cur) (hS : Blk w2 gS 93 #[.string t, .bool b, .int .i64 s, .int .i64 s])
    (hc : cur[0]? = some (.pointer (some ⟨gS, 0, none⟩))) (hk : 1 ≤ cap) (n1 : gO ≠ gS) (n2 : gL ≠ gS) (n3 : gS ≠ w.heap.size) (n5 : gO ≠ w.heap.size) (n6 : gL ≠ w.heap.size) (F : Obj) :
    SendPost w gO gL gS cap cur t s (.returned (.tuple #[.agg #[.int .i64 0, .int .i64 s, .string (t.extract s (s + N)), .bool ((s : Int) + (N : Int) == (t.size : Int))], .bool true]))
      (((((((w2.setCell ⟨gS, 2, none⟩ (.int .i64 ((s : Int) + (N : Int)))).setCell ⟨gS, 1, none⟩ (.bool true)).setCell ⟨w.heap.size, 0, none⟩ (.int .i64 0)).setCell ⟨w.heap.size, 1, none⟩ (.int .i64 s)).setCell ⟨w.heap.size, 2, none⟩ (.string (t.extract s (s + N)))).setCell ⟨w.heap.size, 3, none⟩ (.bool ((s : Int) + (N : Int) == (t.size : Int)))).alloc F).drew.drew := by
  subst hN
  have hb : ((s : Int) + (sendN t s : Int) == (t.size : Int)) = decide (s + sendN t s = t.size) := by
    rw [Bool.eq_iff_iff]; simp only [beq_iff_eq, decide_eq_true_eq]; omega
  refine ⟨by rw [hb], ⟨?_, ?_, hc, hk, ?_⟩, ?_⟩
  · exact (((((((hO.far n1 _).far n1 _).far n5 _).far n5 _).far n5 _).far n5 _).alloc _).drew.drew
  · exact (((((((hL.far n2 _).far n2 _).far n6 _).far n6 _).far n6 _).far n6 _).alloc _).drew.drew
  · have := (((((((hS.set_ 2 (.int .i64 ((s : Int) + (sendN t s : Int)))).set_ 1 (.bool true)).far (p := ⟨w.heap.size, 0, none⟩) n3 (.int .i64 0)).far (p := ⟨w.heap.size, 1, none⟩) n3 (.int .i64 s)).far (p := ⟨w.heap.size, 2, none⟩) n3 (.string (t.extract s (s + sendN t s)))).far (p := ⟨w.heap.size, 3, none⟩) n3 (.bool ((s : Int) + (sendN t s : Int) == (t.size : Int)))).alloc F).drew.drew
    exact this
  · exact ((((((((ho.mono (l' := [gS]) (by simp)).setCell (.inr (by simp)) _).setCell (.inr (by simp)) _).setCell (.inl (Nat.le_refl _)) _).setCell (.inl (Nat.le_refl _)) _).setCell (.inl (Nat.le_refl _)) _).setCell (.inl (Nat.le_refl _)) _).alloc _).drew.drew
set_option maxRecDepth 100000 in
set_option maxHeartbeats 2000000 in
theorem send_any (gO gL gS cap : Nat) (cur : Array Value) (t : ByteArray) (b : Bool) (s : Nat) (w : World) (hs : s ≤ t.size) (ht : t.size ≤ 65536) (hw : waitsB t b s = true) (h : OutAt w gO gL gS cap cur t b s s) :
    Calls Try.prog 18 #[.pointer (some ⟨gO, 0, none⟩), .int .i64 0] w (SendPost w gO gL gS cap cur t s) := by
  obtain ⟨i0, hi, hz0, hz1, hz2⟩ := info_parts info3
  obtain ⟨W, hW⟩ : ∃ W, W = w.alloc (.cells #[.int .i64 0, .int .i64 0, .string ⟨#[]⟩, .bool false] 66) := ⟨_, rfl⟩
  have hO : Blk W gO 84 #[.int .i64 4096, .int .i64 1024, .slice (some ⟨gL, 0, none⟩) 1 cap] := by rw [hW]; exact h.o.alloc _
  have hL : Blk W gL 89 cur := by rw [hW]; exact h.l.alloc _
  have hS : Blk W gS 93 #[.string t, .bool b, .int .i64 s, .int .i64 s] := by rw [hW]; exact h.s.alloc _
  have hR : Blk W w.heap.size 66 #[.int .i64 0, .int .i64 0, .string ⟨#[]⟩, .bool false] := by rw [hW]; exact Blk.new _ _ _
  have hoW : Off [] w W := by rw [hW]; exact (Off.refl _ _).alloc _
  have hcW : ∀ i, w.cell? ⟨gO, i, none⟩ = _ := h.o.cell
  have hcO := hO.cell
  have hcL := hL.cell
  have hc0 := h.c
  have hk := h.k
  have hcS := hS.cell
  have hfS := hS.frozen
  have hlO := hO.lt
  have hlL := hL.lt
  have hlS := hS.lt
  have hlw : gO < w.heap.size := h.o.lt
  have n1 : gO ≠ gS := h.o.ne_ h.s (by decide)
  have n2 : gL ≠ gS := h.l.ne_ h.s (by decide)
  have HW := Lib.hid hW
  clear hW
  go_enter Try.func18, Try.ntmps18
  go_wp2_with fail
  rw [← HW.out]
  refine wp_loop_rounds 2 ?_
  rw [rounds_succ]
  go_wp2_with fail
  go_region_held3 (fun w' => Same W w' ∧ (∀ i, w'.cell? ⟨gO, i, none⟩ = (#[Value.int .i64 4096, .int .i64 1024, .slice (some ⟨gL, 0, none⟩) 1 cap] : Array Value)[i]?) ∧ (∀ i, w'.cell? ⟨gS, i, none⟩ = (#[Value.string t, .bool b, .int .i64 s, .int .i64 s] : Array Value)[i]?)) (first | assumption | exact ⟨Same.refl _, hcO, hcS⟩ ) (first
    | (go_at_call 31; refine (waits_any gS t b s s _ (by first | assumption | simp [*])).mono ?_; rw [hw]; rintro e w1 ⟨rfl, n, rfl⟩)
    | (go_at_call 32; refine (way_any gS t b s s _ (by omega) (by omega) (by first | assumption | simp [*])).mono ?_; rintro e w1 ⟨rfl, n, rfl⟩))
  clear hcO hcL hcS hfS hlO hlL hlS
  go_wp2_with (at_builtin; refine wpList_append_own _ rfl _ _ 86 rfl W.heap.size 3 i0 (.int .i64 0) 1 8 Try.underlying86 hi hz0 hz1 hz2 rfl (by decide) _ 0 [] rfl ⟨rfl, .inl ⟨rfl, rfl⟩⟩ ⟨W.heap.size, 0, none⟩ 1 1 [_] rfl rfl (cell_one_at (Blk.new (W.drewN _) _ _)) (by simp [Value.oneCell']) (by unfold maxLen; omega) (by omega) (by simp) ?_; intro v' w1 hown' hgrow _; obtain ⟨gM, capM, rfl⟩ := ownsRow_succ (k := 0) hown')
  rw [rounds_succ]
  obtain ⟨curM, hM1, hbM, hkM, hcurM⟩ := own_blk (by assumption) (by omega)
  have hgrow := (by assumption : World.grownBy _ _ _)
  have hO1 := ((hO.drewN _).alloc _).grown hgrow (by simp [Value.ownBlock, Act.eval])
  have hL1 := ((hL.drewN _).alloc _).grown hgrow (by simp [Value.ownBlock, Act.eval])
  have hS1 := ((hS.drewN _).alloc _).grown hgrow (by simp [Value.ownBlock, Act.eval])
  have hR1 := ((hR.drewN _).alloc _).grown hgrow (by simp [Value.ownBlock, Act.eval])
  have hoW1 : Off [] w _ := ((hoW.drewN _).alloc _).grown hgrow (by simp [Value.ownBlock, Act.eval])
  have hM0 : curM[0]? = some (.int .i64 0) := hcurM 0 _ rfl
  clear hgrow hcurM
  have hcO1 := hO1.cell
  have hcL1 := hL1.cell
  have hcS1 := hS1.cell
  have hcM1 := hM1.cell
  have hfS1 := hS1.frozen
  have hcR1 := hR1.cell
  have hfR1 := hR1.frozen
  have hlO1 := hO1.lt
  have hlS1 := hS1.lt
  have hlR1 := hR1.lt
  obtain ⟨m, N, hm, hN, HNN, hmin⟩ : ∃ m N : Nat, t.size = s + m ∧ N ≤ m ∧ Hid (sendN t s = N) ∧ ∀ (ts : Array TypeId) (x : World), (Builtin.min_ ts 3 #[.int .i64 m, .int .i64 1024, .int .i64 4096]).run Try.prog x = .ok (.int .i64 N) x := by
    refine ⟨t.size - s, sendN t s, by omega, by unfold sendN; omega, rfl, fun ts x => ?_⟩
    rw [run_min_int3]
    unfold sendN
    congr 2
    split <;> split <;> omega
  have d1 : IntKind.i64.wrap ((t.size : Int) - (s : Int)) = (m : Int) := by rw [IntWalk.i64_in _ (by omega)]; omega
  have d2 : IntKind.i64.wrap 4096 = 4096 := by decide
  have HM := Lib.hid hm
  have hm1 : s + m ≤ t.size := by omega
  have hm2 : t.size ≤ s + m := by omega
  clear hm
  go_wp2_with fail
  go_region_held3 (fun w' => Same w1 w' ∧ (∀ i, w'.cell? ⟨gO, i, none⟩ = (#[Value.int .i64 4096, .int .i64 1024, .slice (some ⟨gL, 0, none⟩) 1 cap] : Array Value)[i]?) ∧ (∀ i, w'.cell? ⟨gS, i, none⟩ = (#[Value.string t, .bool b, .int .i64 s, .int .i64 s] : Array Value)[i]?)) (first | assumption | exact ⟨Same.refl _, hcO1, hcS1⟩ ) (first
    | (go_at_call 32; refine (way_any gS t b s s _ (by omega) (by omega) (by first | assumption | simp [*])).mono ?_; rintro e w1 ⟨rfl, n, rfl⟩))
  have hO2 := hO1.drewN (1 + n)
  have hL2 := hL1.drewN (1 + n)
  have hS2 := hS1.drewN (1 + n)
  have hR2 := hR1.drewN (1 + n)
  have hoW2 := hoW1.drewN (1 + n)
  clear hO1 hL1 hS1 hR1 hoW1 hcO1 hcL1 hcS1 hcM1 hfS1 hcR1 hfR1 hlO1 hlS1 hlR1
  generalize w1.drewN (1 + n) = w2 at *
  have hcS2 := hS2.cell
  have hfS2 := hS2.frozen
  have hcR2 := hR2.cell
  have hfR2 := hR2.frozen
  have hlS2 := hS2.lt
  have hlR2 := hR2.lt
  have hsl : ∀ wx : World, (Instr.slice 9 (.string t) (some (.int .i64 (s : Int))) (some (.int .i64 ((s : Int) + (N : Int)))) none).run Try.prog wx = .ok (.string (t.extract s (s + N))) wx := fun wx => by
    rw [run_slice_string (w := wx) 9 t .i64 .i64 (s : Int) ((s : Int) + (N : Int)) Try.underlying9 (by omega) (by omega) (by omega)]
    congr 2
  have d3 : IntKind.i64.wrap ((s : Int) + (N : Int)) = (s : Int) + (N : Int) := by rw [IntWalk.i64_in _ (by omega)]
  go_wp2_with fail
  go_region
  have n3 : gS ≠ w.heap.size := hS2.ne_ hR2 (by decide)
  have n4 : w.heap.size ≠ gS := n3.symm
  have n5 : gO ≠ w.heap.size := hO2.ne_ hR2 (by decide)
  have n6 : gL ≠ w.heap.size := hL2.ne_ hR2 (by decide)
  go_wp2_with fail
  go_region
  go_wp2_with fail
  refine bodyPost_ret (v := .tuple #[.agg #[.int .i64 0, .int .i64 s, .string (t.extract s (s + N)), .bool ((s : Int) + (N : Int) == (t.size : Int))], .bool true]) (by simp [results, Try.results18, go_sem, hcR2, hlR2]) rfl ?_
  exact send_end HNN.out hoW2 hO2 hL2 hS2 h.c h.k n1 n2 n3 n5 n6 _
end Go.Proofs.Ytpaeihdkggbeoaa
