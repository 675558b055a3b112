/- The walk of MoveSays. Conditions: none beyond the arguments' kinds. -/
import Derived.Test.YtpaeihdkggbeoaaNewT
import Derived.Deep.Slices
import Derived.Deep.QuietTactic
import Derived.BigQuiet
namespace Go.Proofs.Ytpaeihdkggbeoaa
open Go.RowKit Go.Op

/-- the row of messages -/
def SayIn (w : World) (a : Addr) (n : Nat) : Prop := ∀ i, i < n → ∃ (b : Bool) (t : ByteArray), w.cell? (a.add (i * 2)) = some (.bool b) ∧ w.cell? (a.add (i * 2 + 1)) = some (.string t)

structure MAt (w0 wr : World) (gT gW gR k : Nat) (s : TalkS) : Prop where
  t : Blk wr gT 51 #[.pointer (some ⟨gW, 0, none⟩), .bool false]
  w : Blk wr gW 49 s.cells
  r : Blk wr gR 34 s.rcells
  lim : s.Lim k
  off : Off [] w0 wr
theorem add_block (a : Addr) (i : Nat) : (a.add i).block = a.block := by
  unfold Addr.add; split <;> rfl
theorem sent_sym {s : TalkS} {bk : Bool} {w : World} {args : Array Value} (h : Calls Try.prog 8 args w (SentP s bk w)) : Calls Try.prog 8 args w fun e w' => e = .returned (.int .i64 (s.way bk).bytes) ∧ w' = w := h.mono fun _ _ ⟨a, b⟩ => ⟨a, b.symm⟩
theorem sent_f (gT gW : Nat) (s : TalkS) (w : World) (h : Blk w gT 51 #[.pointer (some ⟨gW, 0, none⟩), .bool false]) (hW : Blk w gW 49 s.cells) :
    Calls Try.prog 8 #[.pointer (some ⟨gT, 0, none⟩), .bool false] w fun e w' => e = .returned (.int .i64 s.a.bytes) ∧ w' = w := sent_sym (sent_any gT gW false false s w h hW)
theorem sent_t (gT gW : Nat) (s : TalkS) (w : World) (h : Blk w gT 51 #[.pointer (some ⟨gW, 0, none⟩), .bool false]) (hW : Blk w gW 49 s.cells) :
    Calls Try.prog 8 #[.pointer (some ⟨gT, 0, none⟩), .bool true] w fun e w' => e = .returned (.int .i64 s.b.bytes) ∧ w' = w := sent_sym (sent_any gT gW true false s w h hW)
theorem sent_tf (gT gW : Nat) (s : TalkS) (w : World) (h : Blk w gT 51 #[.pointer (some ⟨gW, 0, none⟩), .bool true]) (hW : Blk w gW 49 s.cells) :
    Calls Try.prog 8 #[.pointer (some ⟨gT, 0, none⟩), .bool false] w fun e w' => e = .returned (.int .i64 s.b.bytes) ∧ w' = w := sent_sym (sent_any gT gW false true s w h hW)
theorem sent_tt (gT gW : Nat) (s : TalkS) (w : World) (h : Blk w gT 51 #[.pointer (some ⟨gW, 0, none⟩), .bool true]) (hW : Blk w gW 49 s.cells) :
    Calls Try.prog 8 #[.pointer (some ⟨gT, 0, none⟩), .bool true] w fun e w' => e = .returned (.int .i64 s.a.bytes) ∧ w' = w := sent_sym (sent_any gT gW true true s w h hW)
set_option maxRecDepth 100000 in
set_option maxHeartbeats 4000000 in
theorem moveSays_some (c f c' f' : Int) (b b' : UInt8) (a : Addr) (n cap : Nat) (w : World) (hfit : (way0 c f b).Fit) (hfit' : (way0 c' f' b').Fit) (hn : n ≤ maxLen) (hin : SayIn w a n) :
    Calls Try.prog 3 #[.agg #[.int .i64 c, .int .i64 f, .int .u8 b.toNat, .int .i64 c', .int .i64 f', .int .u8 b'.toNat], .slice (some a) n cap] w fun e w' => e = .returned (.bool true) ∧ Off [] w w' := by
  go_enter Try.func3, Try.ntmps3
  go_wp2_with fail
  refine (awake_any _).mono ?_
  rintro e w1 ⟨rfl, ho1⟩
  have hL1 := (Blk.new w 25 #[.int .i64 c, .int .i64 f, .int .u8 b.toNat, .int .i64 c', .int .i64 f', .int .u8 b'.toNat]).off ho1 (by simp)
  have hcL1 := hL1.cell
  have hlL1 := hL1.lt
  have hoff1 : Off [] w w1 := ((Off.refl _ _).alloc _).trans_nil ho1
  clear ho1
  go_wp2_with fail
  refine (new_any c f c' f' b b' _).mono ?_
  rintro e w2 ⟨gT, gW, rfl, hgT, hgW, hT2, hW2, ho2⟩
  have hL2 := hL1.off ho2 (by simp)
  have hcL2 := hL2.cell
  have hlL2 := hL2.lt
  have hoff2 : Off [] w w2 := hoff1.trans_nil ho2
  have hz1 : w.heap.size ≤ w1.heap.size := hoff1.size
  have hz2 : w.heap.size ≤ w2.heap.size := hoff2.size
  clear ho2 hL1 hcL1 hlL1 hoff1
  go_wp2_with fail
  have hR3 := Blk.new w2 34 (TalkS.mk (way0 c f b) (way0 c' f' b') false).rcells
  have hA0 : MAt w (w2.alloc (.cells (TalkS.mk (way0 c f b) (way0 c' f' b') false).rcells 34)) gT gW w2.heap.size 0 ⟨way0 c f b, way0 c' f' b', false⟩ :=
    ⟨hT2.alloc _, hW2.alloc _, hR3, ⟨⟨hfit, by simp [way0], by simp [way0]⟩, ⟨hfit', by simp [way0], by simp [way0]⟩⟩, hoff2.alloc _⟩
  clear hR3 hT2 hW2 hL2 hcL2 hlL2 hoff2 hfit hfit'
  have hgT' : w.heap.size ≤ gT := by omega
  have hgW' : w.heap.size ≤ gW := by omega
  generalize w2.heap.size = gR at *
  go_loopw [38] (fun i wr => ∃ (k : Nat) (s : TalkS), i = .int .i64 k ∧ k ≤ n ∧ k ≤ 20 ∧ MAt w wr gT gW gR k s) (fun i _ => n - (intOf i).toNat)
  case atStart => exact ⟨0, _, rfl, by omega, by omega, hA0⟩
  case round =>
    clear hA0
    obtain ⟨k, s, rfl, hk, hk20, hA⟩ := hrel
    by_cases hkn : k < n
    · obtain ⟨bk, tx, hb0, ht0⟩ := hin k hkn
      have hab : a.block < w.heap.size := by
        have := World.block_lt_of_cell? _ _ hb0
        rwa [add_block] at this
      have hb := (hA.off.cell (p := a.add (k * 2)) (by rw [add_block]; exact hab) (by simp)).trans hb0
      have ht := (hA.off.cell (p := a.add (k * 2 + 1)) (by rw [add_block]; exact hab) (by simp)).trans ht0
      rw [← Go.Deep.add_add] at ht
      have ht : wr.cell? ⟨(a.add (k * 2)).block, (a.add (k * 2)).off + 1, none⟩ = some (.string tx) := ht
      by_cases h20 : k = 20
      · have e20 : ((k : Int) == 20) = true := beq_iff_eq.2 (by omega)
        have H20 := Lib.hid h20
        clear h20
        have hA2 : MAt w (wr.alloc (.cells #[.bool bk, .string tx] 36)) gT gW gR k s := ⟨hA.t.alloc _, hA.w.alloc _, hA.r.alloc _, hA.lim, hA.off.alloc _⟩
        have HA := Lib.hid hA2
        clear hA hA2
        go_wp2_with fail
        clear hb ht hb0 ht0 e20 hab hin
        refine (turned_any gT gW false _ HA.out.t).mono ?_
        rintro e w3 ⟨gU, rfl, hgU, hU, ho3⟩
        have hA := HA.out
        have hT3 := hA.t.off ho3 (by simp)
        have hW3 := hA.w.off ho3 (by simp)
        have hR3 := hA.r.off ho3 (by simp)
        have hoff3 := hA.off.trans_nil ho3
        have hlim := hA.lim
        rw [Bool.not_false] at hU
        clear hA HA ho3
        go_wp2_with fail
        refine (sent_tt gU gW s w3 hU hW3).mono ?_
        rintro e w4 ⟨rfl, e4⟩
        subst e4
        go_wp2_with fail
        refine (sent_f gT gW s w4 hT3 hW3).mono ?_
        rintro e w5 ⟨rfl, e5⟩
        subst e5
        go_wp2_with fail
        refine (sent_tf gU gW s w5 hU hW3).mono ?_
        rintro e w6 ⟨rfl, e6⟩
        subst e6
        go_wp2_with fail
        refine (sent_t gT gW s w6 hT3 hW3).mono ?_
        rintro e w7 ⟨rfl, e7⟩
        subst e7
        go_wp2_with fail
        refine (turned_any gU gW true _ hU).mono ?_
        rintro e w8 ⟨gV, rfl, hgV, hV, ho8⟩
        have hU8 := hU.off ho8 (by simp)
        have hT8 := hT3.off ho8 (by simp)
        have hW8 := hW3.off ho8 (by simp)
        have hR8 := hR3.off ho8 (by simp)
        have hoff8 := hoff3.trans_nil ho8
        rw [Bool.not_true] at hV
        clear hU hT3 hW3 hR3 hoff3 ho8
        go_wp2_with fail
        refine (sent_t gV gW s w8 hV hW8).mono ?_
        rintro e w9 ⟨rfl, e9⟩
        subst e9
        go_wp2_with fail
        refine (sent_t gT gW s w9 hT8 hW8).mono ?_
        rintro e w10 ⟨rfl, e10⟩
        subst e10
        go_wp2_with fail
        refine (say_all gU gW true true s ⟨#[120]⟩ _ (hlim.le (by omega)) hU8 hW8).mono ?_
        rintro e w11 ⟨rfl, hW11, ho11⟩
        have hT11 := hT8.off ho11 (by have := hT8.ne_ hW8 (by decide); simpa using this)
        have hR11 := hR8.off ho11 (by have := hR8.ne_ hW8 (by decide); simpa using this)
        have hoff11 : Off [] w w11 := hoff8.trans ho11 (by simp; omega)
        rw [bne_self_eq_false] at hW11
        clear hU8 hT8 hR8 hV hoff8 ho11
        go_wp2_with fail
        refine (rsay_all gR false s ⟨#[120]⟩ _ (hlim.le (by omega)) hR11).mono ?_
        rintro e w12 ⟨rfl, hR12, ho12⟩
        have hT12 := hT11.off ho12 (by have := hT11.ne_ hR11 (by decide); simpa using this)
        have hW12 := hW11.off ho12 (by have := hW11.ne_ hR11 (by decide); simpa using this)
        have hoff12 : Off [] w w12 := hoff11.trans ho12 (by simp; omega)
        clear hT11 hR11 hW11 hoff11 ho12 hW8 hlim
        generalize s.next false (ByteArray.mk #[120]).size = s2 at *
        go_wp2_with fail
        refine code_gen (fun W => (Blk W gT 51 #[.pointer (some ⟨gW, 0, none⟩), .bool false] ∧ Blk W gW 49 s2.cells) ∧ Blk W gR 34 s2.rcells ∧ Off [] w W) ⟨⟨hT12, hW12⟩, hR12, hoff12⟩ ?_
        clear hT12 hW12 hR12 hoff12
        rintro W ⟨hTW, hR, hoff⟩
        have HTW := Lib.hid hTW
        unfold TalkS.rcells at hR
        have hcR := hR.cell
        have hlR := hR.lt
        clear hR hTW
        generalize s.text false (ByteArray.mk #[120]) = tt at *
        generalize s.code false (ByteArray.mk #[120]).size = cc at *
        have g1 : (tt.toList == tt.toList) = true := beq_self_eq_true _
        have g1' : (tt.toList != tt.toList) = false := by simp
        have g2 : ((cc : Int) == (cc : Int)) = true := beq_self_eq_true _
        refine wp_region_quiet_lit (by kernel_rfl) (by kernel_rfl) ?_
        iterate 10 (go_big_quiet_step (fail))
        go_big_quiet_want
        go_big_quiet_op
        apply Exists.intro
        refine ⟨fun _ => ?_, ?_⟩
        · go_at_call 8
          refine Calls.quiet_of_same (w := W) (v := .int .i64 s2.a.bytes) ?_
          refine sent_f gT gW s2 (W.drewN _) ?_ ?_
          · exact HTW.out.1
          · exact HTW.out.2
        go_big_quiet_on
        iterate 7 (go_big_quiet_step (fail))
        refine wpQuiet_nil ?_
        intro _ hw'
        obtain ⟨nq, hw''⟩ := hw'
        subst hw''
        go_wp2_with fail
        refine (turned_nil _).mono ?_
        rintro e w13 ⟨rfl, e13⟩
        subst e13
        go_wp2_with fail
        refine (say_nil false _).mono ?_
        rintro e w14 ⟨rfl, e14⟩
        subst e14
        go_wp2_with fail
        refine (sent_nil true _).mono ?_
        rintro e w15 ⟨rfl, e15⟩
        subst e15
        go_wp2_with fail
        go_ret
        exact ⟨rfl, hoff.drewN _⟩
      · have h20' : ((k : Int) == 20) = false := beq_eq_false_iff_ne.2 (by omega)
        have HA := Lib.hid hA
        clear hA
        go_wp2_with fail
        refine (say_all gT gW bk false s tx _ (HA.out.lim.le (by omega)) (HA.out.t.alloc _) (HA.out.w.alloc _)).mono ?_
        rintro e w3 ⟨rfl, hW3, ho3⟩
        have hA := HA.out
        have hX3 := (Blk.new wr 36 #[.bool bk, .string tx]).off ho3 (by have := hA.w.lt; simp; omega)
        have hT3 := (hA.t.alloc (.cells #[.bool bk, .string tx] 36)).off ho3 (by have := hA.t.ne_ hA.w (by decide); simpa using this)
        have hR3 := (hA.r.alloc (.cells #[.bool bk, .string tx] 36)).off ho3 (by have := hA.r.ne_ hA.w (by decide); simpa using this)
        have hoff3 : Off [] w w3 := (hA.off.alloc _).trans ho3 (by simp; omega)
        have hcX3 := hX3.cell
        have hlX3 := hX3.lt
        rw [Bool.bne_false] at hW3
        clear ho3 hA hb ht hb0 ht0
        go_wp2_with fail
        refine (rsay_all gR bk s tx _ (HA.out.lim.le (by omega)) hR3).mono ?_
        rintro e w4 ⟨rfl, hR4, ho4⟩
        have hT4 := hT3.off ho4 (by have := hT3.ne_ hR3 (by decide); simpa using this)
        have hW4 := hW3.off ho4 (by have := hW3.ne_ hR3 (by decide); simpa using this)
        have hoff4 : Off [] w w4 := hoff3.trans ho4 (by simp; omega)
        clear hX3 hT3 hR3 hW3 hoff3 hcX3 hlX3 ho4
        have hlim : (s.next bk tx.size).Lim (k + 1) := HA.out.lim.next bk tx.size
        clear HA
        generalize s.next bk tx.size = s' at *
        go_wp2_with fail
        refine code_gen (fun W => (Blk W gT 51 #[.pointer (some ⟨gW, 0, none⟩), .bool false] ∧ Blk W gW 49 s'.cells) ∧ Blk W gR 34 s'.rcells ∧ Off [] w W) ⟨⟨hT4, hW4⟩, hR4, hoff4⟩ ?_
        clear hT4 hW4 hR4 hoff4
        rintro W ⟨hTW, hR, hoff⟩
        have HR := Lib.hid hR
        have HTW := Lib.hid hTW
        unfold TalkS.rcells at hR
        have hcR := hR.cell
        have hlR := hR.lt
        clear hR hTW
        generalize s.text bk tx = tt at *
        generalize s.code bk tx.size = cc at *
        have g1 : (tt.toList == tt.toList) = true := beq_self_eq_true _
        have g1' : (tt.toList != tt.toList) = false := by simp
        have g2 : ((cc : Int) == (cc : Int)) = true := beq_self_eq_true _
        have g3 : ((s'.a.bytes : Int) == (s'.a.bytes : Int)) = true := beq_self_eq_true _
        refine wp_region_quiet_lit (by kernel_rfl) (by kernel_rfl) ?_
        iterate 10 (go_big_quiet_step (fail))
        go_big_quiet_want
        go_big_quiet_op
        apply Exists.intro
        refine ⟨fun _ => ?_, ?_⟩
        · go_at_call 8
          refine Calls.quiet_of_same (w := W) (v := .int .i64 s'.a.bytes) ?_
          refine sent_f gT gW s' (W.drewN _) ?_ ?_
          · exact HTW.out.1
          · exact HTW.out.2
        go_big_quiet_on
        iterate 9 (go_big_quiet_step (fail))
        go_big_quiet_want
        go_big_quiet_op
        apply Exists.intro
        refine ⟨fun _ => ?_, ?_⟩
        · go_at_call 8
          refine Calls.quiet_of_same (w := W) (v := .int .i64 s'.b.bytes) ?_
          refine sent_t gT gW s' (W.drewN _) ?_ ?_
          · exact HTW.out.1
          · exact HTW.out.2
        go_big_quiet_on
        iterate 7 (go_big_quiet_step (fail))
        refine wpQuiet_nil ?_
        intro _ hw'
        obtain ⟨nq, hw''⟩ := hw'
        subst hw''
        go_wp2_with fail
        refine ⟨⟨k + 1, s', by simp, by omega, by omega, ⟨HTW.out.1.drewN _, HTW.out.2.drewN _, HR.out.drewN _, hlim, hoff.drewN _⟩⟩, ?_⟩
        simp [intOf]
        omega
    · obtain rfl : k = n := by omega
      have HA := Lib.hid hA
      clear hA
      go_wp2_with fail
      refine (turned_any gT gW false _ HA.out.t).mono ?_
      rintro e w3 ⟨gU, rfl, hgU, hU, ho3⟩
      have hA := HA.out
      have hT3 := hA.t.off ho3 (by simp)
      have hW3 := hA.w.off ho3 (by simp)
      have hR3 := hA.r.off ho3 (by simp)
      have hoff3 := hA.off.trans_nil ho3
      have hlim := hA.lim
      rw [Bool.not_false] at hU
      clear hA HA ho3
      go_wp2_with fail
      refine (sent_tt gU gW s w3 hU hW3).mono ?_
      rintro e w4 ⟨rfl, e4⟩
      subst e4
      go_wp2_with fail
      refine (sent_f gT gW s w4 hT3 hW3).mono ?_
      rintro e w5 ⟨rfl, e5⟩
      subst e5
      go_wp2_with fail
      refine (sent_tf gU gW s w5 hU hW3).mono ?_
      rintro e w6 ⟨rfl, e6⟩
      subst e6
      go_wp2_with fail
      refine (sent_t gT gW s w6 hT3 hW3).mono ?_
      rintro e w7 ⟨rfl, e7⟩
      subst e7
      go_wp2_with fail
      refine (turned_any gU gW true _ hU).mono ?_
      rintro e w8 ⟨gV, rfl, hgV, hV, ho8⟩
      have hU8 := hU.off ho8 (by simp)
      have hT8 := hT3.off ho8 (by simp)
      have hW8 := hW3.off ho8 (by simp)
      have hR8 := hR3.off ho8 (by simp)
      have hoff8 := hoff3.trans_nil ho8
      rw [Bool.not_true] at hV
      clear hU hT3 hW3 hR3 hoff3 ho8
      go_wp2_with fail
      refine (sent_t gV gW s w8 hV hW8).mono ?_
      rintro e w9 ⟨rfl, e9⟩
      subst e9
      go_wp2_with fail
      refine (sent_t gT gW s w9 hT8 hW8).mono ?_
      rintro e w10 ⟨rfl, e10⟩
      subst e10
      go_wp2_with fail
      refine (say_all gU gW true true s ⟨#[120]⟩ _ (hlim.le (by omega)) hU8 hW8).mono ?_
      rintro e w11 ⟨rfl, hW11, ho11⟩
      have hT11 := hT8.off ho11 (by have := hT8.ne_ hW8 (by decide); simpa using this)
      have hR11 := hR8.off ho11 (by have := hR8.ne_ hW8 (by decide); simpa using this)
      have hoff11 : Off [] w w11 := hoff8.trans ho11 (by simp; omega)
      rw [bne_self_eq_false] at hW11
      clear hU8 hT8 hR8 hV hoff8 ho11
      go_wp2_with fail
      refine (rsay_all gR false s ⟨#[120]⟩ _ (hlim.le (by omega)) hR11).mono ?_
      rintro e w12 ⟨rfl, hR12, ho12⟩
      have hT12 := hT11.off ho12 (by have := hT11.ne_ hR11 (by decide); simpa using this)
      have hW12 := hW11.off ho12 (by have := hW11.ne_ hR11 (by decide); simpa using this)
      have hoff12 : Off [] w w12 := hoff11.trans ho12 (by simp; omega)
      clear hT11 hR11 hW11 hoff11 ho12 hW8 hlim
      generalize s.next false (ByteArray.mk #[120]).size = s2 at *
      go_wp2_with fail
      refine code_gen (fun W => (Blk W gT 51 #[.pointer (some ⟨gW, 0, none⟩), .bool false] ∧ Blk W gW 49 s2.cells) ∧ Blk W gR 34 s2.rcells ∧ Off [] w W) ⟨⟨hT12, hW12⟩, hR12, hoff12⟩ ?_
      clear hT12 hW12 hR12 hoff12
      rintro W ⟨hTW, hR, hoff⟩
      have HTW := Lib.hid hTW
      unfold TalkS.rcells at hR
      have hcR := hR.cell
      have hlR := hR.lt
      clear hR hTW
      generalize s.text false (ByteArray.mk #[120]) = tt at *
      generalize s.code false (ByteArray.mk #[120]).size = cc at *
      have g1 : (tt.toList == tt.toList) = true := beq_self_eq_true _
      have g1' : (tt.toList != tt.toList) = false := by simp
      have g2 : ((cc : Int) == (cc : Int)) = true := beq_self_eq_true _
      refine wp_region_quiet_lit (by kernel_rfl) (by kernel_rfl) ?_
      iterate 10 (go_big_quiet_step (fail))
      go_big_quiet_want
      go_big_quiet_op
      apply Exists.intro
      refine ⟨fun _ => ?_, ?_⟩
      · go_at_call 8
        refine Calls.quiet_of_same (w := W) (v := .int .i64 s2.a.bytes) ?_
        refine sent_f gT gW s2 (W.drewN _) ?_ ?_
        · exact HTW.out.1
        · exact HTW.out.2
      go_big_quiet_on
      iterate 7 (go_big_quiet_step (fail))
      refine wpQuiet_nil ?_
      intro _ hw'
      obtain ⟨nq, hw''⟩ := hw'
      subst hw''
      go_wp2_with fail
      refine (turned_nil _).mono ?_
      rintro e w13 ⟨rfl, e13⟩
      subst e13
      go_wp2_with fail
      refine (say_nil false _).mono ?_
      rintro e w14 ⟨rfl, e14⟩
      subst e14
      go_wp2_with fail
      refine (sent_nil true _).mono ?_
      rintro e w15 ⟨rfl, e15⟩
      subst e15
      go_wp2_with fail
      go_ret
      exact ⟨rfl, hoff.drewN _⟩
set_option maxRecDepth 100000 in
set_option maxHeartbeats 4000000 in
theorem moveSays_nil (c f c' f' : Int) (b b' : UInt8) (w : World) (hfit : (way0 c f b).Fit) (hfit' : (way0 c' f' b').Fit) :
    Calls Try.prog 3 #[.agg #[.int .i64 c, .int .i64 f, .int .u8 b.toNat, .int .i64 c', .int .i64 f', .int .u8 b'.toNat], .slice none 0 0] w fun e w' => e = .returned (.bool true) ∧ Off [] w w' := by
  go_enter Try.func3, Try.ntmps3
  go_wp2_with fail
  refine (awake_any _).mono ?_
  rintro e w1 ⟨rfl, ho1⟩
  have hL1 := (Blk.new w 25 #[.int .i64 c, .int .i64 f, .int .u8 b.toNat, .int .i64 c', .int .i64 f', .int .u8 b'.toNat]).off ho1 (by simp)
  have hcL1 := hL1.cell
  have hlL1 := hL1.lt
  have hoff1 : Off [] w w1 := ((Off.refl _ _).alloc _).trans_nil ho1
  clear ho1
  go_wp2_with fail
  refine (new_any c f c' f' b b' _).mono ?_
  rintro e w2 ⟨gT, gW, rfl, hgT, hgW, hT2, hW2, ho2⟩
  have hL2 := hL1.off ho2 (by simp)
  have hcL2 := hL2.cell
  have hlL2 := hL2.lt
  have hoff2 : Off [] w w2 := hoff1.trans_nil ho2
  have hz1 : w.heap.size ≤ w1.heap.size := hoff1.size
  have hz2 : w.heap.size ≤ w2.heap.size := hoff2.size
  clear ho2 hL1 hcL1 hlL1 hoff1
  go_wp2_with fail
  have hR3 := Blk.new w2 34 (TalkS.mk (way0 c f b) (way0 c' f' b') false).rcells
  have hA0 : MAt w (w2.alloc (.cells (TalkS.mk (way0 c f b) (way0 c' f' b') false).rcells 34)) gT gW w2.heap.size 0 ⟨way0 c f b, way0 c' f' b', false⟩ :=
    ⟨hT2.alloc _, hW2.alloc _, hR3, ⟨⟨hfit, by simp [way0], by simp [way0]⟩, ⟨hfit', by simp [way0], by simp [way0]⟩⟩, hoff2.alloc _⟩
  clear hR3 hT2 hW2 hL2 hcL2 hlL2 hoff2 hfit hfit'
  have hgT' : w.heap.size ≤ gT := by omega
  have hgW' : w.heap.size ≤ gW := by omega
  generalize w2.heap.size = gR at *
  go_loopw [38] (fun i wr => ∃ (k : Nat) (s : TalkS), i = .int .i64 k ∧ k ≤ 0 ∧ MAt w wr gT gW gR k s) (fun i _ => 0 - (intOf i).toNat)
  case atStart => exact ⟨0, _, rfl, by omega, hA0⟩
  case round =>
    clear hA0
    obtain ⟨k, s, rfl, hk, hA⟩ := hrel
    obtain rfl : k = 0 := by omega
    have HA := Lib.hid hA
    clear hA
    go_wp2_with fail
    refine (turned_any gT gW false _ HA.out.t).mono ?_
    rintro e w3 ⟨gU, rfl, hgU, hU, ho3⟩
    have hA := HA.out
    have hT3 := hA.t.off ho3 (by simp)
    have hW3 := hA.w.off ho3 (by simp)
    have hR3 := hA.r.off ho3 (by simp)
    have hoff3 := hA.off.trans_nil ho3
    have hlim := hA.lim
    rw [Bool.not_false] at hU
    clear hA HA ho3
    go_wp2_with fail
    refine (sent_tt gU gW s w3 hU hW3).mono ?_
    rintro e w4 ⟨rfl, e4⟩
    subst e4
    go_wp2_with fail
    refine (sent_f gT gW s w4 hT3 hW3).mono ?_
    rintro e w5 ⟨rfl, e5⟩
    subst e5
    go_wp2_with fail
    refine (sent_tf gU gW s w5 hU hW3).mono ?_
    rintro e w6 ⟨rfl, e6⟩
    subst e6
    go_wp2_with fail
    refine (sent_t gT gW s w6 hT3 hW3).mono ?_
    rintro e w7 ⟨rfl, e7⟩
    subst e7
    go_wp2_with fail
    refine (turned_any gU gW true _ hU).mono ?_
    rintro e w8 ⟨gV, rfl, hgV, hV, ho8⟩
    have hU8 := hU.off ho8 (by simp)
    have hT8 := hT3.off ho8 (by simp)
    have hW8 := hW3.off ho8 (by simp)
    have hR8 := hR3.off ho8 (by simp)
    have hoff8 := hoff3.trans_nil ho8
    rw [Bool.not_true] at hV
    clear hU hT3 hW3 hR3 hoff3 ho8
    go_wp2_with fail
    refine (sent_t gV gW s w8 hV hW8).mono ?_
    rintro e w9 ⟨rfl, e9⟩
    subst e9
    go_wp2_with fail
    refine (sent_t gT gW s w9 hT8 hW8).mono ?_
    rintro e w10 ⟨rfl, e10⟩
    subst e10
    go_wp2_with fail
    refine (say_all gU gW true true s ⟨#[120]⟩ _ (hlim.le (by omega)) hU8 hW8).mono ?_
    rintro e w11 ⟨rfl, hW11, ho11⟩
    have hT11 := hT8.off ho11 (by have := hT8.ne_ hW8 (by decide); simpa using this)
    have hR11 := hR8.off ho11 (by have := hR8.ne_ hW8 (by decide); simpa using this)
    have hoff11 : Off [] w w11 := hoff8.trans ho11 (by simp; omega)
    rw [bne_self_eq_false] at hW11
    clear hU8 hT8 hR8 hV hoff8 ho11
    go_wp2_with fail
    refine (rsay_all gR false s ⟨#[120]⟩ _ (hlim.le (by omega)) hR11).mono ?_
    rintro e w12 ⟨rfl, hR12, ho12⟩
    have hT12 := hT11.off ho12 (by have := hT11.ne_ hR11 (by decide); simpa using this)
    have hW12 := hW11.off ho12 (by have := hW11.ne_ hR11 (by decide); simpa using this)
    have hoff12 : Off [] w w12 := hoff11.trans ho12 (by simp; omega)
    clear hT11 hR11 hW11 hoff11 ho12 hW8 hlim
    generalize s.next false (ByteArray.mk #[120]).size = s2 at *
    go_wp2_with fail
    refine code_gen (fun W => (Blk W gT 51 #[.pointer (some ⟨gW, 0, none⟩), .bool false] ∧ Blk W gW 49 s2.cells) ∧ Blk W gR 34 s2.rcells ∧ Off [] w W) ⟨⟨hT12, hW12⟩, hR12, hoff12⟩ ?_
    clear hT12 hW12 hR12 hoff12
    rintro W ⟨hTW, hR, hoff⟩
    have HTW := Lib.hid hTW
    unfold TalkS.rcells at hR
    have hcR := hR.cell
    have hlR := hR.lt
    clear hR hTW
    generalize s.text false (ByteArray.mk #[120]) = tt at *
    generalize s.code false (ByteArray.mk #[120]).size = cc at *
    have g1 : (tt.toList == tt.toList) = true := beq_self_eq_true _
    have g1' : (tt.toList != tt.toList) = false := by simp
    have g2 : ((cc : Int) == (cc : Int)) = true := beq_self_eq_true _
    refine wp_region_quiet_lit (by kernel_rfl) (by kernel_rfl) ?_
    iterate 10 (go_big_quiet_step (fail))
    go_big_quiet_want
    go_big_quiet_op
    apply Exists.intro
    refine ⟨fun _ => ?_, ?_⟩
    · go_at_call 8
      refine Calls.quiet_of_same (w := W) (v := .int .i64 s2.a.bytes) ?_
      refine sent_f gT gW s2 (W.drewN _) ?_ ?_
      · exact HTW.out.1
      · exact HTW.out.2
    go_big_quiet_on
    iterate 7 (go_big_quiet_step (fail))
    refine wpQuiet_nil ?_
    intro _ hw'
    obtain ⟨nq, hw''⟩ := hw'
    subst hw''
    go_wp2_with fail
    refine (turned_nil _).mono ?_
    rintro e w13 ⟨rfl, e13⟩
    subst e13
    go_wp2_with fail
    refine (say_nil false _).mono ?_
    rintro e w14 ⟨rfl, e14⟩
    subst e14
    go_wp2_with fail
    refine (sent_nil true _).mono ?_
    rintro e w15 ⟨rfl, e15⟩
    subst e15
    go_wp2_with fail
    go_ret
    exact ⟨rfl, hoff.drewN _⟩
end Go.Proofs.Ytpaeihdkggbeoaa
