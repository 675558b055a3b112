/- The walk of the reference's say: a message over one direction. Conditions: a message of at most 65536 bytes, counts of at most 2^19. -/
import Derived.Test.YtpaeihdkggbeoaaSay
import Derived.Test.YtpaeihdkggbeoaaRefCode
import Derived.Test.YtpaeihdkggbeoaaRefLine
import Derived.Test.YtpaeihdkggbeoaaRSend
namespace Go.Proofs.Ytpaeihdkggbeoaa
open Go.RowKit Go.Op

def RSend : Prop := ∀ (gO gL cap : Nat) (cur : Array Value) (t : ByteArray) (b : Bool) (s : Nat) (w : World), s ≤ t.size → t.size ≤ 65536 → waitsB t b s = true → ROutAt w gO gL cap cur t b s s → Calls Try.prog 27 #[.pointer (some ⟨gO, 0, none⟩), .int .i64 0] w (RSendPost w gO gL cap t s)
/-- a direction's five cells, as the reference has them -/
def wayC (x : WayS) : Array Value := #[.int .i64 x.msgs, .int .i64 x.bytes, .int .i64 x.cut, .int .i64 x.flip, .int .u8 x.by_.toNat]

/-- the numbers between two frames -/
structure SayNum (x0 x : WayS) (msg : ByteArray) (b : Bool) (s f i : Nat) : Prop where
  fit : x.Fit
  le : s ≤ msg.size
  wait : waitsB msg b s = true → s = 1024 * i ∧ msg.size < 1024 * (i + f) ∧ sayF f x msg.size s = sayS x0 msg.size
  done : waitsB msg b s = false → (x, true) = sayS x0 msg.size
  cnt : i ≤ 65
  msgs : x.msgs = x0.msgs + i
  bytes : x.bytes ≤ x0.bytes + 2000 * i
theorem SayNum.first {x : WayS} (hf : x.Fit) (msg : ByteArray) : SayNum x x msg false 0 (msg.size / 1024 + 1) 0 where
  fit := hf
  le := Nat.zero_le _
  wait := fun _ => ⟨by omega, by omega, rfl⟩
  done := fun h => by simp [waitsB] at h
  cnt := by omega
  msgs := by omega
  bytes := by omega
section
variable {x0 x : WayS} {msg : ByteArray} {b : Bool} {s f i : Nat}
theorem SayNum.no (h : SayNum x0 x msg b s f i) (hB : waitsB msg b s = true) (hok : x.ok (frameLen msg.size s) = false) : sayS x0 msg.size = (x.add (frameLen msg.size s), false) := by
  obtain ⟨h1, h2, h3⟩ := h.wait hB
  have hle := h.le
  obtain ⟨f', rfl⟩ : ∃ f', f = f' + 1 := ⟨f - 1, by omega⟩
  rw [← h3, sayF, if_neg (by rw [hok]; simp)]
theorem SayNum.next (h : SayNum x0 x msg b s f i) (hB : waitsB msg b s = true) (hm : msg.size ≤ 65536) (hok : x.ok (frameLen msg.size s) = true) :
    SayNum x0 (x.add (frameLen msg.size s)) msg true (s + sendN msg s) (f - 1) (i + 1) := by
  obtain ⟨h1, h2, h3⟩ := h.wait hB
  have hle := h.le
  have hfl := frameLen_le msg.size s (by omega)
  obtain ⟨f', rfl⟩ : ∃ f', f = f' + 1 := ⟨f - 1, by omega⟩
  rw [sayF, if_pos hok] at h3
  have hc : sendN msg s = chunk msg.size s := rfl
  have hc2 : chunk msg.size s = min (msg.size - s) 1024 := rfl
  refine ⟨⟨h.fit.c0, h.fit.c1, h.fit.f0, h.fit.f1⟩, by omega, fun hw => ?_, fun hw => ?_, by omega, ?_, ?_⟩
  · have : s + sendN msg s < msg.size := by simpa [waitsB] using hw
    rw [if_pos (by omega)] at h3
    refine ⟨by omega, by simp; omega, ?_⟩
    simpa [hc] using h3
  · have : ¬ s + sendN msg s < msg.size := by simpa [waitsB] using hw
    rw [if_neg (by omega)] at h3
    exact h3
  · have := h.msgs
    simp only [WayS.add]; omega
  · have := h.bytes
    simp only [WayS.add]; omega
end
/-- the measure, off the reference's memory -/
def routMu (g size : Nat) (w : World) : Nat :=
  match w.cell? ⟨g, 1, none⟩, w.cell? ⟨g, 3, none⟩ with
  | some (.int _ n), some (.bool b) => 2 * (size - n.toNat) + (if b then 0 else 1)
  | _, _ => 0
theorem routMu_eq {w : World} {gO gL cap : Nat} {cur : Array Value} {t : ByteArray} {b : Bool} {s a : Nat} (h : ROutAt w gO gL cap cur t b s a) : routMu gL t.size w = 2 * (t.size - s) + (if b then 0 else 1) := by
  have h2 := (h.l.cell 1).trans h.c1
  have h1 := (h.l.cell 3).trans h.c3
  simp [routMu, h1, h2]
theorem ROutAt.off0 {w w' : World} {gO gL cap : Nat} {cur : Array Value} {t : ByteArray} {b : Bool} {s a : Nat} (h : ROutAt w gO gL cap cur t b s a) (ho : Off [] w w') : ROutAt w' gO gL cap cur t b s a :=
  ⟨h.o.off ho (by simp), h.l.off ho (by simp), h.k, h.c0, h.c1, h.c2, h.c3, h.c4⟩

theorem ROutAt.far {w : World} {gO gL cap : Nat} {cur : Array Value} {t : ByteArray} {b : Bool} {s a : Nat} {p : Addr} (h : ROutAt w gO gL cap cur t b s a) (h1 : p.block ≠ gL) (h2 : p.block ≠ gO) (v : Value) : ROutAt (w.setCell p v) gO gL cap cur t b s a :=
  ⟨h.o.far (Ne.symm h2) v, h.l.far (Ne.symm h1) v, h.k, h.c0, h.c1, h.c2, h.c3, h.c4⟩

structure RSayAt (w0 w : World) (gX gR gO gL cap : Nat) (x0 x : WayS) (msg : ByteArray) (b : Bool) (s f i : Nat) : Prop where
  out : ∃ cur, ROutAt w gO gL cap cur msg b s s
  way : Blk w gX 32 (wayC x)
  res : Blk w gR 32 #[.int .i64 0, .int .i64 0, .int .i64 0, .int .i64 0, .int .u8 0]
  off : Off [] w0 w
  num : SayNum x0 x msg b s f i

theorem WayS.ok_yes {x : WayS} {n : Nat} (h : x.ok n = true) :
    ((x.cut < 0) ∨ (0 ≤ x.cut ∧ (x.bytes : Int) + n ≤ x.cut)) ∧
    ((x.by_.toNat = 0 ∧ ((x.by_.toNat : Int) != 0) = false) ∨ ((¬ x.by_.toNat = 0) ∧ ((x.by_.toNat : Int) != 0) = true ∧ x.flip < x.bytes) ∨ ((¬ x.by_.toNat = 0) ∧ ((x.by_.toNat : Int) != 0) = true ∧ (x.bytes : Int) ≤ x.flip ∧ (x.bytes : Int) + n ≤ x.flip)) := by
  simp only [WayS.ok, Bool.and_eq_true, Bool.not_eq_true', Bool.and_eq_false_iff, decide_eq_false_iff_not] at h
  simp only [bne_iff_ne, bne_eq_false_iff_eq, ne_eq]
  omega
theorem WayS.ok_no {x : WayS} {n : Nat} (h : x.ok n = false) :
    ((0 ≤ x.cut ∧ x.cut < (x.bytes : Int) + n) ∧ ((x.by_.toNat = 0 ∧ ((x.by_.toNat : Int) != 0) = false) ∨ ((¬ x.by_.toNat = 0) ∧ ((x.by_.toNat : Int) != 0) = true ∧ x.flip < x.bytes) ∨ ((¬ x.by_.toNat = 0) ∧ ((x.by_.toNat : Int) != 0) = true ∧ (x.bytes : Int) ≤ x.flip ∧ (x.bytes : Int) + n ≤ x.flip) ∨ ((¬ x.by_.toNat = 0) ∧ ((x.by_.toNat : Int) != 0) = true ∧ (x.bytes : Int) ≤ x.flip ∧ x.flip < (x.bytes : Int) + n))) ∨
    (((x.cut < 0) ∨ (0 ≤ x.cut ∧ (x.bytes : Int) + n ≤ x.cut)) ∧ ((¬ x.by_.toNat = 0) ∧ ((x.by_.toNat : Int) != 0) = true ∧ (x.bytes : Int) ≤ x.flip ∧ x.flip < (x.bytes : Int) + n)) := by
  simp only [WayS.ok, Bool.and_eq_false_iff, Bool.not_eq_false', Bool.and_eq_true, decide_eq_true_eq] at h
  simp only [bne_iff_ne, bne_eq_false_iff_eq, ne_eq]
  omega
theorem rencode0 (a : Nat) (s : ByteArray) (l : Bool) (w : World) (ha : a < 1099511627776) (hs : s.size < 1099511627776) :
    Calls Try.prog 30 #[.agg #[.int .i64 0, .int .i64 a, .string s, .bool l]] w (StrPost w (encB 0 a s l)) := rencode 0 a s l w (by omega) ha hs
set_option maxRecDepth 100000 in
set_option maxHeartbeats 4000000 in
theorem rsay (hsend : RSend) (x : WayS) (msg : ByteArray) (w : World) (hm : msg.size ≤ 65536) (hmsgs : x.msgs ≤ 524288) (hbytes : x.bytes ≤ 549755813888) (hf : x.Fit) :
    Calls Try.prog 13 #[.agg (wayC x), .string msg] w fun e w' => e = .returned (.tuple #[.agg (wayC (sayS x msg.size).1), .bool (sayS x msg.size).2]) ∧ Off [] w w' := by
  unfold wayC
  go_enter Try.func13, Try.ntmps13
  go_wp2_with fail
  refine (rput _ msg _ hm (Blk.new2 _ _ _ _ _)).mono ?_
  rintro e w1 ⟨rfl, ho1, gL, cap, cur, hgL, hOut⟩
  have hX1 : Blk w1 w.heap.size 32 (wayC x) := (((Blk.new _ _ _).alloc _).alloc _).off ho1 (by simp)
  have hR1 : Blk w1 (w.heap.size + 1) 32 #[.int .i64 0, .int .i64 0, .int .i64 0, .int .i64 0, .int .u8 0] := ((Blk.new1 _ _ _ _).alloc _).off ho1 (by simp)
  have ho1w : Off [] w w1 := (((((Off.refl [] w).alloc _).alloc _).alloc _).trans ho1 (by simp; omega))
  have hgL' : w.heap.size ≤ gL := by simp at hgL; omega
  have hgLX : w.heap.size ≠ gL := hX1.ne_ hOut.l (by decide)
  have hgLR : w.heap.size + 1 ≠ gL := hR1.ne_ hOut.l (by decide)
  clear ho1 hgL
  go_wp2_with fail
  go_loopw [] (fun wr => ∃ x' b s f i, RSayAt w wr w.heap.size (w.heap.size + 1) (w.heap.size + 2) gL cap x x' msg b s f i) (fun wr => routMu gL msg.size wr)
  case atStart => exact ⟨x, false, 0, _, 0, ⟨_, hOut⟩, hX1, hR1, ho1w, SayNum.first hf msg⟩
  case round =>
    clear hOut hX1 hR1 ho1w
    obtain ⟨x', b, s, f, i, hA⟩ := hrel
    obtain ⟨⟨cur', hout⟩, hway, hres, hoff, hnum⟩ := id hA
    cases hB : waitsB msg b s
    · have hd := hnum.done hB
      have hL := rleft _ gL cap cur' msg b s s wr hout
      rw [hB] at hL
      have HL := Lib.hid hL
      have HD := Lib.hid hd
      clear hd hL hB hA hnum
      go_wp2_with fail
      refine HL.out.mono ?_
      rintro e w4 ⟨rfl, ho4⟩
      have hway4 := hway.off ho4 (by simp)
      have hres4 := hres.off ho4 (by simp)
      simp only [wayC] at hway4
      have hcX := hway4.cell
      have hcR := hres4.cell
      have hfR := hres4.frozen
      go_wp2_with fail
      refine bodyPost_ret (v := .tuple #[.agg (wayC x'), .bool true]) (by simp [results, Try.results13, go_sem, hcR, wayC]) rfl ⟨by rw [← HD.out]; rfl, ?_⟩
      exact (((((hoff.trans_nil ho4).setCell (.inl (by simp)) _).setCell (.inl (by simp)) _).setCell (.inl (by simp)) _).setCell (.inl (by simp)) _).setCell (.inl (by simp)) _
    · have hL := rleft _ gL cap cur' msg b s s wr hout
      rw [hB] at hL
      have HL := Lib.hid hL
      have HB := Lib.hid hB
      have HA := Lib.hid hnum
      clear hL hB hA hnum
      go_wp2_with fail
      refine HL.out.mono ?_
      rintro e w4 ⟨rfl, ho4⟩
      have HO := Lib.hid hout
      have hout4 := hout.off0 ho4
      have hway4 := hway.off ho4 (by simp)
      have hres4 := hres.off ho4 (by simp)
      have hoff4 := hoff.trans_nil ho4
      clear hout hway hres hoff ho4
      go_wp2_with fail
      refine (hsend _ gL cap cur' msg b s w4 HA.out.le hm HB.out hout4).mono ?_
      rintro e w5 ⟨rfl, ⟨cur5, hout5⟩, ho5⟩
      have hway5 := hway4.off ho5 (by simpa using hgLX)
      have hres5 := hres4.off ho5 (by simpa using hgLR)
      have hoff5 : Off [] w w5 := hoff4.trans ho5 (by simp; omega)
      clear hout4 hway4 hres4 hoff4 ho5
      have hle : s ≤ msg.size := HA.out.le
      have hnle : sendN msg s ≤ msg.size - s := by unfold sendN; omega
      have HSZ : Hid ((msg.extract s (s + sendN msg s)).size = sendN msg s) := by
        refine Lib.hid ?_
        simp; omega
      go_wp2_with fail
      have hsz1 : (msg.extract s (s + sendN msg s)).size ≤ 1024 := by rw [HSZ.out]; unfold sendN; omega
      have hn1 : s + sendN msg s ≤ msg.size := by omega
      refine (rack _ gL cap cur5 msg true (s + sendN msg s) s (s + sendN msg s) _ _ (by omega) (by omega) (Nat.le_refl _) (by omega) (hout5.off0 ((Off.refl _ _).alloc _))).mono ?_
      rintro e w6 ⟨rfl, ⟨cur6, hout6⟩, ho6⟩
      have hway6 := (hway5.alloc _).off ho6 (by simpa using hgLX)
      have hres6 := (hres5.alloc _).off ho6 (by simpa using hgLR)
      have hF6 := (Blk.new w5 66 _).off ho6 (by have := hout5.l.lt; simp; omega)
      have hoff6 : Off [] w w6 := (hoff5.alloc _).trans ho6 (by simp; omega)
      clear hout5 hway5 hres5 hoff5 ho6
      generalize w5.heap.size = gF at *
      go_wp2_with fail
      refine code_gen (fun W => (ROutAt W (w.heap.size + 2) gL cap cur6 msg true (s + sendN msg s) (s + sendN msg s) ∧ Blk W (w.heap.size + 1) 32 #[.int .i64 0, .int .i64 0, .int .i64 0, .int .i64 0, .int .u8 0] ∧ Off [] w W) ∧ Blk W w.heap.size 32 (wayC x') ∧ Blk W gF 66 #[.int .i64 0, .int .i64 s, .string (msg.extract s (s + sendN msg s)), .bool (decide (s + sendN msg s = msg.size))]) ⟨⟨hout6, hres6, hoff6⟩, hway6, hF6⟩ ?_
      clear hout6 hres6 hoff6 hway6 hF6
      rintro W ⟨HK, hway, hF⟩
      have hlen := enc_size msg.size s (msg.extract s (s + sendN msg s)) (decide (s + sendN msg s = msg.size)) HSZ.out
      have hfl := frameLen_le msg.size s (by omega)
      have hPs : (ByteArray.mk (encB 0 s (msg.extract s (s + sendN msg s)) (decide (s + sendN msg s = msg.size))).toArray).size ≤ 1048000 := by omega
      have hmx : x'.msgs ≤ 1048576 := by have := HA.out.msgs; have := HA.out.cnt; omega
      have hbx : x'.bytes ≤ 1099511627776 := by have := HA.out.bytes; have := HA.out.cnt; omega
      have HLEN := Lib.hid hlen
      have HK := Lib.hid HK
      clear hlen
      unfold wayC at hway
      have hcX := hway.cell
      have hlX := hway.lt
      have hcF := hF.cell
      have hlF := hF.lt
      go_region_held3 (fun w' => Off [] W w' ∧ (w.heap.size < w'.heap.size ∧ gF < w'.heap.size) ∧ (∀ i, w'.cell? ⟨w.heap.size, i, none⟩ = (#[.int .i64 x'.msgs, .int .i64 x'.bytes, .int .i64 x'.cut, .int .i64 x'.flip, .int .u8 x'.by_.toNat] : Array Value)[i]?) ∧ ∀ i, w'.cell? ⟨gF, i, none⟩ = (#[Value.int .i64 0, .int .i64 s, .string (msg.extract s (s + sendN msg s)), .bool (decide (s + sendN msg s = msg.size))] : Array Value)[i]?) (first | assumption | exact ⟨(Off.refl _ _).drew, ⟨hlX, hlF⟩, hcX, hcF⟩ | exact keepA2 (by assumption) (by assumption)) (first
        | (go_at_call 30; refine (rencode0 _ _ _ _ (by omega) (by omega)).mono ?_; rintro e w1 ⟨rfl, ho⟩)
        | (go_at_call 29; refine (rmore _ _ _ (by omega) (by omega)).mono ?_; rintro e w1 ⟨⟨sv, hsv, rfl⟩, ho⟩))
      obtain ⟨hoX, -⟩ := (by assumption : Off [] W _ ∧ (_ ∧ _) ∧ _ ∧ _)
      have hway1 := hway.off hoX (by simp)
      have HK1 := Lib.hid hoX
      clear hway hF hcX hcF hlX hlF hoX
      have hres1 := HK.out.2.1.off HK1.out (by simp)
      obtain ⟨L, HL2⟩ : ∃ L, Hid (frameLen msg.size s = L) := ⟨_, Lib.hid rfl⟩
      have hsv' : sv.size = L := (hsv.trans HLEN.out).trans HL2.out
      have hL1 : L ≤ 1100 := by rw [← HL2.out]; exact hfl
      clear hsv
      have d1 : IntKind.i64.wrap ((x'.bytes : Int) + (L : Int)) = (x'.bytes : Int) + (L : Int) := by rw [IntWalk.i64_in _ (by omega)]
      have d2 : IntKind.i64.wrap ((x'.msgs : Int) + 1) = (x'.msgs : Int) + 1 := by rw [IntWalk.i64_in _ (by omega)]
      have hcX := hway1.cell
      have hfX := hway1.frozen
      have hlX := hway1.lt
      have hcR := hres1.cell
      have hfR := hres1.frozen
      have hlR := hres1.lt
      cases hok : x'.ok L
      · have HOK := Lib.hid hok
        have hno := WayS.ok_no hok
        clear hok
        have hfin : Off [] w w1 := HK.out.2.2.trans_nil HK1.out
        have hfin := Lib.hid hfin
        rcases hno with ⟨⟨hc1, hc2⟩, ⟨hb1, hb0⟩ | ⟨hb1, hb0, hb2⟩ | ⟨hb1, hb0, hb2, hb3⟩ | ⟨hb1, hb0, hb2, hb3⟩⟩ | ⟨hc1 | ⟨hc1, hc2⟩, hb1, hb0, hb2, hb3⟩
        all_goals
          go_wp2_with fail
          refine bodyPost_ret (v := .tuple #[.agg (wayC (x'.add L)), .bool false]) (by simp [results, Try.results13, go_sem, hcR, wayC, WayS.add, hb1]) rfl ⟨by rw [HA.out.no HB.out (by rw [HL2.out]; exact HOK.out), HL2.out]; rfl, ?_⟩
          exact (((((((hfin.out.setCell (.inl (by simp)) _).setCell (.inl (by simp)) _).setCell (.inl (by simp)) _).setCell (.inl (by simp)) _).setCell (.inl (by simp)) _).setCell (.inl (by simp)) _).setCell (.inl (by simp)) _)
      · have HOK := Lib.hid hok
        have hyes := WayS.ok_yes hok
        clear hok
        rcases hyes with ⟨hc1 | ⟨hc1, hc2⟩, ⟨hb1, hb0⟩ | ⟨hb1, hb0, hb2⟩ | ⟨hb1, hb0, hb2, hb3⟩⟩
        all_goals
          go_wp2_with fail
          have hout2 := (((HK.out.1.off0 HK1.out).far (p := ⟨w.heap.size, 0, none⟩) hgLX (by simp) (.int .i64 ((x'.msgs : Int) + 1))).far (p := ⟨w.heap.size, 1, none⟩) hgLX (by simp) (.int .i64 ((x'.bytes : Int) + (L : Int))))
          have hnx := HA.out.next HB.out hm (by rw [HL2.out]; exact HOK.out)
          rw [HL2.out] at hnx
          refine ⟨⟨x'.add L, true, s + sendN msg s, f - 1, i + 1, ⟨_, hout2⟩, (hway1.set_ 0 _).set_ 1 _, (hres1.far (p := ⟨w.heap.size, 0, none⟩) (by simp) _).far (p := ⟨w.heap.size, 1, none⟩) (by simp) _, ((HK.out.2.2.trans_nil HK1.out).setCell (.inl (Nat.le_refl _)) _).setCell (.inl (Nat.le_refl _)) _, hnx⟩, ?_⟩
          rw [routMu_eq hout2, routMu_eq HO.out]
          have hw : b = false ∨ s < msg.size := by have := HB.out; simp [waitsB] at this; rcases this with h | h; exact .inr h; exact .inl h.2
          cases b
          · simp; omega
          · simp at hw; simp; unfold sendN; omega
theorem rsay_any (x : WayS) (msg : ByteArray) (w : World) (hm : msg.size ≤ 65536) (hmsgs : x.msgs ≤ 524288) (hbytes : x.bytes ≤ 549755813888) (hf : x.Fit) :
    Calls Try.prog 13 #[.agg (wayC x), .string msg] w fun e w' => e = .returned (.tuple #[.agg (wayC (sayS x msg.size).1), .bool (sayS x msg.size).2]) ∧ Off [] w w' :=
  rsay (fun gO gL cap cur t b s w h1 h2 h3 h4 => rsend gO gL cap cur t b s w h1 h2 h3 h4) x msg w hm hmsgs hbytes hf
end Go.Proofs.Ytpaeihdkggbeoaa
