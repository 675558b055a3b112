/- The walks of New, Turned, whole and awake. Conditions: none. -/
import Derived.Test.YtpaeihdkggbeoaaRTalk
namespace Go.Proofs.Ytpaeihdkggbeoaa
open Go.RowKit Go.Op

def TurnP (w : World) (gW : Nat) (d : Bool) (e : Ending) (w' : World) : Prop :=
  ∃ g, e = .returned (.pointer (some ⟨g, 0, none⟩)) ∧ w.heap.size ≤ g ∧ Blk w' g 51 #[.pointer (some ⟨gW, 0, none⟩), .bool (!d)] ∧ Off [] w w'
set_option maxRecDepth 100000 in
theorem turned_any (gT gW : Nat) (d : Bool) (w : World) (h : Blk w gT 51 #[.pointer (some ⟨gW, 0, none⟩), .bool d]) :
    Calls Try.prog 9 #[.pointer (some ⟨gT, 0, none⟩)] w (TurnP w gW d) := by
  have hc := h.cell
  have hl := h.lt
  go_enter Try.func9, Try.ntmps9
  go_wp2_with fail
  go_region
  go_wp2
  go_ret
  exact ⟨_, rfl, Nat.le_refl _, (Blk.new _ _ _).drew, ((Off.refl _ _).alloc _).drew⟩

/-- a direction that was not used -/
def way0 (c f : Int) (b : UInt8) : WayS := ⟨c, f, b, 0, 0⟩
def NewP (w : World) (s : TalkS) (e : Ending) (w' : World) : Prop :=
  ∃ gT gW, e = .returned (.pointer (some ⟨gT, 0, none⟩)) ∧ w.heap.size ≤ gT ∧ w.heap.size ≤ gW ∧ Blk w' gT 51 #[.pointer (some ⟨gW, 0, none⟩), .bool false] ∧ Blk w' gW 49 s.cells ∧ Off [] w w'
set_option maxRecDepth 100000 in
theorem new_any (c f c' f' : Int) (b b' : UInt8) (w : World) :
    Calls Try.prog 5 #[.agg #[.int .i64 c, .int .i64 f, .int .u8 b.toNat], .agg #[.int .i64 c', .int .i64 f', .int .u8 b'.toNat]] w (NewP w ⟨way0 c f b, way0 c' f' b', false⟩) := by
  go_enter Try.func5, Try.ntmps5
  go_wp2_with fail
  go_ret
  exact ⟨_, _, rfl, by omega, by omega, by simpa using Blk.new (((w.alloc _).alloc _).alloc _) _ _, (Blk.new2 _ _ _ _ _).alloc _, ((((Off.refl _ _).alloc _).alloc _).alloc _).alloc _⟩
/-- a talk over lines without faults -/
def talk0 : TalkS := ⟨way0 (-1) 0 0, way0 (-1) 0 0, false⟩
theorem whole_any (w : World) : Calls Try.prog 10 #[] w (NewP w talk0) := by
  go_enter Try.func10, Try.ntmps10
  go_wp2_with fail
  refine (new_any (-1) 0 (-1) 0 0 0 _).mono ?_
  rintro e w1 ⟨gT, gW, rfl, h1, h2, h3, h4, h5⟩
  go_wp2
  go_ret
  exact ⟨_, _, rfl, h1, h2, h3, h4, h5⟩
theorem talk0_facts : talk0.code false 3 = 0 ∧ ((talk0.next false 3).way false).bytes = 19 ∧ ((talk0.next false 3).way true).bytes = 0 ∧ talk0.Lim 0 := by
  have h0 : (Pl.num 0).length = 1 := by decide
  have h3 : (Pl.num 3).length = 1 := by decide
  have hf : frameLen 3 0 = 19 := by simp [frameLen, chunk, h0, h3]
  have hs : sayS (way0 (-1) 0 0) 3 = ((way0 (-1) 0 0).add 19, true) := by
    have e : sayS (way0 (-1) 0 0) 3 = sayF 1 (way0 (-1) 0 0) 3 0 := rfl
    rw [e, sayF, hf]
    have hk : (way0 (-1) 0 0).ok 19 = true := by decide
    rw [if_pos hk, if_neg (by simp [chunk])]
  refine ⟨?_, ?_, ?_, ⟨⟨⟨?_, ?_, ?_, ?_⟩, ?_, ?_⟩, ⟨⟨?_, ?_, ?_, ?_⟩, ?_, ?_⟩⟩⟩
  · simp [TalkS.code, TalkS.way, talk0, hs]
  · simp [TalkS.next, TalkS.way, talk0, hs]; rfl
  · simp [TalkS.next, TalkS.way, talk0, way0]
  all_goals simp [talk0, way0]
def awakeMsg : ByteArray := ⟨#[97, 98, 99]⟩
theorem say_all (gT gW : Nat) (back d : Bool) (s : TalkS) (msg : ByteArray) (w : World) (hl : s.Lim 50) (h : Blk w gT 51 #[.pointer (some ⟨gW, 0, none⟩), .bool d]) (hW : Blk w gW 49 s.cells) :
    Calls Try.prog 6 #[.pointer (some ⟨gT, 0, none⟩), .bool back, .string msg] w (SayTP w gW s (back != d) msg) := by
  by_cases hm : msg.size ≤ 65536
  · cases hd : s.dead
    · exact say_live gT gW back d s msg w hl hm hd h hW
    · exact say_dead gT gW back d s msg w hm hd h hW
  · exact say_big gT gW back d s msg w (by omega) hW
theorem rsay_all (gR : Nat) (back : Bool) (s : TalkS) (msg : ByteArray) (w : World) (hl : s.Lim 50) (hW : Blk w gR 34 s.rcells) :
    Calls Try.prog 7 #[.pointer (some ⟨gR, 0, none⟩), .bool back, .string msg] w (RSayTP w gR s back msg) := by
  by_cases hm : msg.size ≤ 65536
  · cases hd : s.dead
    · exact rtsay_live gR back s msg w hl hm hd hW
    · exact rtsay_dead gR back s msg w hm hd hW
  · exact rtsay_big gR back s msg w (by omega) hW
theorem WayS.Lim.le {x : WayS} {k m : Nat} (h : x.Lim k) (hk : k ≤ m) : x.Lim m := ⟨h.fit, by have := h.msgs; omega, by have := h.bytes; omega⟩
theorem TalkS.Lim.le {x : TalkS} {k m : Nat} (h : x.Lim k) (hk : k ≤ m) : x.Lim m := ⟨h.a.le hk, h.b.le hk⟩
set_option maxRecDepth 100000 in
theorem awake_any (w : World) : Calls Try.prog 4 #[] w fun e w' => e = .returned (.bool true) ∧ Off [] w w' := by
  obtain ⟨f1, f2, f3, f4⟩ := talk0_facts
  have hL := f4.le (m := 50) (by omega)
  go_enter Try.func4, Try.ntmps4
  go_wp2_with fail
  refine (whole_any _).mono ?_
  rintro e w1 ⟨gT, gW, rfl, h1, h2, h3, h4, h5⟩
  go_wp2_with fail
  refine (say_all gT gW false false talk0 awakeMsg w1 hL h3 h4).mono ?_
  rintro e w2 ⟨rfl, h6, h7⟩
  have hn : gT ≠ gW := h3.ne_ h4 (by decide)
  have h8 := h3.off h7 (by simpa using hn)
  have e1 : talk0.text (false != false) awakeMsg = ⟨#[97, 98, 99]⟩ := by
    unfold TalkS.text
    rw [show awakeMsg.size = 3 from rfl, show (false != false) = false from rfl, f1]; rfl
  have e2 : talk0.code (false != false) awakeMsg.size = 0 := f1
  rw [e1, e2]
  rw [show awakeMsg.size = 3 from rfl, show (false != false) = false from rfl] at h6
  have S1 := sent_any gT gW false false _ w2 h8 h6
  have S2 := sent_any gT gW true false _ w2 h8 h6
  unfold SentP at S1 S2
  rw [show (false != false) = false from rfl, f2] at S1
  rw [show (true != false) = true from rfl, f3] at S2
  have HS1 := Lib.hid S1
  have HS2 := Lib.hid S2
  have hfin : Off [] w w2 := h5.trans h7 (by simp; omega)
  clear S1 S2 h8 h6 h7 h3 h4
  go_wp2_with fail
  refine HS1.out.mono ?_
  rintro e w3 ⟨rfl, rfl⟩
  go_wp2_with fail
  refine HS2.out.mono ?_
  rintro e w3 ⟨rfl, rfl⟩
  go_wp2_with fail
  go_ret
  exact ⟨rfl, hfin⟩
end Go.Proofs.Ytpaeihdkggbeoaa
