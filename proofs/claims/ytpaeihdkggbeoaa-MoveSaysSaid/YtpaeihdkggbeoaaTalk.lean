/- The walks of both talks. Conditions: directions within the counts of fifty messages. -/
import Derived.Test.YtpaeihdkggbeoaaTalkS
import Derived.Test.YtpaeihdkggbeoaaRSay
namespace Go.Proofs.Ytpaeihdkggbeoaa
open Go.RowKit Go.Op

theorem of_any (gT gW : Nat) (b d : Bool) (w : World) (h : Blk w gT 51 #[.pointer (some ⟨gW, 0, none⟩), .bool d]) :
    Calls Try.prog 11 #[.pointer (some ⟨gT, 0, none⟩), .bool b] w fun e w' => e = .returned (.pointer (some ⟨gW, bo (b != d), none⟩)) ∧ w = w' := by
  have h0 := h.cell
  cases b <;> cases d
  all_goals
    go_enter Try.func11, Try.ntmps11
    go_wp2
    go_ret
    exact ⟨rfl, rfl⟩
/-- the eleven cells of a talk's lines -/
def TalkS.cells (s : TalkS) : Array Value := waysC s.a s.b s.dead
def SentP (s : TalkS) (back : Bool) (w : World) (e : Ending) (w' : World) : Prop := e = .returned (.int .i64 (s.way back).bytes) ∧ w = w'
theorem sent_any (gT gW : Nat) (b d : Bool) (s : TalkS) (w : World) (h : Blk w gT 51 #[.pointer (some ⟨gW, 0, none⟩), .bool d]) (hW : Blk w gW 49 s.cells) :
    Calls Try.prog 8 #[.pointer (some ⟨gT, 0, none⟩), .bool b] w (SentP s (b != d) w) := by
  obtain ⟨a, b', dead⟩ := s
  simp only [TalkS.cells, waysC] at hW
  have hc := hW.cell
  have HC := Lib.hid hc
  clear hc
  go_enter Try.func8, Try.ntmps8
  go_wp2_with fail
  refine (of_any gT gW b d _ h).mono ?_
  rintro e w1 ⟨rfl, rfl⟩
  have hc := HC.out
  cases hb : (b != d)
  all_goals
    simp only [bo]
    go_wp2
    go_ret
    exact ⟨by first | rfl | (rw [hb]; rfl), rfl⟩
theorem sent_nil (b : Bool) (w : World) : Calls Try.prog 8 #[.pointer none, .bool b] w fun e w' => e = .returned (.int .i64 0) ∧ w = w' := by
  go_enter Try.func8, Try.ntmps8
  go_wp2
  go_ret
  exact ⟨rfl, rfl⟩
theorem turned_nil (w : World) : Calls Try.prog 9 #[.pointer none] w fun e w' => e = .returned (.pointer none) ∧ w = w' := by
  go_enter Try.func9, Try.ntmps9
  go_wp2
  go_ret
  exact ⟨rfl, rfl⟩
theorem say_nil (b : Bool) (w : World) : Calls Try.prog 6 #[.pointer none, .bool b, .string ⟨#[]⟩] w fun e w' => e = .returned (.tuple #[.string ⟨#[]⟩, .int .i64 150]) ∧ w = w' := by
  go_enter Try.func6, Try.ntmps6
  go_wp2
  go_ret2
  exact ⟨rfl, rfl⟩
def SayTP (w : World) (gW : Nat) (s : TalkS) (back : Bool) (msg : ByteArray) (e : Ending) (w' : World) : Prop :=
  e = .returned (.tuple #[.string (s.text back msg), .int .i64 (s.code back msg.size)]) ∧ Blk w' gW 49 (s.next back msg.size).cells ∧ Off [gW] w w'
set_option maxRecDepth 100000 in
theorem say_big (gT gW : Nat) (back d : Bool) (s : TalkS) (msg : ByteArray) (w : World) (hm : 65536 < msg.size) (hW : Blk w gW 49 s.cells) :
    Calls Try.prog 6 #[.pointer (some ⟨gT, 0, none⟩), .bool back, .string msg] w (SayTP w gW s (back != d) msg) := by
  have hp : SayTP w gW s (back != d) msg (.returned (.tuple #[.string ⟨#[]⟩, .int .i64 32])) w := by
    refine ⟨?_, ?_, Off.refl _ _⟩
    · simp [TalkS.text, TalkS.code, hm]
    · simp [TalkS.next, hm]; exact hW
  have HP := Lib.hid hp
  clear hp hW
  go_enter Try.func6, Try.ntmps6
  go_wp2
  go_ret2
  exact HP.out
set_option maxRecDepth 100000 in
theorem say_dead (gT gW : Nat) (back d : Bool) (s : TalkS) (msg : ByteArray) (w : World) (hm : msg.size ≤ 65536) (hd : s.dead = true) (h : Blk w gT 51 #[.pointer (some ⟨gW, 0, none⟩), .bool d]) (hW : Blk w gW 49 s.cells) :
    Calls Try.prog 6 #[.pointer (some ⟨gT, 0, none⟩), .bool back, .string msg] w (SayTP w gW s (back != d) msg) := by
  have hp : SayTP w gW s (back != d) msg (.returned (.tuple #[.string ⟨#[]⟩, .int .i64 150])) w := by
    have hn : ¬ 65536 < msg.size := by omega
    refine ⟨?_, ?_, Off.refl _ _⟩
    · simp [TalkS.text, TalkS.code, hn, hd]
    · simp [TalkS.next, hn, hd]; exact hW
  have HP := Lib.hid hp
  clear hp
  simp only [TalkS.cells, waysC] at hW
  have hc := hW.cell
  have ht := h.cell
  go_enter Try.func6, Try.ntmps6
  go_wp2
  go_ret2
  exact HP.out
/-- a message of fit size on a line that lives -/
theorem TalkS.next_live (s : TalkS) (c : Bool) (n : Nat) (hm : n ≤ 65536) (hd : s.dead = false) :
    (s.next c n).cells = wayB c (sayS (s.way c) n).1 (s.way (!c)) (!(sayS (s.way c) n).2) ∧ s.cells = wayB c (s.way c) (s.way (!c)) false ∧ s.code c n = if (sayS (s.way c) n).2 then 0 else 150 := by
  have hn : ¬ 65536 < n := by omega
  cases c <;> simp [TalkS.next, TalkS.cells, TalkS.way, TalkS.code, wayB, hn, hd]
theorem wayB_dead {w : World} {gW : Nat} {c : Bool} {x y : WayS} (h : Blk w gW 49 (wayB c x y false)) : Blk (w.setCell ⟨gW, 10, none⟩ (.bool true)) gW 49 (wayB c x y true) := by
  have := h.set_ 10 (.bool true)
  cases c <;> simpa [wayB, waysC] using this
set_option maxRecDepth 100000 in
theorem say_live (gT gW : Nat) (back d : Bool) (s : TalkS) (msg : ByteArray) (w : World) (hl : s.Lim 50) (hm : msg.size ≤ 65536) (hd : s.dead = false) (h : Blk w gT 51 #[.pointer (some ⟨gW, 0, none⟩), .bool d]) (hW : Blk w gW 49 s.cells) :
    Calls Try.prog 6 #[.pointer (some ⟨gT, 0, none⟩), .bool back, .string msg] w (SayTP w gW s (back != d) msg) := by
  obtain ⟨e1, e2, e3⟩ := s.next_live (back != d) msg.size hm hd
  have hlim := hl.way (back != d)
  have hn : gT ≠ gW := h.ne_ hW (by decide)
  have hc : ∀ i, w.cell? ⟨gW, i, none⟩ = s.cells[i]? := hW.cell
  have hdead : w.cell? ⟨gW, 10, none⟩ = some (.bool false) := by rw [hc]; simp [TalkS.cells, waysC, hd]
  clear hc
  have ht := h.cell
  have HOf := Lib.hid (fun w => of_any gT gW back d w)
  have hfit : Hid (∀ r : Bool, (sayS (s.way (back != d)) msg.size).2 = r → s.code (back != d) msg.size = (if r then 0 else 150) ∧ s.text (back != d) msg = if r then msg else ⟨#[]⟩) := by
    refine Lib.hid (fun r hr => ?_)
    rw [hr] at e3
    exact ⟨e3, by unfold TalkS.text; rw [e3]; cases r <;> rfl⟩
  have hnx : Hid ((s.next (back != d) msg.size).cells = wayB (back != d) (sayS (s.way (back != d)) msg.size).1 (s.way (!(back != d))) (!(sayS (s.way (back != d)) msg.size).2)) := Lib.hid e1
  rw [e2] at hW
  have HS := Lib.hid (say_any gW (bo (back != d)) (s.way (back != d)) (s.way (!(back != d))) false (back != d) msg w rfl hm (by have := hlim.msgs; omega) (by have := hlim.bytes; omega) hlim.fit hW)
  clear hW e1 e2 e3
  unfold SayTP
  generalize s.next (back != d) msg.size = s' at *
  generalize hC : (back != d) = c at *
  go_enter Try.func6, Try.ntmps6
  go_wp2_with fail
  refine (HOf.out _ h).mono ?_
  rintro e w1 ⟨rfl, rfl⟩
  go_wp2_with fail
  refine HS.out.mono ?_
  rintro e w2 ⟨rfl, hW2, ho2⟩
  have hT2 := h.off ho2 (by simpa using hn)
  have ht2 := hT2.cell
  have hc2 := hW2.cell 10
  have hf2 := hW2.frozen
  have hlW2 := hW2.lt
  have hc10 : (wayB c (sayS (s.way c) msg.size).1 (s.way (!c)) false)[10]? = some (.bool false) := by cases c <;> rfl
  rw [hc10] at hc2
  cases hr : (sayS (s.way c) msg.size).2
  all_goals
    have hfin := hfit.out _ hr
    have hnx2 := hnx.out
    rw [hr] at hnx2
    have HFIN := Lib.hid hfin
    have HNX := Lib.hid hnx2
    clear hfin hnx2 hfit hnx HS HOf
    go_wp2
    go_ret2
    refine ⟨by rw [HFIN.out.1, HFIN.out.2]; rfl, ?_, ?_⟩
    · rw [HNX.out]; first | exact hW2 | exact wayB_dead hW2
    · first | exact ho2 | exact ho2.setCell (.inr (by simp)) _
end Go.Proofs.Ytpaeihdkggbeoaa
