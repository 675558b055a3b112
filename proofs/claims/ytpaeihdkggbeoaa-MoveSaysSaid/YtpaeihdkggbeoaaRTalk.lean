/- The walks of the reference's talk. Conditions: directions within the counts of fifty messages. -/
import Derived.Test.YtpaeihdkggbeoaaTalk
namespace Go.Proofs.Ytpaeihdkggbeoaa
open Go.RowKit Go.Op

/-- the eleven cells, as the reference has them -/
def TalkS.rcells (s : TalkS) : Array Value := #[.int .i64 s.a.msgs, .int .i64 s.a.bytes, .int .i64 s.a.cut, .int .i64 s.a.flip, .int .u8 s.a.by_.toNat, .int .i64 s.b.msgs, .int .i64 s.b.bytes, .int .i64 s.b.cut, .int .i64 s.b.flip, .int .u8 s.b.by_.toNat, .bool s.dead]
def RSayTP (w : World) (gR : Nat) (s : TalkS) (back : Bool) (msg : ByteArray) (e : Ending) (w' : World) : Prop :=
  e = .returned (.tuple #[.string (s.text back msg), .int .i64 (s.code back msg.size)]) ∧ Blk w' gR 34 (s.next back msg.size).rcells ∧ Off [gR] w w'
set_option maxRecDepth 100000 in
theorem rtsay_big (gR : Nat) (back : Bool) (s : TalkS) (msg : ByteArray) (w : World) (hm : 65536 < msg.size) (hW : Blk w gR 34 s.rcells) :
    Calls Try.prog 7 #[.pointer (some ⟨gR, 0, none⟩), .bool back, .string msg] w (RSayTP w gR s back msg) := by
  have hp : RSayTP w gR s back msg (.returned (.tuple #[.string ⟨#[]⟩, .int .i64 32])) w := by
    refine ⟨?_, ?_, Off.refl _ _⟩
    · simp [TalkS.text, TalkS.code, hm]
    · simp [TalkS.next, hm]; exact hW
  have HP := Lib.hid hp
  clear hp hW
  go_enter Try.func7, Try.ntmps7
  go_wp2
  go_ret2
  exact HP.out
set_option maxRecDepth 100000 in
theorem rtsay_dead (gR : Nat) (back : Bool) (s : TalkS) (msg : ByteArray) (w : World) (hm : msg.size ≤ 65536) (hd : s.dead = true) (hW : Blk w gR 34 s.rcells) :
    Calls Try.prog 7 #[.pointer (some ⟨gR, 0, none⟩), .bool back, .string msg] w (RSayTP w gR s back msg) := by
  have hp : RSayTP w gR s back msg (.returned (.tuple #[.string ⟨#[]⟩, .int .i64 150])) w := by
    have hn : ¬ 65536 < msg.size := by omega
    refine ⟨?_, ?_, Off.refl _ _⟩
    · simp [TalkS.text, TalkS.code, hn, hd]
    · simp [TalkS.next, hn, hd]; exact hW
  have HP := Lib.hid hp
  clear hp
  have hc : w.cell? ⟨gR, 10, none⟩ = some (.bool true) := by rw [hW.cell, ← hd]; rfl
  clear hW
  go_enter Try.func7, Try.ntmps7
  go_wp2
  go_ret2
  exact HP.out
set_option maxRecDepth 100000 in
set_option maxHeartbeats 2000000 in
set_option linter.unusedSimpArgs false in
theorem rtsay_live (gR : Nat) (back : Bool) (s : TalkS) (msg : ByteArray) (w : World) (hl : s.Lim 50) (hm : msg.size ≤ 65536) (hd : s.dead = false) (hW : Blk w gR 34 s.rcells) :
    Calls Try.prog 7 #[.pointer (some ⟨gR, 0, none⟩), .bool back, .string msg] w (RSayTP w gR s back msg) := by
  obtain ⟨-, -, e3⟩ := s.next_live back msg.size hm hd
  have hlim := hl.way back
  obtain ⟨a, b, dead⟩ := s
  simp only at hd
  subst hd
  have hn : ¬ 65536 < msg.size := by omega
  have hfit : ∀ r : Bool, (sayS ((TalkS.mk a b false).way back) msg.size).2 = r → (TalkS.mk a b false).code back msg.size = (if r then 0 else 150) ∧ (TalkS.mk a b false).text back msg = if r then msg else ⟨#[]⟩ := by
    intro r hr
    rw [hr] at e3
    exact ⟨e3, by unfold TalkS.text; rw [e3]; cases r <;> rfl⟩
  have HFIT := Lib.hid hfit
  have HS := Lib.hid (fun w => rsay_any ((TalkS.mk a b false).way back) msg w hm (by have := hlim.msgs; omega) (by have := hlim.bytes; omega) hlim.fit)
  clear hfit e3
  unfold RSayTP
  simp only [TalkS.rcells] at hW
  have hcR := hW.cell
  have hlR := hW.lt
  have HNX : Hid (∀ x r, sayS ((TalkS.mk a b false).way back) msg.size = (x, r) → (TalkS.mk a b false).next back msg.size = if back then ⟨a, x, !r⟩ else ⟨x, b, !r⟩) := by
    refine Lib.hid (fun x r h => ?_)
    cases back <;> simp only [TalkS.way, Bool.false_eq_true, if_true, if_false] at h <;> simp [TalkS.next, hn, h]
  generalize (TalkS.mk a b false).next back msg.size = s' at *
  generalize (TalkS.mk a b false).code back msg.size = cd at *
  generalize (TalkS.mk a b false).text back msg = tx at *
  cases hS : sayS ((TalkS.mk a b false).way back) msg.size with | mk x' r =>
  have hs' := HNX.out _ _ hS
  have hfit := HFIT.out r (by rw [hS])
  have HSS := Lib.hid hS
  have HE := Lib.hid (And.intro hs' hfit)
  clear hS hs' hfit HNX HFIT
  cases back
  · simp only [TalkS.way, Bool.false_eq_true, if_true, if_false] at HS HSS
    go_enter Try.func7, Try.ntmps7
    go_wp2_with fail
    simp only [wayC] at HS
    refine (HS.out _).mono ?_
    rintro e w2 ⟨rfl, ho2⟩
    rw [HSS.out]
    have hW2 := hW.off ho2 (by simp)
    have hcR2 := hW2.cell
    have hfR2 := hW2.frozen
    have hlR2 := hW2.lt
    cases r
    · go_wp2
      go_ret2
      obtain ⟨e1, e2, e3⟩ := HE.out
      refine ⟨by rw [e2, e3]; rfl, ?_, ?_⟩
      · rw [e1]
        have k := ((((hW2.set_ 0 (.int .i64 x'.msgs)).set_ 1 (.int .i64 x'.bytes)).set_ 2 (.int .i64 x'.cut)).set_ 3 (.int .i64 x'.flip)).set_ 4 (.int .u8 x'.by_.toNat)
        have k := k.set_ 10 (.bool true)
        simpa [TalkS.rcells] using k
      · have o1 := ho2.mono (l' := [gR]) (by simp)
        exact ((((((o1.setCell (.inr (by simp)) _).setCell (.inr (by simp)) _).setCell (.inr (by simp)) _).setCell (.inr (by simp)) _).setCell (.inr (by simp)) _).setCell (.inr (by simp)) _)
    · go_wp2
      go_ret2
      obtain ⟨e1, e2, e3⟩ := HE.out
      refine ⟨by rw [e2, e3]; rfl, ?_, ?_⟩
      · rw [e1]
        have k := ((((hW2.set_ 0 (.int .i64 x'.msgs)).set_ 1 (.int .i64 x'.bytes)).set_ 2 (.int .i64 x'.cut)).set_ 3 (.int .i64 x'.flip)).set_ 4 (.int .u8 x'.by_.toNat)
        have k := k
        simpa [TalkS.rcells] using k
      · have o1 := ho2.mono (l' := [gR]) (by simp)
        exact (((((o1.setCell (.inr (by simp)) _).setCell (.inr (by simp)) _).setCell (.inr (by simp)) _).setCell (.inr (by simp)) _).setCell (.inr (by simp)) _)
  · simp only [TalkS.way, Bool.false_eq_true, if_true, if_false] at HS HSS
    go_enter Try.func7, Try.ntmps7
    go_wp2_with fail
    simp only [wayC] at HS
    refine (HS.out _).mono ?_
    rintro e w2 ⟨rfl, ho2⟩
    rw [HSS.out]
    have hW2 := hW.off ho2 (by simp)
    have hcR2 := hW2.cell
    have hfR2 := hW2.frozen
    have hlR2 := hW2.lt
    cases r
    · go_wp2
      go_ret2
      obtain ⟨e1, e2, e3⟩ := HE.out
      refine ⟨by rw [e2, e3]; rfl, ?_, ?_⟩
      · rw [e1]
        have k := ((((hW2.set_ 5 (.int .i64 x'.msgs)).set_ 6 (.int .i64 x'.bytes)).set_ 7 (.int .i64 x'.cut)).set_ 8 (.int .i64 x'.flip)).set_ 9 (.int .u8 x'.by_.toNat)
        have k := k.set_ 10 (.bool true)
        simpa [TalkS.rcells] using k
      · have o1 := ho2.mono (l' := [gR]) (by simp)
        exact ((((((o1.setCell (.inr (by simp)) _).setCell (.inr (by simp)) _).setCell (.inr (by simp)) _).setCell (.inr (by simp)) _).setCell (.inr (by simp)) _).setCell (.inr (by simp)) _)
    · go_wp2
      go_ret2
      obtain ⟨e1, e2, e3⟩ := HE.out
      refine ⟨by rw [e2, e3]; rfl, ?_, ?_⟩
      · rw [e1]
        have k := ((((hW2.set_ 5 (.int .i64 x'.msgs)).set_ 6 (.int .i64 x'.bytes)).set_ 7 (.int .i64 x'.cut)).set_ 8 (.int .i64 x'.flip)).set_ 9 (.int .u8 x'.by_.toNat)
        have k := k
        simpa [TalkS.rcells] using k
      · have o1 := ho2.mono (l' := [gR]) (by simp)
        exact (((((o1.setCell (.inr (by simp)) _).setCell (.inr (by simp)) _).setCell (.inr (by simp)) _).setCell (.inr (by simp)) _).setCell (.inr (by simp)) _)
end Go.Proofs.Ytpaeihdkggbeoaa
