/- A talk's state in plain words: what a message makes of it. Conditions: none beyond each lemma's. -/
import Derived.Test.YtpaeihdkggbeoaaSay
namespace Go.Proofs.Ytpaeihdkggbeoaa
open Go.RowKit

structure Grown (x y : WayS) (f : Nat) : Prop where
  cut : y.cut = x.cut
  flip : y.flip = x.flip
  by_ : y.by_ = x.by_
  msgs : y.msgs ≤ x.msgs + f
  bytes : y.bytes ≤ x.bytes + 1100 * f

theorem Grown.add {x : WayS} {n f : Nat} (h : n ≤ 1100) (hf : 1 ≤ f) : Grown x (x.add n) f := ⟨rfl, rfl, rfl, by simp [WayS.add]; omega, by simp [WayS.add]; omega⟩
theorem sayF_grown : ∀ (f : Nat) (x : WayS) (size s : Nat), size ≤ 65536 → s ≤ 65536 → Grown x (sayF f x size s).1 f
  | 0, x, size, s, _, _ => ⟨rfl, rfl, rfl, Nat.le_refl _, Nat.le_refl _⟩
  | f + 1, x, size, s, h, hs => by
    have hl := frameLen_le size s hs
    rw [sayF]
    split
    · split
      · have ih := sayF_grown f (x.add (frameLen size s)) size (s + chunk size s) h (by omega)
        have a := Grown.add (x := x) (f := 1) hl (by omega)
        exact ⟨ih.cut.trans a.cut, ih.flip.trans a.flip, ih.by_.trans a.by_, by have := ih.msgs; have := a.msgs; omega, by have := ih.bytes; have := a.bytes; omega⟩
      · exact Grown.add hl (by omega)
    · exact Grown.add hl (by omega)
theorem sayS_grown (x : WayS) (size : Nat) (h : size ≤ 65536) : Grown x (sayS x size).1 65 := by
  have k : size / 1024 + 1 ≤ 65 := by omega
  have this := sayF_grown (size / 1024 + 1) x size 0 h (by omega)
  have e : sayS x size = sayF (size / 1024 + 1) x size 0 := rfl
  rw [← e] at this
  generalize size / 1024 + 1 = f at *
  have h1 := this.msgs
  have h2 := this.bytes
  exact ⟨this.cut, this.flip, this.by_, by omega, by omega⟩

/-- both directions, and whether the line is dead -/
structure TalkS where
  a : WayS
  b : WayS
  dead : Bool
/-- a direction -/
def TalkS.way (s : TalkS) (back : Bool) : WayS := if back then s.b else s.a
/-- what a message of n bytes is answered -/
def TalkS.code (s : TalkS) (back : Bool) (n : Nat) : Nat := if 65536 < n then 32 else if s.dead then 150 else if (sayS (s.way back) n).2 then 0 else 150
def TalkS.next (s : TalkS) (back : Bool) (n : Nat) : TalkS :=
  if 65536 < n then s else if s.dead then s else if back then ⟨s.a, (sayS s.b n).1, !(sayS s.b n).2⟩ else ⟨(sayS s.a n).1, s.b, !(sayS s.a n).2⟩
/-- the text that comes -/
def TalkS.text (s : TalkS) (back : Bool) (m : ByteArray) : ByteArray := if s.code back m.size = 0 then m else ⟨#[]⟩
structure WayS.Lim (x : WayS) (k : Nat) : Prop where
  fit : x.Fit
  msgs : x.msgs ≤ 65 * k
  bytes : x.bytes ≤ 71500 * k
structure TalkS.Lim (s : TalkS) (k : Nat) : Prop where
  a : s.a.Lim k
  b : s.b.Lim k
theorem WayS.Lim.more {x : WayS} {k : Nat} (h : x.Lim k) : x.Lim (k + 1) := ⟨h.fit, by have := h.msgs; omega, by have := h.bytes; omega⟩
theorem WayS.Lim.say {x : WayS} {k : Nat} (h : x.Lim k) {n : Nat} (hn : n ≤ 65536) : (sayS x n).1.Lim (k + 1) := by
  have g := sayS_grown x n hn
  exact ⟨⟨by rw [g.cut]; exact h.fit.c0, by rw [g.cut]; exact h.fit.c1, by rw [g.flip]; exact h.fit.f0, by rw [g.flip]; exact h.fit.f1⟩, by have := g.msgs; have := h.msgs; omega, by have := g.bytes; have := h.bytes; omega⟩
theorem TalkS.Lim.next {s : TalkS} {k : Nat} (h : s.Lim k) (back : Bool) (n : Nat) : (s.next back n).Lim (k + 1) := by
  unfold TalkS.next
  split
  · exact ⟨h.a.more, h.b.more⟩
  split
  · exact ⟨h.a.more, h.b.more⟩
  split
  · exact ⟨h.a.more, h.b.say (by omega)⟩
  · exact ⟨h.a.say (by omega), h.b.more⟩
theorem TalkS.Lim.way {s : TalkS} {k : Nat} (h : s.Lim k) (back : Bool) : (s.way back).Lim k := by
  unfold TalkS.way
  split
  · exact h.b
  · exact h.a
end Go.Proofs.Ytpaeihdkggbeoaa
