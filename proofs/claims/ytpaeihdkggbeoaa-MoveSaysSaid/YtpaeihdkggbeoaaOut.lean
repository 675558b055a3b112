/- The walks of package mux's sender with one call: what it answers and what becomes of it. Conditions: a text of at most 65536 bytes. -/
import Derived.Test.YtpaeihdkggbeoaaCode
import Derived.Deep.RegionHeld3
import Derived.Deep.QuietTactic
import Derived.BigQuiet
import Derived.BigRegion
namespace Go.Proofs.Ytpaeihdkggbeoaa
open Go.RowKit Go.Op

/-- a sending's four cells -/
def sndC (t : ByteArray) (b : Bool) (s a : Nat) : Array Value := #[.string t, .bool b, .int .i64 s, .int .i64 a]

theorem waits_1 (g : Nat) (t : ByteArray) (b : Bool) (s a : Nat) (w : World) (hs : s < t.size) (hc : ∀ i, w.cell? ⟨g, i, none⟩ = (#[.string t, .bool b, .int .i64 s, .int .i64 a] : Array Value)[i]?) :
    Calls Try.prog 31 #[.pointer (some ⟨g, 0, none⟩)] w fun e w' => e = .returned (.bool true) ∧ ∃ n, w.drewN n = w' := by
  have h1 : decide ((s : Int) < (t.size : Int)) = true := by simp; omega
  go_enter Try.func31, Try.ntmps31
  go_wp2_with fail
  go_quiet (fail)
  go_wp2
  go_ret
  exact ⟨rfl, _, rfl⟩
theorem waits_2 (g : Nat) (t : ByteArray) (s a : Nat) (w : World) (hs : ¬ s < t.size) (ht : t.toList.isEmpty = true) (hc : ∀ i, w.cell? ⟨g, i, none⟩ = (#[.string t, .bool false, .int .i64 s, .int .i64 a] : Array Value)[i]?) :
    Calls Try.prog 31 #[.pointer (some ⟨g, 0, none⟩)] w fun e w' => e = .returned (.bool true) ∧ ∃ n, w.drewN n = w' := by
  have h1 : decide ((s : Int) < (t.size : Int)) = false := by simp; omega
  go_enter Try.func31, Try.ntmps31
  go_wp2_with fail
  go_quiet (fail)
  go_wp2
  go_ret
  exact ⟨rfl, _, rfl⟩
theorem waits_3 (g : Nat) (t : ByteArray) (s a : Nat) (w : World) (hs : ¬ s < t.size) (ht : t.toList.isEmpty = true) (hc : ∀ i, w.cell? ⟨g, i, none⟩ = (#[.string t, .bool true, .int .i64 s, .int .i64 a] : Array Value)[i]?) :
    Calls Try.prog 31 #[.pointer (some ⟨g, 0, none⟩)] w fun e w' => e = .returned (.bool false) ∧ ∃ n, w.drewN n = w' := by
  have h1 : decide ((s : Int) < (t.size : Int)) = false := by simp; omega
  go_enter Try.func31, Try.ntmps31
  go_wp2_with fail
  go_quiet (fail)
  go_wp2
  go_ret
  exact ⟨rfl, _, rfl⟩
theorem waits_4 (g : Nat) (t : ByteArray) (b : Bool) (s a : Nat) (w : World) (hs : ¬ s < t.size) (ht : t.toList.isEmpty = false) (hc : ∀ i, w.cell? ⟨g, i, none⟩ = (#[.string t, .bool b, .int .i64 s, .int .i64 a] : Array Value)[i]?) :
    Calls Try.prog 31 #[.pointer (some ⟨g, 0, none⟩)] w fun e w' => e = .returned (.bool false) ∧ ∃ n, w.drewN n = w' := by
  have h1 : decide ((s : Int) < (t.size : Int)) = false := by simp; omega
  go_enter Try.func31, Try.ntmps31
  go_wp2_with fail
  go_quiet (fail)
  go_wp2
  go_ret
  exact ⟨rfl, _, rfl⟩
theorem toList_empty (t : ByteArray) : t.toList.isEmpty = decide (t.size = 0) := by
  rw [← decide_eq_emptyBytes]
  refine decide_eq_decide.2 ⟨fun h => by rw [h]; rfl, fun h => ?_⟩
  apply ByteArray.ext
  exact Array.eq_empty_of_size_eq_zero h
/-- does a call wait? -/
def waitsB (t : ByteArray) (b : Bool) (s : Nat) : Bool := decide (s < t.size) || (decide (t.size = 0) && !b)
theorem waits_any (g : Nat) (t : ByteArray) (b : Bool) (s a : Nat) (w : World) (hc : ∀ i, w.cell? ⟨g, i, none⟩ = (#[.string t, .bool b, .int .i64 s, .int .i64 a] : Array Value)[i]?) :
    Calls Try.prog 31 #[.pointer (some ⟨g, 0, none⟩)] w fun e w' => e = .returned (.bool (waitsB t b s)) ∧ ∃ n, w.drewN n = w' := by
  by_cases h1 : s < t.size
  · have := waits_1 g t b s a w h1 hc
    simpa [waitsB, h1] using this
  · by_cases h2 : t.size = 0
    · cases b
      · have := waits_2 g t s a w h1 (by rw [toList_empty]; simpa using h2) hc
        simpa [waitsB, h1, h2] using this
      · have := waits_3 g t s a w h1 (by rw [toList_empty]; simpa using h2) hc
        simpa [waitsB, h1, h2] using this
    · have := waits_4 g t b s a w h1 (by rw [toList_empty]; simpa using h2) hc
      simpa [waitsB, h1, h2] using this
theorem way_any (g : Nat) (t : ByteArray) (b : Bool) (s a : Nat) (w : World) (ha : a ≤ s) (hs : s < 1099511627776) (hc : ∀ i, w.cell? ⟨g, i, none⟩ = (#[.string t, .bool b, .int .i64 s, .int .i64 a] : Array Value)[i]?) :
    Calls Try.prog 32 #[.pointer (some ⟨g, 0, none⟩)] w fun e w' => e = .returned (.int .i64 ((s : Int) - (a : Int))) ∧ ∃ n, w.drewN n = w' := by
  have h1 : IntKind.i64.wrap ((s : Int) - (a : Int)) = (s : Int) - (a : Int) := IntWalk.i64_in _ (by omega)
  go_enter Try.func32, Try.ntmps32
  go_wp2_with fail
  go_quiet (fail)
  go_wp2
  go_ret
  exact ⟨rfl, _, rfl⟩

/-- a sender with one call -/
structure OutAt (w : World) (gO gL gS cap : Nat) (cur : Array Value) (t : ByteArray) (b : Bool) (s a : Nat) : Prop where
  o : Blk w gO 84 #[.int .i64 4096, .int .i64 1024, .slice (some ⟨gL, 0, none⟩) 1 cap]
  l : Blk w gL 89 cur
  c : cur[0]? = some (.pointer (some ⟨gS, 0, none⟩))
  k : 1 ≤ cap
  s : Blk w gS 93 #[.string t, .bool b, .int .i64 s, .int .i64 a]

theorem left_any (gO gL gS cap : Nat) (cur : Array Value) (t : ByteArray) (b : Bool) (s a : Nat) (w : World) (h : OutAt w gO gL gS cap cur t b s a) :
    Calls Try.prog 17 #[.pointer (some ⟨gO, 0, none⟩)] w fun e w' => e = .returned (.int .i64 (if waitsB t b s then 1 else 0)) ∧ ∃ n, w.drewN n = w' := by
  have hcO := h.o.cell
  have hcL : ∀ i, w.cell? ⟨gL, i, none⟩ = cur[i]? := h.l.cell
  have hc0 := h.c
  have hcS := h.s.cell
  have HW := waits_any gS t b s a w hcS
  have HW1 := Lib.hid HW
  clear HW
  generalize waitsB t b s = B at *
  cases B
  all_goals
    go_enter Try.func17, Try.ntmps17
    go_wp2_with fail
    refine wp_loop_rounds 2 ?_
    rw [rounds_succ]
    go_wp2_with (go_at_call 31; refine HW1.out.mono ?_; rintro e w1 ⟨rfl, n, rfl⟩)
    rw [rounds_succ]
    go_wp2_with fail
    go_ret
    exact ⟨rfl, _, rfl⟩

theorem info89 : (Try.prog.info? 89).map (fun i => (i.zero, i.size, i.bytes)) = some (some (.pointer none), 1, 8) := by kernel_rfl
def PutPost (w : World) (gO : Nat) (t : ByteArray) (e : Ending) (w' : World) : Prop :=
  e = .returned (.int .i64 0) ∧ Off [gO] w w' ∧ ∃ gL gS cap cur, w.heap.size ≤ gS ∧ OutAt w' gO gL gS cap cur t false 0 0
theorem put_end {w w1 : World} {gO gL cap : Nat} {t : ByteArray} (_hO : Blk w gO 84 #[.int .i64 4096, .int .i64 1024, .slice none 0 0])
    (hown : w1.ownsRow w.heap.size 89 1 (.slice (some ⟨gL, 0, none⟩) (0 + 1) cap) (0 + 1) ([] ++ [.pointer (some ⟨w.heap.size, 0, none⟩)])) (hO1 : Blk w1 gO 84 #[.int .i64 4096, .int .i64 1024, .slice none 0 0])
    (hS1 : Blk w1 w.heap.size 93 #[.string t, .bool false, .int .i64 0, .int .i64 0]) (hoff : Off [] w w1) : PutPost w gO t (.returned (.int .i64 0)) (w1.setCell ⟨gO, 2, none⟩ (.slice (some ⟨gL, 0, none⟩) 1 cap)) := by
  obtain ⟨cur, hL, hb, hk, hcur⟩ := own_blk hown (by omega)
  have n1 : gO ≠ gL := hO1.ne_ hL (by decide)
  have n2 : w.heap.size ≠ gO := hS1.ne_ hO1 (by decide)
  exact ⟨rfl, (hoff.mono (by simp)).setCell (.inr (by simp)) _, gL, w.heap.size, cap, cur, Nat.le_refl _, hO1.set_ 2 _, hL.far n1.symm _, hcur 0 _ rfl, by omega, hS1.far n2 _⟩
set_option maxRecDepth 100000 in
theorem put_any (gO : Nat) (t : ByteArray) (w : World) (ht : t.size ≤ 65536) (hO : Blk w gO 84 #[.int .i64 4096, .int .i64 1024, .slice none 0 0]) :
    Calls Try.prog 16 #[.pointer (some ⟨gO, 0, none⟩), .string t] w (PutPost w gO t) := by
  obtain ⟨i0, hi, hz0, hz1, hz2⟩ := info_parts info89
  have hcO := hO.cell
  have hfO := hO.frozen
  have hlO := hO.lt
  go_enter Try.func16, Try.ntmps16
  go_wp2_with (at_builtin; refine wpList_append_own _ rfl _ _ 82 rfl w.heap.size 89 i0 (.pointer none) 1 8 Try.underlying82 hi hz0 hz1 hz2 rfl (by decide) _ 0 [] rfl ⟨rfl, .inl ⟨rfl, rfl⟩⟩ ⟨w.heap.size + 1, 0, none⟩ 1 1 [_] rfl rfl (cell_one_at (Blk.new1 _ _ _ _)) (by simp [Value.oneCell']) (by unfold maxLen; omega) (by omega) (by simp; omega) ?_; intro v' w1 hown' hgrow _; obtain ⟨gL, cap, rfl⟩ := ownsRow_succ (k := 0) hown'; have hO1 := ((hO.alloc (.cells #[.string t, .bool false, .int .i64 0, .int .i64 0] 93)).alloc (.cells #[.pointer (some ⟨w.heap.size, 0, none⟩)] 89)).grown hgrow (by simp [Value.ownBlock, Act.eval]); have hcO1 := hO1.cell; have hfO1 := hO1.frozen; have hlO1 := hO1.lt; have hS1 := ((Blk.new w 93 #[.string t, .bool false, .int .i64 0, .int .i64 0]).alloc (.cells #[.pointer (some ⟨w.heap.size, 0, none⟩)] 89)).grown hgrow (by simp [Value.ownBlock, Act.eval]))
  go_ret
  exact put_end hO (by assumption) (by assumption) (by assumption) ((((Off.refl _ _).alloc _).alloc _).grown (by assumption) (by intro k hk; simp [Value.ownBlock, Act.eval] at hk))

def NewOutPost (w : World) (e : Ending) (w' : World) : Prop := ∃ gO, w.heap.size ≤ gO ∧ e = .returned (.tuple #[.pointer (some ⟨gO, 0, none⟩), .int .i64 0]) ∧ Blk w' gO 84 #[.int .i64 4096, .int .i64 1024, .slice none 0 0] ∧ Off [] w w'
theorem newOut_any (w : World) : Calls Try.prog 14 #[.int .i64 4096, .int .i64 1024] w (NewOutPost w) := by
  go_enter Try.func14, Try.ntmps14
  go_wp2
  go_ret2
  exact ⟨_, Nat.le_refl _, rfl, Blk.new _ _ _, (Off.refl _ _).alloc _⟩
end Go.Proofs.Ytpaeihdkggbeoaa
