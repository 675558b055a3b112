/- The walks of package mux's receiver with one call: what it answers and what becomes of it. Conditions: texts of at most 65536 bytes. -/
import Derived.Test.YtpaeihdkggbeoaaCode
import Derived.Deep.RegionHeld3
import Derived.Deep.QuietTactic
import Derived.BigQuiet
import Derived.BigRegion
import Derived.ChangeMaps4
namespace Go.Proofs.Ytpaeihdkggbeoaa
open Go.RowKit Go.Op
open Go.ChangeMaps (setBlock)
theorem run_checkInt (w : World) (e : Bool) (n : Int) : (Instr.checkKey e 10000 3 (.int .i64 n)).run Try.prog w = .ok () w := by
  show (Instr.checkKey e (9999 + 1) 3 (.int .i64 n)).run Try.prog w = .ok () w
  unfold Instr.checkKey
  simp [run_underlying Try.underlying3]
theorem run_findInt0 (w : World) (n : Int) : (Instr.findKey 3 (.int .i64 n) []).run Try.prog w = .ok none w := by
  simp [Instr.findKey, run_underlying Try.underlying3, Instr.findNow]
theorem run_findInt1 (w : World) (n : Int) (v : Value) (b : Nat) : (Instr.findKey 3 (.int .i64 n) [{ key := .int .i64 n, val := v, born := b }]).run Try.prog w = .ok (some (0, v)) w := by
  simp [Instr.findKey, run_underlying Try.underlying3, Instr.findNow, Instr.sameNow]
theorem run_getObj {w : World} {r c : Nat} {es : Array MapEntry} (h : w.heap[r]? = some (.map es c)) : (getObj r).run Try.prog w = .ok (.map es c) w := by
  simp [getObj, Sem.run, h]
theorem run_setObj {w : World} {r c : Nat} {es : Array MapEntry} (h : w.heap[r]? = some (.map es c)) (o' : Obj) : (setObj r o').run Try.prog w = .ok () (setBlock w r o') := by
  simp [setObj, Sem.run, h, setBlock]
theorem zero103 (w : World) : (zeroValue 103).run Try.prog w = .ok (.pointer none) w := by kernel_rfl
theorem run_lk0 (w : World) (gm : Nat) (c : Nat) (h : w.heap[gm]? = some (.map #[] c)) : (Instr.lookup 85 (.map (some gm)) (.int .i64 0) false).run Try.prog w = .ok (.pointer none) w := by
  simp [Instr.lookup, run_underlying Try.underlying85, run_getObj h, run_checkInt, run_findInt0]
theorem run_lk1 (w : World) (gm : Nat) (c b : Nat) (v : Value) (h : w.heap[gm]? = some (.map #[{ key := .int .i64 0, val := v, born := b }] c)) : (Instr.lookup 85 (.map (some gm)) (.int .i64 0) false).run Try.prog w = .ok v w := by
  simp [Instr.lookup, run_underlying Try.underlying85, run_getObj h, run_checkInt, run_findInt1]
theorem run_up0 (w : World) (gm : Nat) (c : Nat) (v : Value) (h : w.heap[gm]? = some (.map #[] c)) : (Instr.mapUpdate 85 (.map (some gm)) (.int .i64 0) v).run Try.prog w = .ok () (setBlock w gm (.map #[{ key := .int .i64 0, val := v, born := c }] (c + 1))) := by
  simp [Instr.mapUpdate, run_underlying Try.underlying85, run_getObj h, run_checkInt, run_findInt0, run_setObj h]
theorem run_up1 (w : World) (gm : Nat) (c b : Nat) (u v : Value) (h : w.heap[gm]? = some (.map #[{ key := .int .i64 0, val := u, born := b }] c)) : (Instr.mapUpdate 85 (.map (some gm)) (.int .i64 0) v).run Try.prog w = .ok () (setBlock w gm (.map #[{ key := .int .i64 0, val := v, born := b }] c)) := by
  simp [Instr.mapUpdate, run_underlying Try.underlying85, run_getObj h, run_checkInt, run_findInt1, run_setObj h, Instr.keyThatStays, Instr.sameBits]

theorem code_gen {P : Program} {c : Code} {Q : Exit → Act → World → Prop} {a : Act} {w : World} (φ : World → Prop) (h : φ w) (k : ∀ W, φ W → Code.wp P c Q a W) : Code.wp P c Q a w := k w h

theorem cell_setBlock_ne {w : World} {b g i : Nat} {o : Obj} (h : g ≠ b) : (setBlock w b o).cell? ⟨g, i, none⟩ = w.cell? ⟨g, i, none⟩ := by
  simp [World.cell?, setBlock, Ne.symm h]
theorem frozen_setBlock_ne {w : World} {b g i : Nat} {o : Obj} (h : g ≠ b) : (setBlock w b o).frozen? ⟨g, i, none⟩ = w.frozen? ⟨g, i, none⟩ := by
  simp [World.frozen?, setBlock, Ne.symm h]
theorem Blk.setBlock {w : World} {g b : Nat} {t : TypeId} {cs : Array Value} (h : Blk w g t cs) (hne : g ≠ b) (o : Obj) : Blk (setBlock w b o) g t cs := by
  unfold Blk at *
  simp [ChangeMaps.setBlock, Ne.symm hne, h]
theorem Off.setBlock {w w' : World} {l : List Nat} {b : Nat} (h : Off l w w') (hb : w.heap.size ≤ b ∨ b ∈ l) (o : Obj) : Off l w (setBlock w' b o) :=
  ⟨h.os, h.tape, h.output, by simpa [ChangeMaps.setBlock] using h.size, fun k hk hn => by
    have hne : b ≠ k := by rintro rfl; rcases hb with hb | hb; omega; exact hn hb
    simpa [ChangeMaps.setBlock, Array.getElem?_setIfInBounds, hne] using h.block k hk hn⟩
/-- a map's block -/
def MapB (w : World) (g : Nat) (es : Array MapEntry) (c : Nat) : Prop := w.heap[g]? = some (.map es c)
section
variable {w w' : World} {g c : Nat} {es : Array MapEntry}
theorem MapB.lt (h : MapB w g es c) : g < w.heap.size := by
  rcases Nat.lt_or_ge g w.heap.size with hlt | hge
  · exact hlt
  · unfold MapB at h; rw [Array.getElem?_eq_none hge] at h; cases h
theorem MapB.new (w : World) (es : Array MapEntry) (c : Nat) : MapB (w.alloc (.map es c)) w.heap.size es c := heap_alloc_new w _
theorem MapB.drew (h : MapB w g es c) : MapB w.drew g es c := h
theorem MapB.drewN (h : MapB w g es c) (n : Nat) : MapB (w.drewN n) g es c := h
theorem MapB.alloc (h : MapB w g es c) (o : Obj) : MapB (w.alloc o) g es c := (Below.heap_alloc w o g h.lt).trans h
theorem MapB.far (h : MapB w g es c) {p : Addr} (hp : g ≠ p.block) (u : Value) : MapB (w.setCell p u) g es c := (Below.heap_setCell w p u g hp).trans h
theorem MapB.off {l : List Nat} (h : MapB w g es c) (hb : Off l w w') (hg : g ∉ l) : MapB w' g es c := (hb.block g h.lt hg).trans h
theorem MapB.grown (h : MapB w g es c) {row : Option Nat} (hb : w.grownBy w' row) (hg : some g ≠ row) : MapB w' g es c := (hb.block g h.lt hg).trans h
theorem MapB.put (h : MapB w g es c) (es' : Array MapEntry) (c' : Nat) : MapB (setBlock w g (.map es' c')) g es' c' := by
  have := h.lt
  unfold MapB
  simp [setBlock, this]
theorem MapB.ne_ {g' : Nat} {t' : TypeId} {cs' : Array Value} (h : MapB w g es c) (h' : Blk w g' t' cs') : g' ≠ g := by
  rintro rfl
  unfold Blk at h'
  unfold MapB at h
  rw [h] at h'
  cases h'
end

/-- a receiver: no call yet -/
structure In0 (w : World) (gI gm : Nat) : Prop where
  i : Blk w gI 88 #[.map (some gm), .slice none 0 0]
  m : MapB w gm #[] 0
/-- a receiver with one call that is not done -/
structure In1 (w : World) (gI gm gt : Nat) (t : ByteArray) : Prop where
  i : Blk w gI 88 #[.map (some gm), .slice none 0 0]
  m : MapB w gm #[{ key := .int .i64 0, val := .pointer (some ⟨gt, 0, none⟩), born := 0 }] 1
  t : Blk w gt 105 #[.string t, .bool false, .bool false]
/-- a receiver with one call that is done -/
structure In2 (w : World) (gI gm gt : Nat) (t : ByteArray) : Prop where
  i : ∃ v, Blk w gI 88 #[.map (some gm), v]
  m : MapB w gm #[{ key := .int .i64 0, val := .pointer (some ⟨gt, 0, none⟩), born := 0 }] 1
  t : Blk w gt 105 #[.string t, .bool false, .bool true]

theorem newIn_any (w : World) : Calls Try.prog 15 #[] w fun e w' => e = .returned (.pointer (some ⟨w.heap.size + 1, 0, none⟩)) ∧ In0 w' (w.heap.size + 1) w.heap.size ∧ Off [] w w' := by
  have hmm := @run_makeMap Try.prog
  go_enter Try.func15, Try.ntmps15
  go_wp2
  go_ret
  exact ⟨rfl, ⟨Blk.new1 _ _ _ _, (MapB.new _ _ _).alloc _⟩, ((Off.refl _ _).alloc _).alloc _⟩

set_option maxRecDepth 100000 in
theorem inText_any (gI gm gt : Nat) (t : ByteArray) (w : World) (h : In2 w gI gm gt t) :
    Calls Try.prog 24 #[.pointer (some ⟨gI, 0, none⟩), .int .i64 0] w fun e w' => e = .returned (.tuple #[.string t, .bool true]) ∧ ∃ n, w.drewN n = w' := by
  obtain ⟨⟨v, hI⟩, hm, ht⟩ := h
  have hcI := hI.cell
  have hct := ht.cell
  have hlk := fun n => run_lk1 (w.drewN n) gm 1 0 (.pointer (some ⟨gt, 0, none⟩)) hm
  have hlk0 := run_lk1 w gm 1 0 (.pointer (some ⟨gt, 0, none⟩)) hm
  go_enter Try.func24, Try.ntmps24
  go_wp2_with fail
  go_quiet (fail)
  go_wp2
  go_ret2
  exact ⟨rfl, _, rfl⟩

def NewInPost (w : World) (e : Ending) (w' : World) : Prop := ∃ gI gm, w.heap.size ≤ gI ∧ w.heap.size ≤ gm ∧ e = .returned (.pointer (some ⟨gI, 0, none⟩)) ∧ In0 w' gI gm ∧ Off [] w w'
theorem newIn_ex (w : World) : Calls Try.prog 15 #[] w (NewInPost w) :=
  (newIn_any w).mono fun _ _ ⟨h1, h2, h3⟩ => ⟨_, _, by omega, Nat.le_refl _, h1, h2, h3⟩
end Go.Proofs.Ytpaeihdkggbeoaa
