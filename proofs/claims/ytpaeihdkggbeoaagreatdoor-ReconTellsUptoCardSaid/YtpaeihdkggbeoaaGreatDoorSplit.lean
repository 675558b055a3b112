/- strings.SplitSeq at a slash: the iterator, as name.Path ranges over it. Conditions: what each contract states. -/
import Derived.RangeFuncNested
import Derived.RangeFuncBound
import Derived.RangeFuncCalls
import Derived.RangeFuncLeaves
import Derived.Shelf.Abstract
import Derived.Shelf.RegionOpen
import Derived.WalkKit
import Derived.OwnWalkIn
import Derived.TacticsInMore
import Derived.LoopNIn
import Derived.LoopIn
import Derived.Test.YtpaeihdkggbeoaaGreatDoorName
namespace Go.Proofs.YtpaeihdkggbeoaaGreatDoor
open Go.RowKit Go.Op

def SplitP (s : ByteArray) (w : World) (e : Ending) (w' : World) : Prop :=
  ∃ g, e = .returned (.func (.func 92) #[] #[.pointer (some ⟨g + 1, 0, none⟩), .pointer (some ⟨g, 0, none⟩), .pointer (some ⟨g + 2, 0, none⟩)]) ∧ w.heap.size ≤ g ∧
    Blk w' g 9 #[.string s] ∧ Blk w' (g + 1) 9 #[.string ⟨#[47]⟩] ∧ Blk w' (g + 2) 3 #[.int .i64 0] ∧ Off [] w w'
set_option maxRecDepth 100000 in
theorem splitSeq0 (s : ByteArray) (w : World) : Calls Tryz.prog 74 #[.string s, .string ⟨#[47]⟩, .int .i64 0] w (SplitP s w) := by
  go_enter Tryz.func74, Tryz.ntmps74
  go_wp2_with fail
  go_ret
  refine ⟨w.heap.size, rfl, Nat.le_refl _, ((Blk.new w 9 _).alloc _).alloc _, (Blk.new1 w _ _ _).alloc _, Blk.new2 w _ _ _ _, (((Off.refl _ _).alloc _).alloc _).alloc _⟩
set_option maxRecDepth 100000 in
theorem splitSeq_any (s : ByteArray) (w : World) : Calls Tryz.prog 49 #[.string s, .string ⟨#[47]⟩] w (SplitP s w) := by
  go_enter Tryz.func49, Tryz.ntmps49
  go_wp2_with fail
  refine (splitSeq0 s w).mono ?_
  rintro e w1 ⟨g, rfl, h1, h2, h3, h4, h5⟩
  go_wp2_with fail
  go_ret
  exact ⟨g, rfl, h1, h2, h3, h4, h5⟩

/-- between two rounds -/
structure SplInv (l D g r : Nat) (rc : LoopState → Option Code → Loop) (w0 : World) (cur : ByteArray) (W : World) : Prop where
  rdy : W.heap[l]? = some (.loop (rc .ready none))
  dfr : W.heap[D]? = some (.deferred (some []))
  s : Blk W g 9 #[.string cur]
  sep : Blk W (g + 1) 9 #[.string ⟨#[47]⟩]
  sv : Blk W (g + 2) 3 #[.int .i64 0]
  res : Blk W r 4 #[.bool false]
  off : Off [] w0 W
  sz : cur.size ≤ 400
structure SplX (l D r : Nat) (rc : LoopState → Option Code → Loop) (w0 : World) (W : World) : Prop where
  don : W.heap[l]? = some (.loop (rc .done (some .ret)))
  dfr : W.heap[D]? = some (.deferred (some []))
  res : Blk W r 4 #[.bool false]
  off : Off [] w0 W
def curLen (W : World) (g : Nat) : Nat := match W.cell? ⟨g, 0, none⟩ with | some (.string c) => c.size | _ => 0
theorem SplInv.set {l D g r : Nat} {rc : LoopState → Option Code → Loop} {w0 W : World} {cur : ByteArray} (h : SplInv l D g r rc w0 cur W) (hg : w0.heap.size ≤ g) (hr : r < g) (c : ByteArray) (hc : c.size ≤ 400) :
    SplInv l D g r rc w0 c (W.setCell ⟨g, 0, none⟩ (.string c)) := by
  have hne : ∀ k o, W.heap[k]? = some o → k ≠ g → (W.setCell ⟨g, 0, none⟩ (.string c)).heap[k]? = some o := fun k o ho hk => (Below.heap_setCell W ⟨g, 0, none⟩ _ k hk).trans ho
  have hl : l ≠ g := by
    rintro rfl
    have h1 := h.rdy; have h2 := h.s; unfold Blk at h2; rw [h1] at h2; simp at h2
  have hD : D ≠ g := by
    rintro rfl
    have h1 := h.dfr; have h2 := h.s; unfold Blk at h2; rw [h1] at h2; simp at h2
  exact ⟨hne _ _ h.rdy hl, hne _ _ h.dfr hD, by simpa using h.s.set_ 0 (.string c), h.sep.far (by simp) _, h.sv.far (by simp) _, h.res.far (by simp; omega) _, h.off.setCell (.inl hg) _, hc⟩
theorem parts_cut {s : Str} {i : Nat} (h1 : 47 ∉ s.take i) (h2 : s = s.take i ++ 47 :: s.drop (i + 1)) : parts s = s.take i :: parts (s.drop (i + 1)) := by
  have := parts_append (s.drop (i + 1)) (s.take i)
  rw [← h2, parts_clean _ h1] at this
  exact this
attribute [local go_sem] Oper.semAt_some
set_option maxRecDepth 100000 in
set_option maxHeartbeats 4000000 in
theorem split_in (n l D g r : Nat) (rc : LoopState → Option Code → Loop) (w0 : World) (hg : w0.heap.size ≤ g) (hr : r < g)
    (hY : ∀ cur x W1, SplInv l D g r rc w0 cur W1 → x.size ≤ 400 → YieldAt Fence.wide n Tryz.prog l #[.string x] W1 fun e W' =>
      (okName (str x) = true ∧ e = .returned (.bool true) ∧ SplInv l D g r rc w0 cur W') ∨ (okName (str x) = false ∧ e = .returned (.bool false) ∧ SplX l D r rc w0 W'))
    (s : ByteArray) (W : World) (hI : SplInv l D g r rc w0 s W) :
    CallsIn Fence.wide (n + 1) Tryz.prog 92 #[.func (.yield l) #[] #[], .pointer (some ⟨g + 1, 0, none⟩), .pointer (some ⟨g, 0, none⟩), .pointer (some ⟨g + 2, 0, none⟩)] W fun e W' =>
      (∃ v, e = .returned v) ∧ (((parts (str s)).all okName = true ∧ ∃ cur, SplInv l D g r rc w0 cur W') ∨ ((parts (str s)).all okName = false ∧ SplX l D r rc w0 W')) := by
  have hro : Fence.wide.round = none := rfl
  refine callsIn_of_wp Tryz.func92 rfl trivial ?_ hro
  simp only [Tryz.ntmps92, List.size_toArray, List.length_cons, List.length_nil, Nat.reduceAdd, Nat.reduceSub, Array.replicate_succ, Array.replicate_zero, List.push_toArray, List.append_toArray, List.nil_append, List.cons_append]
  have hc1 := hI.sep.cell 0
  have HI := Lib.hid hI
  clear hI
  gi_wp2
  gi_loopw [] (fun wr => ∃ cur, SplInv l D g r rc w0 cur wr ∧ (parts (str s)).all okName = (parts (str cur)).all okName) (fun wr => curLen wr g)
  case atStart => exact ⟨s, HI.out, rfl⟩
  case round =>
    obtain ⟨cur, hI, hp⟩ := hrel
    have HP := Lib.hid hp
    clear hp hc1
    have hc0 := hI.s.cell 0
    have hc1 := hI.sep.cell 0
    have hc2 := hI.sv.cell 0
    have hsz := hI.sz
    have hf0 := hI.s.frozen 0
    have HJ := Lib.hid hI
    clear hI
    rcases slash_cases cur with ⟨hi, hn⟩ | ⟨i, hi, hlt, hn, hcut⟩
    · have HN := Lib.hid hi
      clear hi
      obtain ⟨fn, tmps, assign, body, hy, hR⟩ := hY cur cur wr HJ.out hsz
      gi_wp2
      refine ⟨trivial, (callsIn_wide.2 (index_any _ _)).mono ?_⟩
      rintro e w' ⟨rfl, e1⟩
      subst e1
      rw [HN.out]
      gi_wp2
      refine hR.mono ?_
      rintro e W3 (⟨ho, rfl, hJ3⟩ | ⟨ho, rfl, hX3⟩)
      · gi_wp2
        go_end0
        exact ⟨⟨_, rfl⟩, .inl ⟨by rw [HP.out, parts_clean _ hn]; simp [ho], cur, hJ3⟩⟩
      · gi_wp2
        go_end0
        exact ⟨⟨_, rfl⟩, .inr ⟨by rw [HP.out, parts_clean _ hn]; simp [ho], hX3⟩⟩
    · have HN := Lib.hid hi
      have HC := Lib.hid hcut
      clear hi hcut
      have c1 : (0 : Int) ≤ ↑i := by omega
      have c2 : (↑i : Int) ≤ ↑cur.size := by omega
      have c3 : (0 : Int) ≤ ↑i + 1 := by omega
      have c4 : (↑i + 1 : Int) ≤ ↑cur.size := by omega
      obtain ⟨fn, tmps, assign, body, hy, hR⟩ := hY cur (cur.extract 0 i) wr HJ.out (by simp; omega)
      gi_wp2
      refine ⟨trivial, (callsIn_wide.2 (index_any _ _)).mono ?_⟩
      rintro e w' ⟨rfl, e1⟩
      subst e1
      rw [HN.out]
      gi_wp2
      refine hR.mono ?_
      rintro e W3 (⟨ho, rfl, hJ3⟩ | ⟨ho, rfl, hX3⟩)
      · have hd0 := hJ3.s.cell 0
        have hd1 := hJ3.sep.cell 0
        have hf3 := hJ3.s.frozen 0
        have hls := hJ3.s.lt
        have HJ3 := Lib.hid hJ3
        clear hJ3 hc0 hc1 hc2 hf0
        gi_wp2
        have e1 : str (cur.extract 0 i) = (str cur).take i := by rw [str_extract]; simp
        have e2 : str (cur.extract (i + 1) cur.size) = (str cur).drop (i + 1) := by
          rw [str_extract, ← str_size]; exact List.take_of_length_le (by simp)
        have hpc := parts_cut hn HC.out
        have k1 := HJ3.out.set hg hr (cur.extract (i + 1) cur.size) (by simp; omega)
        have k2 : curLen (W3.setCell ⟨g, 0, none⟩ (.string (cur.extract (i + 1) cur.size))) g = (cur.extract (i + 1) cur.size).size := by
          have := k1.s.cell 0
          simp only [curLen, this]; rfl
        have k3 : curLen wr g = cur.size := by
          have := HJ.out.s.cell 0
          simp only [curLen, this]; rfl
        refine ⟨⟨_, k1, ?_⟩, ?_⟩
        · rw [HP.out, hpc, List.all_cons, ← e1, ho, e2]; rfl
        · rw [k2, k3]; simp; omega
      · gi_wp2
        have e1 : str (cur.extract 0 i) = (str cur).take i := by rw [str_extract]; simp
        have hpc := parts_cut hn HC.out
        refine bodyPost_ret (results_none rfl _ _ _) rfl ?_
        exact ⟨⟨_, rfl⟩, .inr ⟨by rw [HP.out, hpc, List.all_cons, ← e1, ho]; rfl, hX3⟩⟩
end Go.Proofs.YtpaeihdkggbeoaaGreatDoor
