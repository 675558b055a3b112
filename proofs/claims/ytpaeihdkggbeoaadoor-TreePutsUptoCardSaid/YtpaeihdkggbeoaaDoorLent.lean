/- hawserlaw06.lent and kept: the walks. Conditions: what each contract states. -/
import Derived.Test.YtpaeihdkggbeoaaDoorPut
import Derived.Laws.MakeOwn
namespace Go.Proofs.YtpaeihdkggbeoaaDoor
open Go.RowKit Go.Op

def spareN : Node := ⟨⟨#[115, 112, 97, 114, 101]⟩, 0, ⟨#[]⟩, 0⟩
def roomN : Node := ⟨⟨#[114, 111, 111, 109]⟩, 0, ⟨#[]⟩, 0⟩
def LentP (t : List Node) (n : Nat) (w : World) (e : Ending) (w' : World) : Prop :=
  ∃ g cap, e = .returned (.slice (some ⟨g, 0, none⟩) n cap) ∧ w'.ownsRow w.heap.size 29 4 (.slice (some ⟨g, 0, none⟩) (n + 2) cap) (n + 2) (cellsOf (t ++ [spareN, roomN])) ∧ Off [] w w'
theorem cells_eight_at {w : World} {g : Nat} {t : TypeId} {a b c d a' b' c' d' : Value} (h : Blk w g t #[a, b, c, d, a', b', c', d']) : ∀ j u, [a, b, c, d, a', b', c', d'][j]? = some u → w.cell? ((⟨g, 0, none⟩ : Addr).add j) = some u := by
  intro j u hj
  match j, hj with
  | 0, hj => rw [addr_add, h.cell]; simpa using hj
  | 1, hj => rw [addr_add, h.cell]; simpa using hj
  | 2, hj => rw [addr_add, h.cell]; simpa using hj
  | 3, hj => rw [addr_add, h.cell]; simpa using hj
  | 4, hj => rw [addr_add, h.cell]; simpa using hj
  | 5, hj => rw [addr_add, h.cell]; simpa using hj
  | 6, hj => rw [addr_add, h.cell]; simpa using hj
  | 7, hj => rw [addr_add, h.cell]; simpa using hj
  | j + 8, hj => simp at hj
theorem made_run {n : Nat} (hbig : n ≤ 1048576) (w : World) (i0 : TypeInfo) (hi0 : Tryd.prog.info? 29 = some i0) (hz0 : i0.zero = some node0.val) (hz1 : i0.size = 4) (hz2 : i0.bytes = 48) :
    ∃ w', (Instr.makeSlice 22 (.int .i64 0) (.int .i64 ((n : Int) + 2))).run Tryd.prog w = .ok (.slice (some ⟨w.heap.size, 0, none⟩) 0 (n + 2)) w' ∧
      w'.ownsRow w.heap.size 29 4 (.slice (some ⟨w.heap.size, 0, none⟩) 0 (n + 2)) 0 [] ∧ w.grownBy w' none := by
  have := run_make_own w w.heap.size 22 29 i0 node0.val 4 Tryd.underlying22 hi0 hz0 hz1 (P := Tryd.prog) .i64 .i64 (n + 2) (by rw [hz2]; omega) (by unfold maxLen; omega) (Nat.le_refl _)
  have e : (((n + 2 : Nat) : Int)) = (n : Int) + 2 := by push_cast; rfl
  rw [e] at this
  exact this
set_option maxRecDepth 100000 in
set_option maxHeartbeats 4000000 in
theorem lent_any (p : Option Addr) (t : List Node) (n c : Nat) (w : World) (hR : Row w p t) (hn : t.length = n) (hbig : n ≤ 1048576) (hpn : p = none → t = [] ∧ c = 0) :
    Calls Tryd.prog 19 #[.slice p n c] w (LentP t n w) := by
  obtain ⟨i0, hi0, hz0, hz1, hz2⟩ := info_parts infoNode
  have wn := IntWalk.i64_in (n := (n : Int) + 2) (by omega)
  obtain ⟨w1, hrun, hown1, hgrow1⟩ := made_run hbig w i0 hi0 hz0 hz1 hz2
  have hof1 : Off [] w w1 := (Off.refl _ w).grown hgrow1 (fun k hk => by cases hk)
  have HO := Lib.hid (cellsOf_one (t := t))
  have HCL := Lib.hid (show (cellsOf t).length = n * 4 by rw [cellsOf_len, hn])
  have HFIN := Lib.hid (show cellsOf t ++ [.string spareN.path, .int .i64 0, .string ⟨#[]⟩, .int .i64 0, .string roomN.path, .int .i64 0, .string ⟨#[]⟩, .int .i64 0] = cellsOf (t ++ [spareN, roomN]) by rw [cellsOf_append]; rfl)
  cases p with
  | none =>
    obtain ⟨rfl, rfl⟩ := hpn rfl
    obtain rfl : 0 = n := hn
    clear hR hpn hgrow1
    rw [show ((0 : Nat) : Int) + 2 = 2 from rfl, Nat.zero_add] at hrun
    rw [Nat.zero_add] at hown1
    go_enter Tryd.func19, Tryd.ntmps19
    go_wp2_with (first | (at_builtin; refine wpList_append_own_none rfl _ _ 22 rfl w.heap.size 29 i0 4 Tryd.underlying22 hi0 _ _ _ rfl hown1 rfl ?_) | (at_builtin; refine wpList_append_own _ rfl _ _ 22 rfl w.heap.size 29 i0 node0.val 4 48 Tryd.underlying22 hi0 hz0 hz1 hz2 rfl (by decide) _ _ _ rfl (hown1.alloc _) ⟨w1.heap.size, 0, none⟩ 2 2 [_, _, _, _, _, _, _, _] rfl rfl (cells_eight_at (Blk.new w1 _ _)) (by simp [Value.oneCell']) (by unfold maxLen; omega) (by omega) (by have := hof1.size; simp; omega) ?_; intro v2 W7 hown2 hgrow2 _; obtain ⟨g2, cap2, rfl, hcap2⟩ := own_some hown2 (by omega)))
    go_ret
    refine ⟨g2, cap2, rfl, ?_, own_grown (hof1.alloc _) (hown1.alloc _) hgrow2⟩
    rw [← HFIN.out]
    exact hown2
  | some a =>
    have HC := Lib.hid (fun (j : Nat) (u : Value) (hj : (cellsOf t)[j]? = some u) => (hR.off hof1).cells hj)
    have hsz1 := hof1.size
    clear hR hpn hgrow1 hn
    go_enter Tryd.func19, Tryd.ntmps19
    go_wp2_with (first | (at_builtin; refine wpList_append_own _ rfl _ _ 22 rfl w.heap.size 29 i0 node0.val 4 48 Tryd.underlying22 hi0 hz0 hz1 hz2 rfl (by decide) _ _ _ rfl hown1 a n c (cellsOf t) rfl HCL.out HC.out HO.out (by unfold maxLen; omega) (by omega) hsz1 ?_; intro v' W6 hown' hgrow _; have hof6 := own_grown hof1 hown1 hgrow) | (at_builtin; refine wpList_append_own _ rfl _ _ 22 rfl w.heap.size 29 i0 node0.val 4 48 Tryd.underlying22 hi0 hz0 hz1 hz2 rfl (by decide) _ _ _ rfl (hown'.alloc _) ⟨W6.heap.size, 0, none⟩ 2 2 [_, _, _, _, _, _, _, _] rfl rfl (cells_eight_at (Blk.new W6 _ _)) (by simp [Value.oneCell']) (by unfold maxLen; omega) (by omega) (by have := hof6.size; simp; omega) ?_; intro v2 W7 hown2 hgrow2 _; obtain ⟨g2, cap2, rfl, hcap2⟩ := own_some hown2 (by omega)))
    go_ret
    refine ⟨g2, cap2, by simp, ?_, own_grown (hof6.alloc _) (hown'.alloc _) hgrow2⟩
    rw [← HFIN.out]
    simp only [Nat.zero_add, List.nil_append] at hown2
    exact hown2
set_option maxRecDepth 100000 in
set_option maxHeartbeats 4000000 in
theorem kept_any (a : Addr) (q : Option Addr) (t : List Node) (n cap c : Nat) (w : World) (hA : Row w (some a) (t ++ [spareN, roomN])) (hn : t.length = n) (hcap : n + 2 ≤ cap) (hbig : n ≤ 1048576) (hq : Row w q t) :
    Calls Tryd.prog 22 #[.slice (some a) n cap, .slice q n c] w fun e w' => e = .returned (.bool true) ∧ Off [] w w' := by
  have wn := IntWalk.i64_in (n := (n : Int) + 2) (by omega)
  have wn1 := IntWalk.i64_in (n := (n : Int) + 1) (by omega)
  have hT : Row w (some a) t := by have := hA.take n; rw [List.take_append_of_le_length (by omega), List.take_of_length_le (by omega)] at this; exact this
  have HS := Lib.hid (rsame_any t t (some a) q cap c w (by rw [hn]; omega) (by rw [hn]; omega) hT hq)
  rw [hn, decide_eq_true (rfl : t = t)] at HS
  have HA := Lib.hid (fun (W : World) (ho : Off [] w W) => hA.off ho)
  have hl : (t ++ [spareN, roomN]).length = n + 2 := by rw [List.length_append, hn]; rfl
  have HL := Lib.hid hl
  have HG0 := Lib.hid (show (t ++ [spareN, roomN])[n]? = some spareN by rw [List.getElem?_append_right (by omega)]; simp [hn])
  have HG1 := Lib.hid (show (t ++ [spareN, roomN])[n + 1]? = some roomN by rw [List.getElem?_append_right (by omega)]; simp [hn])
  clear hA hT hq hl hn
  go_enter Tryd.func22, Tryd.ntmps22
  go_wp2_with fail
  refine HS.out.mono ?_
  rintro e w1 ⟨rfl, ho⟩
  obtain ⟨a', ea, hab, hnd⟩ := (HA.out w1 ho) (fun e => by have := HL.out; rw [e] at this; simp at this)
  cases ea
  have c0 : w1.cell? (a.add (n * 4)) = some (.string ⟨#[115, 112, 97, 114, 101]⟩) := (hnd n spareN HG0.out).path
  have c1 : w1.cell? (a.add ((n + 1) * 4)) = some (.string ⟨#[114, 111, 111, 109]⟩) := (hnd (n + 1) roomN HG1.out).path
  clear hnd
  go_wp2_with fail
  go_ret
  exact ⟨rfl, ho⟩
end Go.Proofs.YtpaeihdkggbeoaaDoor
