/- hawserref01: Parts, Path, Split, Parent: the walks. Conditions: no string is longer than 1048576 bytes. -/
import Derived.Test.YtpaeihdkggbeoaaGreatDoorRef
import Derived.Test.YtpaeihdkggbeoaaGreatDoorTNames
namespace Go.Proofs.YtpaeihdkggbeoaaGreatDoor
open Go.RowKit Go.Op

def partsB (s : ByteArray) : List ByteArray := (parts (str s)).map bs
/-- a list of strings that the call has made -/
def MadeS (L : List ByteArray) (w : World) (e : Ending) (w' : World) : Prop :=
  ∃ v, e = .returned v ∧ w'.ownsRow w.heap.size 9 1 v L.length (L.map Value.string) ∧ Off [] w w'
/-- how far Parts has come: the parts in D; the next one begins at fr; none ends before i -/
structure PtAt (s : Str) (D : List Str) (fr i : Nat) : Prop where
  le : fr ≤ i
  run : i ≤ s.length → parts s = D ++ parts (s.drop fr) ∧ 47 ∉ (s.drop fr).take (i - fr)
  fin : i = s.length + 1 → parts s = D
theorem PtAt.len {s : Str} {D : List Str} {fr i : Nat} (h : PtAt s D fr i) (hi : i ≤ s.length + 1) : D.length ≤ s.length + 1 := by
  have hl := parts_length s
  have hc : s.count 47 ≤ s.length := List.count_le_length
  rcases Nat.lt_or_ge s.length i with h1 | h1
  · rw [h.fin (by omega)] at hl; omega
  · rw [(h.run h1).1, List.length_append] at hl; omega
theorem PtAt.start (s : Str) : PtAt s [] 0 0 := ⟨Nat.le_refl _, fun _ => ⟨by simp, by simp⟩, fun h => by omega⟩
theorem PtAt.pass {s : Str} {D : List Str} {fr i : Nat} (h : PtAt s D fr i) (hi : i < s.length) (hx : s[i] ≠ 47) : PtAt s D fr (i + 1) := by
  refine ⟨by have := h.le; omega, fun _ => ⟨(h.run (by omega)).1, fun hm => ?_⟩, fun e => by omega⟩
  have h2 := (h.run (by omega)).2
  have hle := h.le
  have : (s.drop fr).take (i + 1 - fr) = (s.drop fr).take (i - fr) ++ [s[i]] := by
    rw [show i + 1 - fr = (i - fr) + 1 by omega, List.take_succ_eq_append_getElem (by rw [List.length_drop]; omega), List.getElem_drop]
    congr 3
    omega
  rw [this, List.mem_append, List.mem_singleton] at hm
  rcases hm with hm | hm
  · exact h2 hm
  · exact hx hm.symm
theorem PtAt.hit {s : Str} {D : List Str} {fr i : Nat} (h : PtAt s D fr i) (hi : i < s.length) (hx : s[i] = 47) : PtAt s (D ++ [(s.drop fr).take (i - fr)]) (i + 1) (i + 1) := by
  obtain ⟨h1, h2⟩ := h.run (by omega)
  have hle := h.le
  have hcut : s.drop fr = (s.drop fr).take (i - fr) ++ 47 :: (s.drop fr).drop (i - fr + 1) := by
    have e1 := List.take_append_drop (i - fr) (s.drop fr)
    have e2 : (s.drop fr).drop (i - fr) = 47 :: (s.drop fr).drop (i - fr + 1) := by
      rw [List.drop_eq_getElem_cons (by rw [List.length_drop]; omega), List.getElem_drop]
      congr 1
      have : fr + (i - fr) = i := by omega
      simp only [this]
      exact hx
    rw [e2] at e1
    exact e1.symm
  have hp := parts_cut h2 hcut
  rw [List.drop_drop, show fr + (i - fr + 1) = i + 1 by omega] at hp
  refine ⟨Nat.le_refl _, fun _ => ⟨?_, by simp⟩, fun e => by omega⟩
  rw [h1, hp]; simp
theorem PtAt.last {s : Str} {D : List Str} {fr : Nat} (h : PtAt s D fr s.length) : PtAt s (D ++ [(s.drop fr).take (s.length - fr)]) (s.length + 1) (s.length + 1) := by
  obtain ⟨h1, h2⟩ := h.run (Nat.le_refl _)
  have e : (s.drop fr).take (s.length - fr) = s.drop fr := List.take_of_length_le (by simp)
  rw [e] at h2 ⊢
  refine ⟨Nat.le_refl _, fun h => by omega, fun _ => ?_⟩
  rw [h1, parts_clean _ h2]
theorem extract_bs (s : ByteArray) (a b : Nat) : s.extract a b = bs (((str s).drop a).take (b - a)) := str_inj (by rw [str_extract, str_bs])

def PtRel (w : World) (s : ByteArray) (i : Nat) (f v : Value) (wr : World) : Prop :=
  ∃ (fr : Nat) (D : List Str), f = .int .i64 fr ∧ PtAt (str s) D fr i ∧ wr.ownsRow w.heap.size 9 1 v (D.map bs).length ((D.map bs).map Value.string) ∧ Off [] w wr

set_option maxRecDepth 100000 in
set_option maxHeartbeats 4000000 in
theorem rparts_any (s : ByteArray) (w : World) (hs : s.size ≤ 1048576) :
    Calls Tryz.prog 26 #[.string s] w (MadeS (partsB s) w) := by
  obtain ⟨i0, hi0, hz0, hz1, hz2⟩ := info_parts infoStr
  have hsl := str_size s
  have HSL := Lib.hid hsl
  clear hsl
  go_enter Tryz.func26, Tryz.ntmps26
  go_wp2_with fail
  go_loopw [5, 4, 3] (fun x f v wr => ∃ i : Nat, x = .int .i64 i ∧ i ≤ s.size + 1 ∧ PtRel w s i f v wr) (fun x _ _ _ => s.size + 1 - (intOf x).toNat)
  case atStart => exact ⟨0, rfl, by omega, 0, [], rfl, PtAt.start _, ⟨rfl, .inl ⟨rfl, rfl⟩⟩, Off.refl _ _⟩
  case round =>
    obtain ⟨i, rfl, hi, fr, D, rfl, hpt, hown, hoff⟩ := hrel
    have HPT := Lib.hid hpt
    have hle := hpt.le
    have hDl := hpt.len (by rw [HSL.out]; omega)
    rw [HSL.out] at hDl
    have hDm : (D.map bs).length = D.length := List.length_map _
    have hDl2 : (D.map bs).length ≤ s.size + 1 := by omega
    clear hpt hDm hDl
    by_cases hlt : i < s.size
    · obtain ⟨x, hx⟩ : ∃ x : UInt8, s[i]'hlt = x := ⟨_, rfl⟩
      have hxl : (str s)[i]'(by rw [HSL.out]; exact hlt) = x := by rw [← hx]; rfl
      have HXL := Lib.hid hxl
      have hine : ((i : Int) == (s.size : Int)) = false := beq_eq_false_iff_ne.2 (by omega)
      clear hxl
      by_cases hx7 : x.toNat = 47
      · have f2 : ((x.toNat : Int) == 47) = true := by simp [hx7]
        have HX := Lib.hid (show x = 47 from UInt8.toNat_inj.1 hx7)
        have HNEW := Lib.hid (HPT.out.hit (by rw [HSL.out]; exact hlt) (HXL.out.trans HX.out))
        have HEX := Lib.hid (extract_bs s fr i)
        clear hx7
        go_wp2_with (at_builtin; refine wpList_append_own _ rfl _ _ 46 rfl w.heap.size 9 i0 (.string ⟨#[]⟩) 1 16 Tryz.underlying46 hi0 hz0 hz1 hz2 rfl (by decide) _ _ _ rfl (hown.alloc _) ⟨wr.heap.size, 0, none⟩ 1 1 [_] rfl rfl (cell_one_at (Blk.new wr _ _)) (by simp [Value.oneCell']) (by unfold maxLen; omega) (by omega) (by have := hoff.size; simp; omega) ?_; intro v' w6 hown' hgrow _)
        refine ⟨⟨i + 1, by congr 1, by omega, i + 1, D ++ [((str s).drop fr).take (i - fr)], by congr 1, HNEW.out, ?_, own_off hoff hown hgrow⟩, by simp only [intOf]; omega⟩
        rw [HEX.out] at hown'
        simpa using hown'
      · have f2 : ((x.toNat : Int) == 47) = false := by simp; omega
        have HNEW := Lib.hid (HPT.out.pass (by rw [HSL.out]; exact hlt) (fun e => hx7 (by rw [← HXL.out, e]; rfl)))
        clear hx7
        go_wp2_with fail
        exact ⟨⟨i + 1, by congr 1, by omega, fr, D, rfl, HNEW.out, hown, hoff⟩, by simp only [intOf]; omega⟩
    · by_cases heq : i = s.size
      · have hieq : ((i : Int) == (s.size : Int)) = true := beq_iff_eq.2 (by omega)
        have hptl : PtAt (str s) D fr (str s).length := by rw [HSL.out, ← heq]; exact HPT.out
        have HNEW := Lib.hid hptl.last
        have HEX := Lib.hid (extract_bs s fr i)
        have HEQ := Lib.hid heq
        have hile : i ≤ s.size := by omega
        clear heq hptl
        go_wp2_with (at_builtin; refine wpList_append_own _ rfl _ _ 46 rfl w.heap.size 9 i0 (.string ⟨#[]⟩) 1 16 Tryz.underlying46 hi0 hz0 hz1 hz2 rfl (by decide) _ _ _ rfl (hown.alloc _) ⟨wr.heap.size, 0, none⟩ 1 1 [_] rfl rfl (cell_one_at (Blk.new wr _ _)) (by simp [Value.oneCell']) (by unfold maxLen; omega) (by omega) (by have := hoff.size; simp; omega) ?_; intro v' w6 hown' hgrow _)
        refine ⟨⟨i + 1, by congr 1, by omega, i + 1, D ++ [((str s).drop fr).take (i - fr)], by congr 1, ?_, ?_, own_off hoff hown hgrow⟩, by simp only [intOf]; omega⟩
        · have h := HNEW.out
          rw [HSL.out, ← HEQ.out] at h
          exact h
        · rw [HEX.out] at hown'
          simpa using hown'
      · have hfin : parts (str s) = D := HPT.out.fin (by rw [HSL.out]; omega)
        have HFIN := Lib.hid hfin
        clear hfin
        have hgt : s.size < i := by omega
        go_wp2_with fail
        go_ret
        exact ⟨_, rfl, by unfold partsB; rw [HFIN.out]; exact hown, hoff⟩
end Go.Proofs.YtpaeihdkggbeoaaGreatDoor
