/- slices.Grow and slices.Concat of strings: the walks. (Printed by gen_concats.py.) Conditions: none beyond what each contract states. -/
import Derived.Test.YtpaeihdkggbeoaaGreatDoorRec
namespace Go.Proofs.YtpaeihdkggbeoaaGreatDoor
open Go.RowKit Go.Op

theorem strs_cell {w : World} {a : Addr} {t : List ByteArray} (h : Strs w (some a) t) {j : Nat} {u : Value} (hj : (t.map Value.string)[j]? = some u) : w.cell? (a.add j) = some u := by
  rw [List.getElem?_map] at hj
  cases ht : t[j]? with
  | none => rw [ht] at hj; cases hj
  | some x =>
    rw [ht] at hj
    cases hj
    obtain ⟨g, hg, _, hc⟩ := h j x ht
    cases hg
    rw [addr_add]; exact hc
theorem strs_one {t : List ByteArray} : ∀ u ∈ t.map Value.string, u.oneCell' = true := by
  intro u hu
  obtain ⟨x, _, rfl⟩ := List.mem_map.1 hu
  rfl
set_option maxRecDepth 100000 in
theorem grow0S_any (n : Nat) (w : World) (hn : n ≤ 1000000) :
    Calls Tryz.prog 83 #[.slice none 0 0, .int .i64 n] w fun e w' => ∃ v, e = .returned v ∧ w'.ownsRow w.heap.size 9 1 v 0 [] ∧ Off [] w w' := by
  obtain ⟨i0, hi0, hz0, hz1, hz2⟩ := info_parts infoStr
  by_cases h0 : n = 0
  · subst h0
    go_enter Tryz.func83, Tryz.ntmps83
    go_wp2_with fail
    go_ret
    exact ⟨_, rfl, ⟨rfl, .inl ⟨rfl, rfl⟩⟩, Off.refl _ _⟩
  · have hp : 0 < n := by omega
    have hrz := fun ty => Lib.run_append_nil_zeros (P := Tryz.prog) w 46 3 ty 9 i0 _ .i64 .i64 Tryz.underlying46 Tryz.underlying3 hi0 hz0 n hp (by omega) (by omega) (by rw [hz2]; omega)
    obtain ⟨G, hG⟩ : ∃ G, grownCap w n 0 9 = G := ⟨_, rfl⟩
    have hGn : n ≤ G := by rw [← hG]; exact grownCap_ge w _ _ _
    have hG63 : G ≤ maxLen := by rw [← hG]; exact grownCap_le_maxLen w n 0 9 (by unfold maxLen; omega)
    rw [hG] at hrz
    obtain ⟨Z, hZ⟩ : ∃ Z, Builtin.zeroCells (Value.string ⟨#[]⟩).cells n ++ Builtin.zeroCells (Value.string ⟨#[]⟩).cells (G - n) = Z := ⟨_, rfl⟩
    have hZs : Z.size = G * 1 := by
      have h4 : (Value.string ⟨#[]⟩).cells.size = 1 := rfl
      rw [← hZ, Array.size_append, size_zeroCells, size_zeroCells, h4]; omega
    rw [hZ] at hrz
    have HZ := Lib.hid hZs
    clear hG hZ hZs
    go_enter Tryz.func83, Tryz.ntmps83
    go_wp2_with (at_builtin; refine Lib.wpList_append_run _ rfl _ _ _ _ rfl _ _ rfl rfl _ _ (hrz _) ?_)
    go_ret
    exact ⟨_, rfl, ⟨rfl, .inr ⟨w.heap.size, G, Z, rfl, Nat.le_refl _, heap_alloc_new w _, Nat.zero_le _, hG63, HZ.out, rfl⟩⟩, ((Off.refl _ _).alloc _).drew⟩
/-- lists of strings, side by side -/
abbrev PtS := Option Addr × List ByteArray × Nat
structure PtsS (w : World) (g : Nat) (L : List PtS) : Prop where
  lt : g < w.heap.size
  at_ : ∀ (i : Nat) (x : PtS), L[i]? = some x → w.cell? ⟨g, i, none⟩ = some (.slice x.1 x.2.1.length x.2.2) ∧ Strs w x.1 x.2.1 ∧ (x.1 = none → x.2.1 = [] ∧ x.2.2 = 0)
theorem PtsS.off {w w' : World} {g : Nat} {L : List PtS} (h : PtsS w g L) (ho : Off [] w w') : PtsS w' g L :=
  ⟨Nat.lt_of_lt_of_le h.lt ho.size, fun i x hi => ⟨(ho.cell (p := ⟨g, i, none⟩) h.lt (by simp)).trans (h.at_ i x hi).1, (h.at_ i x hi).2.1.off ho, (h.at_ i x hi).2.2⟩⟩
def strsIn (L : List PtS) : List ByteArray := L.flatMap fun x => x.2.1
theorem strsIn_take {L : List PtS} {i : Nat} {x : PtS} (h : L[i]? = some x) : strsIn (L.take (i + 1)) = strsIn (L.take i) ++ x.2.1 := by
  unfold strsIn; rw [take_get h, List.flatMap_append]; simp
theorem strsIn_le (L : List PtS) (i : Nat) : (strsIn (L.take i)).length ≤ (strsIn L).length := by
  conv => rhs; rw [← List.take_append_drop i L]
  unfold strsIn; rw [List.flatMap_append, List.length_append]; omega
set_option maxRecDepth 100000 in
set_option maxHeartbeats 4000000 in
theorem concatS_any (g cap : Nat) (L : List PtS) (w : World) (hL : PtsS w g L) (hk : L.length ≤ 1000000) (hn : (strsIn L).length ≤ 1000000) :
    Calls Tryz.prog 57 #[.slice (some ⟨g, 0, none⟩) L.length cap] w fun e w' => ∃ v, e = .returned v ∧ w'.ownsRow w.heap.size 9 1 v (strsIn L).length ((strsIn L).map Value.string) ∧ Off [] w w' := by
  obtain ⟨i0, hi0, hz0, hz1, hz2⟩ := info_parts infoStr
  have HL := Lib.hid hL
  have HNL := Lib.hid (strsIn_le L)
  clear hL
  obtain ⟨k, hkk⟩ : ∃ k, L.length = k := ⟨_, rfl⟩
  have HK := Lib.hid hkk
  rw [hkk] at hk ⊢
  clear hkk
  go_enter Tryz.func57, Tryz.ntmps57
  go_wp2_with fail
  go_loopw [11, 3] (fun x y wr => ∃ i : Nat, x = .int .i64 i ∧ i ≤ k ∧ y = .int .i64 (strsIn (L.take i)).length ∧ Off [] w wr) (fun x _ _ => k - (intOf x).toNat)
  case atStart => exact ⟨0, rfl, by omega, by simp [strsIn], Off.refl _ _⟩
  case round =>
    obtain ⟨i, rfl, hi, rfl, hof⟩ := hrel
    have hle := HNL.out i
    have hle2 := HNL.out (i + 1)
    by_cases hik : i < k
    · have hil : i < L.length := by rw [HK.out]; exact hik
      have hx := List.getElem?_eq_getElem hil
      generalize L[i] = x at *
      obtain ⟨p, t, c⟩ := x
      obtain ⟨h1, h2, h3⟩ := (HL.out.off hof).at_ i _ hx
      have hlt := (HL.out.off hof).lt
      have hst := strsIn_take hx
      have hsl : (strsIn (L.take (i + 1))).length = (strsIn (L.take i)).length + t.length := by rw [hst, List.length_append]
      have HX := Lib.hid hx
      obtain ⟨tl, htl⟩ : ∃ tl, t.length = tl := ⟨_, rfl⟩
      obtain ⟨sl, hsl'⟩ : ∃ sl, (strsIn (L.take i)).length = sl := ⟨_, rfl⟩
      dsimp only at h1
      rw [htl] at h1 hsl
      rw [hsl'] at hsl hle ⊢
      have HSL := Lib.hid hsl
      clear h2 h3 hst hx htl hsl' hsl
      have hb : sl + tl ≤ 1000000 := by have := HSL.out; omega
      have hneg : ¬ ((sl : Int) + (tl : Int) < 0) := by omega
      go_wp2_with fail
      refine ⟨⟨i + 1, by congr 1, by omega, ?_, hof⟩, by simp only [intOf]; omega⟩
      rw [HSL.out]; congr 1
    · obtain rfl : i = k := by omega
      have e0 : strsIn (L.take i) = strsIn L := by rw [List.take_of_length_le (by rw [HK.out]; exact Nat.le_refl _)]
      rw [e0]
      clear e0 hle hle2
      obtain ⟨sl, hsl'⟩ : ∃ sl, (strsIn L).length = sl := ⟨_, rfl⟩
      rw [hsl'] at hn ⊢
      have HSL := Lib.hid hsl'
      clear hsl'
      go_wp2_with fail
      refine (grow0S_any sl _ hn).mono ?_
      rintro e w1 ⟨v, rfl, hown, ho⟩
      have hown := own_base hown hof.size
      have ho := hof.trans_nil ho
      clear hof hi hik
      go_wp2_with fail
      go_loopw [27, 6] (fun x v w2 => ∃ j : Nat, x = .int .i64 j ∧ j ≤ i ∧ w2.ownsRow w.heap.size 9 1 v (strsIn (L.take j)).length ((strsIn (L.take j)).map Value.string) ∧ Off [] w w2) (fun x _ _ => i - (intOf x).toNat)
      case atStart => exact ⟨0, rfl, by omega, by simpa [strsIn] using hown, ho⟩
      case round =>
        clear hown ho
        obtain ⟨j, rfl, hj, hown, ho⟩ := hrel
        have hle := HNL.out j
        have hle2 := HNL.out (j + 1)
        by_cases hji : j < i
        · have hil : j < L.length := by rw [HK.out]; exact hji
          have hx := List.getElem?_eq_getElem hil
          generalize L[j] = x at *
          obtain ⟨p, t, c⟩ := x
          obtain ⟨h1, h2, h3⟩ := (HL.out.off ho).at_ j _ hx
          have hlt := (HL.out.off ho).lt
          have hst := strsIn_take hx
          dsimp only at h1 h2 h3 hst
          cases p with
          | none =>
            obtain ⟨rfl, rfl⟩ := h3 rfl
            rw [List.append_nil] at hst
            have HST := Lib.hid hst
            clear h2 h3 hst hx hle hle2
            have h1 : wr.cell? ⟨g, j, none⟩ = some (.slice none 0 0) := h1
            go_wp2_with (at_builtin; refine wpList_append_own_none rfl _ _ 46 rfl w.heap.size 9 i0 1 Tryz.underlying46 hi0 _ _ _ rfl hown rfl ?_)
            refine ⟨⟨j + 1, by congr 1, by omega, ?_, ho⟩, by simp only [intOf]; omega⟩
            rw [HST.out]; exact hown
          | some a =>
            have HC := Lib.hid (fun (j : Nat) (u : Value) (hj : (t.map Value.string)[j]? = some u) => strs_cell h2 hj)
            have HO := Lib.hid (strs_one (t := t))
            have HCL := Lib.hid (show (t.map Value.string).length = t.length * 1 by rw [List.length_map, Nat.mul_one])
            have hsl : (strsIn (L.take (j + 1))).length = (strsIn (L.take j)).length + t.length := by rw [hst, List.length_append]
            have hb : (strsIn (L.take j)).length + t.length ≤ 1000000 := by have := HSL.out; omega
            have HST := Lib.hid hst
            have hsz := ho.size
            clear h2 h3 hst hx hle hle2 hsl
            go_wp2_with (at_builtin; refine wpList_append_own _ rfl _ _ 46 rfl w.heap.size 9 i0 (.string ⟨#[]⟩) 1 16 Tryz.underlying46 hi0 hz0 hz1 hz2 rfl (by decide) _ _ _ rfl hown a t.length c (t.map Value.string) rfl HCL.out HC.out HO.out (by unfold maxLen; omega) (by omega) hsz ?_; intro v' W6 hown' hgrow _)
            refine ⟨⟨j + 1, by congr 1, by omega, ?_, ?_⟩, by simp only [intOf]; omega⟩
            · rw [HST.out, List.map_append, List.length_append]; exact hown'
            · exact own_grown ho hown hgrow
        · obtain rfl : j = i := by omega
          have e0 : strsIn (L.take j) = strsIn L := by rw [List.take_of_length_le (by rw [HK.out]; exact Nat.le_refl _)]
          rw [e0] at hown
          clear e0 hle hle2
          go_wp2_with fail
          go_ret
          exact ⟨_, rfl, hown, ho⟩
end Go.Proofs.YtpaeihdkggbeoaaGreatDoor
