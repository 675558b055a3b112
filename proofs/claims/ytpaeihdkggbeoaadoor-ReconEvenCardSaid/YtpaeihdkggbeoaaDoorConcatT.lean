/- slices.Grow and slices.Concat of nodes in their order; slices.Clone of nodes: the walks. Conditions: none beyond what each contract states. -/
import Derived.Test.YtpaeihdkggbeoaaDoorConcat
namespace Go.Proofs.YtpaeihdkggbeoaaDoor
open Go.RowKit Go.Op

set_option maxRecDepth 100000 in
theorem grow0T_any (n : Nat) (w : World) (hn : n ≤ 1000000) :
    Calls Tryd.prog 81 #[.slice none 0 0, .int .i64 n] w fun e w' => ∃ v, e = .returned v ∧ w'.ownsRow w.heap.size 29 4 v 0 [] ∧ Off [] w w' := by
  obtain ⟨i0, hi0, hz0, hz1, hz2⟩ := info_parts infoNode
  by_cases h0 : n = 0
  · subst h0
    go_enter Tryd.func81, Tryd.ntmps81
    go_wp2_with fail
    go_ret
    exact ⟨_, rfl, ⟨rfl, .inl ⟨rfl, rfl⟩⟩, Off.refl _ _⟩
  · have hp : 0 < n := by omega
    have hrz := fun ty => Lib.run_append_nil_zeros (P := Tryd.prog) w 57 3 ty 29 i0 _ .i64 .i64 Tryd.underlying57 Tryd.underlying3 hi0 hz0 n hp (by omega) (by omega) (by rw [hz2]; omega)
    obtain ⟨G, hG⟩ : ∃ G, grownCap w n 0 29 = G := ⟨_, rfl⟩
    have hGn : n ≤ G := by rw [← hG]; exact grownCap_ge w _ _ _
    have hG63 : G ≤ maxLen := by rw [← hG]; exact grownCap_le_maxLen w n 0 29 (by unfold maxLen; omega)
    rw [hG] at hrz
    obtain ⟨Z, hZ⟩ : ∃ Z, Builtin.zeroCells node0.val.cells n ++ Builtin.zeroCells node0.val.cells (G - n) = Z := ⟨_, rfl⟩
    have hZs : Z.size = G * 4 := by
      have h4 : node0.val.cells.size = 4 := rfl
      rw [← hZ, Array.size_append, size_zeroCells, size_zeroCells, h4]; omega
    rw [hZ] at hrz
    have HZ := Lib.hid hZs
    clear hG hZ hZs
    go_enter Tryd.func81, Tryd.ntmps81
    go_wp2_with (at_builtin; refine Lib.wpList_append_run _ rfl _ _ _ _ rfl _ _ rfl rfl _ _ (hrz _) ?_)
    go_ret
    exact ⟨_, rfl, ⟨rfl, .inr ⟨w.heap.size, G, Z, rfl, Nat.le_refl _, heap_alloc_new w _, Nat.zero_le _, hG63, HZ.out, rfl⟩⟩, ((Off.refl _ _).alloc _).drew⟩
set_option maxRecDepth 100000 in
set_option maxHeartbeats 4000000 in
theorem concatT_any (g cap : Nat) (L : List Pt) (w : World) (hL : PtsAt w g L) (hk : L.length ≤ 1000000) (hn : (nodesIn L).length ≤ 1000000) :
    Calls Tryd.prog 64 #[.slice (some ⟨g, 0, none⟩) L.length cap] w fun e w' => ∃ v, e = .returned v ∧ w'.ownsRow w.heap.size 29 4 v (nodesIn L).length (cellsOf (nodesIn L)) ∧ Off [] w w' := by
  obtain ⟨i0, hi0, hz0, hz1, hz2⟩ := info_parts infoNode
  have HL := Lib.hid hL
  have HNL := Lib.hid (nodesIn_le L)
  clear hL
  obtain ⟨k, hkk⟩ : ∃ k, L.length = k := ⟨_, rfl⟩
  have HK := Lib.hid hkk
  rw [hkk] at hk ⊢
  clear hkk
  go_enter Tryd.func64, Tryd.ntmps64
  go_wp2_with fail
  go_loopw [11, 3] (fun x y wr => ∃ i : Nat, x = .int .i64 i ∧ i ≤ k ∧ y = .int .i64 (nodesIn (L.take i)).length ∧ Off [] w wr) (fun x _ _ => k - (intOf x).toNat)
  case atStart => exact ⟨0, rfl, by omega, by simp [nodesIn], Off.refl _ _⟩
  case round =>
    obtain ⟨i, rfl, hi, rfl, hof⟩ := hrel
    have hle := HNL.out i
    have hle2 := HNL.out (i + 1)
    by_cases hik : i < k
    · have hil : i < L.length := by rw [HK.out]; exact hik
      have hx := List.getElem?_eq_getElem hil
      generalize L[i] = x at *
      obtain ⟨p, t, c⟩ := x
      obtain ⟨h1, h2, h3⟩ := (HL.out.off hof).at_ i _ hx
      have hlt := (HL.out.off hof).lt
      have hst := nodesIn_take hx
      have hsl : (nodesIn (L.take (i + 1))).length = (nodesIn (L.take i)).length + t.length := by rw [hst, List.length_append]
      have HX := Lib.hid hx
      obtain ⟨tl, htl⟩ : ∃ tl, t.length = tl := ⟨_, rfl⟩
      obtain ⟨sl, hsl'⟩ : ∃ sl, (nodesIn (L.take i)).length = sl := ⟨_, rfl⟩
      dsimp only at h1
      rw [htl] at h1 hsl
      rw [hsl'] at hsl hle ⊢
      have HSL := Lib.hid hsl
      clear h2 h3 hst hx htl hsl' hsl
      have hb : sl + tl ≤ 1000000 := by have := HSL.out; omega
      have hneg : ¬ ((sl : Int) + (tl : Int) < 0) := by omega
      go_wp2_with fail
      refine ⟨⟨i + 1, by congr 1, by omega, ?_, hof⟩, by simp only [intOf]; omega⟩
      rw [HSL.out]; congr 1
    · obtain rfl : i = k := by omega
      have e0 : nodesIn (L.take i) = nodesIn L := by rw [List.take_of_length_le (by rw [HK.out]; exact Nat.le_refl _)]
      rw [e0]
      clear e0 hle hle2
      obtain ⟨sl, hsl'⟩ : ∃ sl, (nodesIn L).length = sl := ⟨_, rfl⟩
      rw [hsl'] at hn ⊢
      have HSL := Lib.hid hsl'
      clear hsl'
      go_wp2_with fail
      refine (grow0T_any sl _ hn).mono ?_
      rintro e w1 ⟨v, rfl, hown, ho⟩
      have hown := own_base hown hof.size
      have ho := hof.trans_nil ho
      clear hof hi hik
      go_wp2_with fail
      go_loopw [27, 6] (fun x v w2 => ∃ j : Nat, x = .int .i64 j ∧ j ≤ i ∧ w2.ownsRow w.heap.size 29 4 v (nodesIn (L.take j)).length (cellsOf (nodesIn (L.take j))) ∧ Off [] w w2) (fun x _ _ => i - (intOf x).toNat)
      case atStart => exact ⟨0, rfl, by omega, by simpa [nodesIn, cellsOf] using hown, ho⟩
      case round =>
        clear hown ho
        obtain ⟨j, rfl, hj, hown, ho⟩ := hrel
        have hle := HNL.out j
        have hle2 := HNL.out (j + 1)
        by_cases hji : j < i
        · have hil : j < L.length := by rw [HK.out]; exact hji
          have hx := List.getElem?_eq_getElem hil
          generalize L[j] = x at *
          obtain ⟨p, t, c⟩ := x
          obtain ⟨h1, h2, h3⟩ := (HL.out.off ho).at_ j _ hx
          have hlt := (HL.out.off ho).lt
          have hst := nodesIn_take hx
          dsimp only at h1 h2 h3 hst
          cases p with
          | none =>
            obtain ⟨rfl, rfl⟩ := h3 rfl
            rw [List.append_nil] at hst
            have HST := Lib.hid hst
            clear h2 h3 hst hx hle hle2
            have h1 : wr.cell? ⟨g, j, none⟩ = some (.slice none 0 0) := h1
            go_wp2_with (at_builtin; refine wpList_append_own_none rfl _ _ 57 rfl w.heap.size 29 i0 4 Tryd.underlying57 hi0 _ _ _ rfl hown rfl ?_)
            refine ⟨⟨j + 1, by congr 1, by omega, ?_, ho⟩, by simp only [intOf]; omega⟩
            rw [HST.out]; exact hown
          | some a =>
            have HC := Lib.hid (fun (j : Nat) (u : Value) (hj : (cellsOf t)[j]? = some u) => h2.cells hj)
            have HO := Lib.hid (cellsOf_one (t := t))
            have HCL := Lib.hid (cellsOf_len t)
            have hsl : (nodesIn (L.take (j + 1))).length = (nodesIn (L.take j)).length + t.length := by rw [hst, List.length_append]
            have hb : (nodesIn (L.take j)).length + t.length ≤ 1000000 := by have := HSL.out; omega
            have HST := Lib.hid hst
            have hsz := ho.size
            clear h2 h3 hst hx hle hle2 hsl
            go_wp2_with (at_builtin; refine wpList_append_own _ rfl _ _ 57 rfl w.heap.size 29 i0 node0.val 4 48 Tryd.underlying57 hi0 hz0 hz1 hz2 rfl (by decide) _ _ _ rfl hown a t.length c (cellsOf t) rfl HCL.out HC.out HO.out (by unfold maxLen; omega) (by omega) hsz ?_; intro v' W6 hown' hgrow _)
            refine ⟨⟨j + 1, by congr 1, by omega, ?_, ?_⟩, by simp only [intOf]; omega⟩
            · rw [HST.out, cellsOf_append, List.length_append]; exact hown'
            · exact own_grown ho hown hgrow
        · obtain rfl : j = i := by omega
          have e0 : nodesIn (L.take j) = nodesIn L := by rw [List.take_of_length_le (by rw [HK.out]; exact Nat.le_refl _)]
          rw [e0] at hown
          clear e0 hle hle2
          go_wp2_with fail
          go_ret
          exact ⟨_, rfl, hown, ho⟩
set_option maxRecDepth 100000 in
set_option maxHeartbeats 4000000 in
/-- a copy of a list of nodes -/
theorem clone_any (p : Option Addr) (t : List Node) (n cap : Nat) (w : World) (hR : Row w p t) (hn : t.length = n) (hbig : n ≤ 1048576) (hpn : p = none → t = []) :
    Calls Tryd.prog 46 #[.slice p n cap] w fun e w' => ∃ v, e = .returned v ∧ w'.ownsRow w.heap.size 29 4 v n (cellsOf t) ∧ Off [] w w' := by
  obtain ⟨i0, hi0, hz0, hz1, hz2⟩ := info_parts infoNode
  have q22 : ∀ (w : World) (a : Option Addr) (n c n' c' : Nat), (binOp .eql 22 (.slice a n c) (.slice none n' c')).run Tryd.prog w = .ok (.bool a.isNone) w := fun w a n c n' c' => Lib.run_eql_slice_nil w _ _ a n c n' c' Tryd.underlying22
  cases p with
  | none =>
    obtain rfl := hpn rfl
    obtain rfl : 0 = n := hn
    clear hR hpn
    go_enter Tryd.func46, Tryd.ntmps46
    go_wp2_with fail
    go_ret
    exact ⟨_, rfl, ⟨rfl, .inl ⟨rfl, rfl⟩⟩, Off.refl _ _⟩
  | some a =>
    have HC := Lib.hid (fun (j : Nat) (u : Value) (hj : (cellsOf t)[j]? = some u) => hR.cells hj)
    have HO := Lib.hid (cellsOf_one (t := t))
    have HCL := Lib.hid (show (cellsOf t).length = n * 4 by rw [cellsOf_len, hn])
    clear hR hpn hn
    go_enter Tryd.func46, Tryd.ntmps46
    go_wp2_with (at_builtin; refine wpList_append_own _ rfl _ _ 22 rfl w.heap.size 29 i0 node0.val 4 48 Tryd.underlying22 hi0 hz0 hz1 hz2 rfl (by decide) _ _ _ rfl (World.ownsRow_made w #[] 0 (Nat.le_refl _) (Nat.zero_le _) rfl) a n cap (cellsOf t) rfl HCL.out ?qc2 HO.out ?qc4 ?qc5 ?qc6 ?_)
    case qc2 =>
      intro j u hj
      exact Lib.cell?_alloc_some _ (HC.out j u hj)
    case qc4 => unfold maxLen; omega
    case qc5 => omega
    case qc6 => simp
    intro v' w1 hown hgrow hnil
    go_wp2_with fail
    go_ret
    refine ⟨v', rfl, by simpa using hown, ?_⟩
    exact ((Off.refl _ w).alloc _).grown hgrow (by intro k hk; simp [Value.ownBlock] at hk; omega)
end Go.Proofs.YtpaeihdkggbeoaaDoor
