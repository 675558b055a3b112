/- slices.Grow of nothing, slices.Concat of lists of nodes: the walks. Conditions: no more than 1000000 nodes. -/
import Derived.Test.YtpaeihdkggbeoaaGreatDoorRDif
import Derived.Lib.AppendZeros
import Derived.Lib.Walk
import Derived.Laws.AppendOwnNone
import Derived.Deep.Slices
namespace Go.Proofs.YtpaeihdkggbeoaaGreatDoor
open Go.RowKit Go.Op

/-- a list of nodes that the call has made -/
def cellsOf (t : List Node) : List Value := t.flatMap fun n => [.string n.path, .int .i64 n.kind, .string n.data, .int .i64 n.mode]
theorem cellsOf_len (t : List Node) : (cellsOf t).length = t.length * 4 := by
  unfold cellsOf; rw [List.length_flatMap]; induction t with | nil => rfl | cons n t ih => simp at ih ⊢; omega
theorem cellsOf_append (a b : List Node) : cellsOf (a ++ b) = cellsOf a ++ cellsOf b := by unfold cellsOf; rw [List.flatMap_append]
set_option maxRecDepth 100000 in
theorem grow0_any (n : Nat) (w : World) (hn : n ≤ 1000000) :
    Calls Tryz.prog 56 #[.slice none 0 0, .int .i64 n] w fun e w' => ∃ v, e = .returned v ∧ w'.ownsRow w.heap.size 40 4 v 0 [] ∧ Off [] w w' := by
  obtain ⟨i0, hi0, hz0, hz1, hz2⟩ := info_parts infoNode
  by_cases h0 : n = 0
  · subst h0
    go_enter Tryz.func56, Tryz.ntmps56
    go_wp2_with fail
    go_ret
    exact ⟨_, rfl, ⟨rfl, .inl ⟨rfl, rfl⟩⟩, Off.refl _ _⟩
  · have hp : 0 < n := by omega
    have hrz := fun ty => Lib.run_append_nil_zeros (P := Tryz.prog) w 22 3 ty 40 i0 _ .i64 .i64 Tryz.underlying22 Tryz.underlying3 hi0 hz0 n hp (by omega) (by omega) (by rw [hz2]; omega)
    obtain ⟨G, hG⟩ : ∃ G, grownCap w n 0 40 = G := ⟨_, rfl⟩
    have hGn : n ≤ G := by rw [← hG]; exact grownCap_ge w _ _ _
    have hG63 : G ≤ maxLen := by rw [← hG]; exact grownCap_le_maxLen w n 0 40 (by unfold maxLen; omega)
    rw [hG] at hrz
    obtain ⟨Z, hZ⟩ : ∃ Z, Builtin.zeroCells node0.val.cells n ++ Builtin.zeroCells node0.val.cells (G - n) = Z := ⟨_, rfl⟩
    have hZs : Z.size = G * 4 := by
      have h4 : node0.val.cells.size = 4 := rfl
      rw [← hZ, Array.size_append, size_zeroCells, size_zeroCells, h4]; omega
    rw [hZ] at hrz
    have HZ := Lib.hid hZs
    clear hG hZ hZs
    go_enter Tryz.func56, Tryz.ntmps56
    go_wp2_with (at_builtin; refine Lib.wpList_append_run _ rfl _ _ _ _ rfl _ _ rfl rfl _ _ (hrz _) ?_)
    go_ret
    exact ⟨_, rfl, ⟨rfl, .inr ⟨w.heap.size, G, Z, rfl, Nat.le_refl _, heap_alloc_new w _, Nat.zero_le _, hG63, HZ.out, rfl⟩⟩, ((Off.refl _ _).alloc _).drew⟩
theorem cellsOf_get : ∀ (t : List Node) (j : Nat) (u : Value), (cellsOf t)[j]? = some u → ∃ (i r : Nat) (n : Node), j = i * 4 + r ∧ r < 4 ∧ t[i]? = some n ∧ [Value.string n.path, .int .i64 n.kind, .string n.data, .int .i64 n.mode][r]? = some u
  | [], j, u, h => by simp [cellsOf] at h
  | n :: t, j, u, h => by
    have e : cellsOf (n :: t) = [Value.string n.path, .int .i64 n.kind, .string n.data, .int .i64 n.mode] ++ cellsOf t := by simp [cellsOf]
    rw [e] at h
    rcases Nat.lt_or_ge j 4 with hj | hj
    · rw [List.getElem?_append_left (by simpa using hj)] at h
      exact ⟨0, j, n, by omega, hj, rfl, h⟩
    · rw [List.getElem?_append_right (by simpa using hj)] at h
      obtain ⟨i, r, m, h1, h2, h3, h4⟩ := cellsOf_get t _ u h
      simp at h1
      exact ⟨i + 1, r, m, by omega, h2, by simpa using h3, h4⟩
theorem Row.cells {w : World} {a : Addr} {t : List Node} (h : Row w (some a) t) {j : Nat} {u : Value} (hj : (cellsOf t)[j]? = some u) : w.cell? (a.add j) = some u := by
  obtain ⟨i, r, n, rfl, hr, hi, hu⟩ := cellsOf_get t j u hj
  obtain ⟨a', ha, _, hn⟩ := h (fun e => by subst e; simp at hi)
  cases ha
  have hn := hn i n hi
  rw [← Go.Deep.add_add]
  match r, hr, hu with
  | 0, _, hu => cases hu; rw [show (a.add (i * 4)).add 0 = a.add (i * 4) by rw [Go.Deep.add_add]; rfl]; exact hn.path
  | 1, _, hu => cases hu; exact hn.kind
  | 2, _, hu => cases hu; exact hn.data
  | 3, _, hu => cases hu; exact hn.mode
theorem cellsOf_one {t : List Node} : ∀ u ∈ cellsOf t, u.oneCell' = true := by
  intro u hu
  unfold cellsOf at hu
  rw [List.mem_flatMap] at hu
  obtain ⟨n, _, hn⟩ := hu
  simp only [List.mem_cons, List.not_mem_nil, or_false] at hn
  rcases hn with rfl | rfl | rfl | rfl <;> rfl
/-- a list of nodes that the call owns reads so -/
theorem own_row {W : World} {base : Nat} {v : Value} {t : List Node} (h : W.ownsRow base 40 4 v t.length (cellsOf t)) :
    ∃ p cap, v = .slice p t.length cap ∧ Row W p t ∧ t.length ≤ cap ∧ (p = none → t = [] ∧ cap = 0) ∧ ∀ a, p = some a → base ≤ a.block := by
  rcases h.2 with ⟨rfl, h1⟩ | ⟨g, cap, cur, rfl, hb, hh, hc, _, hsz, ht⟩
  · have h2 := List.length_eq_zero_iff.1 h1
    subst h2
    exact ⟨none, 0, rfl, fun h => absurd rfl h, Nat.le_refl _, fun _ => ⟨rfl, rfl⟩, fun a h => by cases h⟩
  · refine ⟨some ⟨g, 0, none⟩, cap, rfl, fun _ => ⟨⟨g, 0, none⟩, rfl, (Array.getElem?_eq_some_iff.1 hh).1, fun i n hi => ?_⟩, hc, fun h => (by cases h), fun a h => by cases h; exact hb⟩
    have hil := (List.getElem?_eq_some_iff.1 hi).1
    have key : ∀ r : Nat, r < 4 → W.cell? ⟨g, i * 4 + r, none⟩ = (cellsOf t)[i * 4 + r]? := fun r hr => by
      rw [cell_of_row W g _ cur 40 (0, 0) hh, ← ht, List.getElem?_take, if_pos (by omega)]; simp
    have hcell : ∀ (t : List Node) (i : Nat) (n : Node), t[i]? = some n → ∀ r, r < 4 → (cellsOf t)[i * 4 + r]? = [Value.string n.path, .int .i64 n.kind, .string n.data, .int .i64 n.mode][r]? := fun t => by
      induction t with
      | nil => intro i n h; simp at h
      | cons m t ih =>
        intro i n h r hr
        have e : cellsOf (m :: t) = [Value.string m.path, .int .i64 m.kind, .string m.data, .int .i64 m.mode] ++ cellsOf t := by simp [cellsOf]
        rw [e]
        cases i with
        | zero => simp at h; subst h; rw [Nat.zero_mul, Nat.zero_add, List.getElem?_append_left (by simpa using hr)]
        | succ i =>
          rw [List.getElem?_append_right (by simp; omega)]
          have := ih i n (by simpa using h) r hr
          rw [← this]
          congr 1
          simp; omega
    rw [addr_add]
    exact ⟨(key 0 (by omega)).trans (hcell t i n hi 0 (by omega)), (key 1 (by omega)).trans (hcell t i n hi 1 (by omega)), (key 2 (by omega)).trans (hcell t i n hi 2 (by omega)), (key 3 (by omega)).trans (hcell t i n hi 3 (by omega))⟩
theorem own_base {W : World} {b b' e sz n : Nat} {v : Value} {xs : List Value} (h : W.ownsRow b e sz v n xs) (hb : b' ≤ b) : W.ownsRow b' e sz v n xs := by
  refine ⟨h.1, ?_⟩
  rcases h.2 with h | ⟨g, cap, cur, h1, h2, h3⟩
  · exact .inl h
  · exact .inr ⟨g, cap, cur, h1, Nat.le_trans hb h2, h3⟩
theorem own_grown {w wr W6 : World} {e sz n : Nat} {v : Value} {xs : List Value} (ho : Off [] w wr) (hown : wr.ownsRow w.heap.size e sz v n xs) (hg : wr.grownBy W6 v.ownBlock) : Off [] w W6 := by
  refine ho.grown hg (fun g hg' => .inl ?_)
  rcases hown.2 with ⟨rfl, _⟩ | ⟨g', cap, cur, rfl, hb, _⟩
  · cases hg'
  · cases hg'; exact hb
/-- lists of nodes, side by side -/
abbrev Pt := Option Addr × List Node × Nat
structure PtsAt (w : World) (g : Nat) (L : List Pt) : Prop where
  lt : g < w.heap.size
  at_ : ∀ (i : Nat) (x : Pt), L[i]? = some x → w.cell? ⟨g, i, none⟩ = some (.slice x.1 x.2.1.length x.2.2) ∧ Row w x.1 x.2.1 ∧ (x.1 = none → x.2.1 = [] ∧ x.2.2 = 0)
theorem PtsAt.off {w w' : World} {g : Nat} {L : List Pt} (h : PtsAt w g L) (ho : Off [] w w') : PtsAt w' g L :=
  ⟨Nat.lt_of_lt_of_le h.lt ho.size, fun i x hi => ⟨(ho.cell (p := ⟨g, i, none⟩) h.lt (by simp)).trans (h.at_ i x hi).1, (h.at_ i x hi).2.1.off ho, (h.at_ i x hi).2.2⟩⟩
def nodesIn (L : List Pt) : List Node := L.flatMap fun x => x.2.1
theorem nodesIn_take {L : List Pt} {i : Nat} {x : Pt} (h : L[i]? = some x) : nodesIn (L.take (i + 1)) = nodesIn (L.take i) ++ x.2.1 := by
  unfold nodesIn; rw [take_get h, List.flatMap_append]; simp
theorem nodesIn_le (L : List Pt) (i : Nat) : (nodesIn (L.take i)).length ≤ (nodesIn L).length := by
  conv => rhs; rw [← List.take_append_drop i L]
  unfold nodesIn; rw [List.flatMap_append, List.length_append]; omega
set_option maxRecDepth 100000 in
set_option maxHeartbeats 4000000 in
theorem concat_any (g cap : Nat) (L : List Pt) (w : World) (hL : PtsAt w g L) (hk : L.length ≤ 1000000) (hn : (nodesIn L).length ≤ 1000000) :
    Calls Tryz.prog 34 #[.slice (some ⟨g, 0, none⟩) L.length cap] w fun e w' => ∃ v, e = .returned v ∧ w'.ownsRow w.heap.size 40 4 v (nodesIn L).length (cellsOf (nodesIn L)) ∧ Off [] w w' := by
  obtain ⟨i0, hi0, hz0, hz1, hz2⟩ := info_parts infoNode
  have HL := Lib.hid hL
  have HNL := Lib.hid (nodesIn_le L)
  clear hL
  obtain ⟨k, hkk⟩ : ∃ k, L.length = k := ⟨_, rfl⟩
  have HK := Lib.hid hkk
  rw [hkk] at hk ⊢
  clear hkk
  go_enter Tryz.func34, Tryz.ntmps34
  go_wp2_with fail
  go_loopw [11, 3] (fun x y wr => ∃ i : Nat, x = .int .i64 i ∧ i ≤ k ∧ y = .int .i64 (nodesIn (L.take i)).length ∧ Off [] w wr) (fun x _ _ => k - (intOf x).toNat)
  case atStart => exact ⟨0, rfl, by omega, by simp [nodesIn], Off.refl _ _⟩
  case round =>
    obtain ⟨i, rfl, hi, rfl, hof⟩ := hrel
    have hle := HNL.out i
    have hle2 := HNL.out (i + 1)
    by_cases hik : i < k
    · have hil : i < L.length := by rw [HK.out]; exact hik
      have hx := List.getElem?_eq_getElem hil
      generalize L[i] = x at *
      obtain ⟨p, t, c⟩ := x
      obtain ⟨h1, h2, h3⟩ := (HL.out.off hof).at_ i _ hx
      have hlt := (HL.out.off hof).lt
      have hst := nodesIn_take hx
      have hsl : (nodesIn (L.take (i + 1))).length = (nodesIn (L.take i)).length + t.length := by rw [hst, List.length_append]
      have HX := Lib.hid hx
      obtain ⟨tl, htl⟩ : ∃ tl, t.length = tl := ⟨_, rfl⟩
      obtain ⟨sl, hsl'⟩ : ∃ sl, (nodesIn (L.take i)).length = sl := ⟨_, rfl⟩
      dsimp only at h1
      rw [htl] at h1 hsl
      rw [hsl'] at hsl hle ⊢
      have HSL := Lib.hid hsl
      clear h2 h3 hst hx htl hsl' hsl
      have hb : sl + tl ≤ 1000000 := by have := HSL.out; omega
      have hneg : ¬ ((sl : Int) + (tl : Int) < 0) := by omega
      go_wp2_with fail
      refine ⟨⟨i + 1, by congr 1, by omega, ?_, hof⟩, by simp only [intOf]; omega⟩
      rw [HSL.out]; congr 1
    · obtain rfl : i = k := by omega
      have e0 : nodesIn (L.take i) = nodesIn L := by rw [List.take_of_length_le (by rw [HK.out]; exact Nat.le_refl _)]
      rw [e0]
      clear e0 hle hle2
      obtain ⟨sl, hsl'⟩ : ∃ sl, (nodesIn L).length = sl := ⟨_, rfl⟩
      rw [hsl'] at hn ⊢
      have HSL := Lib.hid hsl'
      clear hsl'
      go_wp2_with fail
      refine (grow0_any sl _ hn).mono ?_
      rintro e w1 ⟨v, rfl, hown, ho⟩
      have hown := own_base hown hof.size
      have ho := hof.trans_nil ho
      clear hof hi hik
      go_wp2_with fail
      go_loopw [27, 6] (fun x v w2 => ∃ j : Nat, x = .int .i64 j ∧ j ≤ i ∧ w2.ownsRow w.heap.size 40 4 v (nodesIn (L.take j)).length (cellsOf (nodesIn (L.take j))) ∧ Off [] w w2) (fun x _ _ => i - (intOf x).toNat)
      case atStart => exact ⟨0, rfl, by omega, by simpa [nodesIn, cellsOf] using hown, ho⟩
      case round =>
        clear hown ho
        obtain ⟨j, rfl, hj, hown, ho⟩ := hrel
        have hle := HNL.out j
        have hle2 := HNL.out (j + 1)
        by_cases hji : j < i
        · have hil : j < L.length := by rw [HK.out]; exact hji
          have hx := List.getElem?_eq_getElem hil
          generalize L[j] = x at *
          obtain ⟨p, t, c⟩ := x
          obtain ⟨h1, h2, h3⟩ := (HL.out.off ho).at_ j _ hx
          have hlt := (HL.out.off ho).lt
          have hst := nodesIn_take hx
          dsimp only at h1 h2 h3 hst
          cases p with
          | none =>
            obtain ⟨rfl, rfl⟩ := h3 rfl
            rw [List.append_nil] at hst
            have HST := Lib.hid hst
            clear h2 h3 hst hx hle hle2
            have h1 : wr.cell? ⟨g, j, none⟩ = some (.slice none 0 0) := h1
            go_wp2_with (at_builtin; refine wpList_append_own_none rfl _ _ 22 rfl w.heap.size 40 i0 4 Tryz.underlying22 hi0 _ _ _ rfl hown rfl ?_)
            refine ⟨⟨j + 1, by congr 1, by omega, ?_, ho⟩, by simp only [intOf]; omega⟩
            rw [HST.out]; exact hown
          | some a =>
            have HC := Lib.hid (fun (j : Nat) (u : Value) (hj : (cellsOf t)[j]? = some u) => h2.cells hj)
            have HO := Lib.hid (cellsOf_one (t := t))
            have HCL := Lib.hid (cellsOf_len t)
            have hsl : (nodesIn (L.take (j + 1))).length = (nodesIn (L.take j)).length + t.length := by rw [hst, List.length_append]
            have hb : (nodesIn (L.take j)).length + t.length ≤ 1000000 := by have := HSL.out; omega
            have HST := Lib.hid hst
            have hsz := ho.size
            clear h2 h3 hst hx hle hle2 hsl
            go_wp2_with (at_builtin; refine wpList_append_own _ rfl _ _ 22 rfl w.heap.size 40 i0 node0.val 4 48 Tryz.underlying22 hi0 hz0 hz1 hz2 rfl (by decide) _ _ _ rfl hown a t.length c (cellsOf t) rfl HCL.out HC.out HO.out (by unfold maxLen; omega) (by omega) hsz ?_; intro v' W6 hown' hgrow _)
            refine ⟨⟨j + 1, by congr 1, by omega, ?_, ?_⟩, by simp only [intOf]; omega⟩
            · rw [HST.out, cellsOf_append, List.length_append]; exact hown'
            · exact own_grown ho hown hgrow
        · obtain rfl : j = i := by omega
          have e0 : nodesIn (L.take j) = nodesIn L := by rw [List.take_of_length_le (by rw [HK.out]; exact Nat.le_refl _)]
          rw [e0] at hown
          clear e0 hle hle2
          go_wp2_with fail
          go_ret
          exact ⟨_, rfl, hown, ho⟩
end Go.Proofs.YtpaeihdkggbeoaaGreatDoor
