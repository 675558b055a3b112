/- hawserref06.Same and tree.Same: the walks. Conditions: no list is longer than 2^40. -/
import Derived.Test.YtpaeihdkggbeoaaGreatDoorRef6b
import Derived.Laws.StructEq
namespace Go.Proofs.YtpaeihdkggbeoaaGreatDoor
open Go.RowKit Go.Op

instance : DecidableEq Node := fun a b => by
  rcases a with ⟨a1, a2, a3, a4⟩
  rcases b with ⟨b1, b2, b3, b4⟩
  exact decidable_of_iff (a1 = b1 ∧ a2 = b2 ∧ a3 = b3 ∧ a4 = b4) (by simp)
theorem toList_iff {x y : ByteArray} : x.toList = y.toList ↔ x = y := ⟨fun h => str_inj (by rwa [toList_str, toList_str] at h), fun h => by rw [h]⟩
theorem eqNode (x y : Node) (w : World) : (Op.equalIn 10000 40 (.agg #[.string x.path, .int .i64 x.kind, .string x.data, .int .i64 x.mode]) (.agg #[.string y.path, .int .i64 y.kind, .string y.data, .int .i64 y.mode])).run Tryz.prog w = .ok (decide (x = y)) w := by
  have u3 := Tryz.underlying3
  have a3 := Tryz.isAgg3
  have z3 := Tryz.sizeOf3
  have u9 := Tryz.underlying9
  have a9 := Tryz.isAgg9
  have z9 := Tryz.sizeOf9
  have hS : Tryz.prog.underlying 40 = some (.struct (Tryz.prog.fieldsOf 40)) := by kernel_rfl
  have hp : Tryz.prog.stoodInHeld 40 = false := by kernel_rfl
  rw [show (10000 : Nat) = 9999 + 1 from rfl, run_equalIn_agg w 9999 40 _ _ hS hp]
  simp only [Program.fieldsOf, Tryz.underlying40]
  go_simp
  obtain ⟨x1, x2, x3, x4⟩ := x
  obtain ⟨y1, y2, y3, y4⟩ := y
  by_cases h1 : x1 = y1 <;> by_cases h2 : x2 = y2 <;> by_cases h3 : x3 = y3 <;> by_cases h4 : x4 = y4 <;> simp [toList_iff, h1, h2, h3, h4]
set_option maxRecDepth 100000 in
set_option maxHeartbeats 4000000 in
theorem rsame_any (L M : List Node) (p q : Option Addr) (c d : Nat) (w : World) (hL : L.length ≤ 1099511627776) (hM : M.length ≤ 1099511627776) (hp : Row w p L) (hq : Row w q M) :
    Calls Tryz.prog 12 #[.slice p L.length c, .slice q M.length d] w fun e w' => e = .returned (.bool (decide (L = M))) ∧ Off [] w w' := by
  obtain ⟨l, hl⟩ : ∃ l, L.length = l := ⟨_, rfl⟩
  obtain ⟨m, hm⟩ : ∃ m, M.length = m := ⟨_, rfl⟩
  rw [hl, hm]
  rw [hl] at hL
  rw [hm] at hM
  have HP := Lib.hid hp
  have HQ := Lib.hid hq
  have HL := Lib.hid hl
  have HM := Lib.hid hm
  clear hp hq hl hm
  by_cases hlm : l = m
  · subst hlm
    go_enter Tryz.func12, Tryz.ntmps12
    go_wp2_with fail
    go_loopw [5] (fun x wr => ∃ i : Nat, x = .int .i64 i ∧ i ≤ l ∧ Off [] w wr ∧ Hid (L.take i = M.take i)) (fun x _ => l - (intOf x).toNat)
    case atStart => exact ⟨0, rfl, by omega, Off.refl _ _, Lib.hid rfl⟩
    case round =>
      obtain ⟨i, rfl, hi, ho, htk⟩ := hrel
      by_cases hlt : i < l
      · have hi1 := List.getElem?_eq_getElem (show i < L.length by rw [HL.out]; exact hlt)
        have hi2 := List.getElem?_eq_getElem (show i < M.length by rw [HM.out]; exact hlt)
        obtain ⟨a, rfl, hna, hab⟩ := (HP.out.off ho).get i (show i < L.length by rw [HL.out]; exact hlt)
        obtain ⟨b, rfl, hnb, hbb⟩ := (HQ.out.off ho).get i (show i < M.length by rw [HM.out]; exact hlt)
        generalize L[i]'(by rw [HL.out]; exact hlt) = x at *
        generalize M[i]'(by rw [HM.out]; exact hlt) = y at *
        have c0 := hna.path
        have c1 := hna.kind
        have c2 := hna.data
        have c3 := hna.mode
        have d0 := hnb.path
        have d1 := hnb.kind
        have d2 := hnb.data
        have d3 := hnb.mode
        have heq := eqNode x y
        have hgd : Tryz.prog.eqGuardType Tryz.prog.depth 40 = false := by kernel_rfl
        have HI1 := Lib.hid hi1
        have HI2 := Lib.hid hi2
        have habk : (a.add (i * 4)).block < wr.heap.size := by rw [add_block]; exact hab
        have hbbk : (b.add (i * 4)).block < wr.heap.size := by rw [add_block]; exact hbb
        clear hna hnb hi1 hi2
        by_cases hxy : x = y
        · have hd : decide (x = y) = true := decide_eq_true hxy
          have HXY := Lib.hid hxy
          rw [hd] at heq
          clear hxy hd
          go_wp2_with fail
          go_quiet (fail)
          go_wp2_with fail
          refine ⟨⟨i + 1, by congr 1, by omega, ho.drewN _, Lib.hid ?_⟩, by simp only [intOf]; omega⟩
          rw [take_get HI1.out, take_get HI2.out, htk.out, HXY.out]
        · have hd : decide (x = y) = false := decide_eq_false hxy
          have HXY := Lib.hid hxy
          rw [hd] at heq
          clear hxy hd
          go_wp2_with fail
          go_quiet (fail)
          go_wp2_with fail
          go_ret
          have hne : L ≠ M := fun e => by
            have h1 := HI1.out
            rw [e, HI2.out] at h1
            exact HXY.out (Option.some.inj h1).symm
          exact ⟨by rw [decide_eq_false hne]; rfl, ho.drewN _⟩
      · obtain rfl : i = l := by omega
        go_wp2_with fail
        go_ret
        have he : L = M := by
          have := htk.out
          rw [List.take_of_length_le (by rw [HL.out]; exact Nat.le_refl _), List.take_of_length_le (by rw [HM.out]; exact Nat.le_refl _)] at this
          exact this
        exact ⟨by rw [decide_eq_true he]; rfl, ho⟩
  · have hne : L ≠ M := fun e => hlm (by rw [← HL.out, ← HM.out, e])
    have HNE := Lib.hid hne
    clear hne
    go_enter Tryz.func12, Tryz.ntmps12
    go_wp2_with fail
    go_ret
    exact ⟨by rw [decide_eq_false HNE.out]; rfl, Off.refl _ _⟩
set_option maxRecDepth 100000 in
set_option maxHeartbeats 4000000 in
theorem equal_any (L M : List Node) (p q : Option Addr) (c d : Nat) (w : World) (hL : L.length ≤ 1099511627776) (hM : M.length ≤ 1099511627776) (hp : Row w p L) (hq : Row w q M) :
    Calls Tryz.prog 27 #[.slice p L.length c, .slice q M.length d] w fun e w' => e = .returned (.bool (decide (L = M))) ∧ Off [] w w' := by
  obtain ⟨l, hl⟩ : ∃ l, L.length = l := ⟨_, rfl⟩
  obtain ⟨m, hm⟩ : ∃ m, M.length = m := ⟨_, rfl⟩
  rw [hl, hm]
  rw [hl] at hL
  rw [hm] at hM
  have HP := Lib.hid hp
  have HQ := Lib.hid hq
  have HL := Lib.hid hl
  have HM := Lib.hid hm
  clear hp hq hl hm
  by_cases hlm : l = m
  · subst hlm
    go_enter Tryz.func27, Tryz.ntmps27
    go_wp2_with fail
    go_loopw [13] (fun x wr => ∃ i : Nat, x = .int .i64 i ∧ i ≤ l ∧ Off [] w wr ∧ Hid (L.take i = M.take i)) (fun x _ => l - (intOf x).toNat)
    case atStart => exact ⟨0, rfl, by omega, Off.refl _ _, Lib.hid rfl⟩
    case round =>
      obtain ⟨i, rfl, hi, ho, htk⟩ := hrel
      by_cases hlt : i < l
      · have hi1 := List.getElem?_eq_getElem (show i < L.length by rw [HL.out]; exact hlt)
        have hi2 := List.getElem?_eq_getElem (show i < M.length by rw [HM.out]; exact hlt)
        obtain ⟨a, rfl, hna, hab⟩ := (HP.out.off ho).get i (show i < L.length by rw [HL.out]; exact hlt)
        obtain ⟨b, rfl, hnb, hbb⟩ := (HQ.out.off ho).get i (show i < M.length by rw [HM.out]; exact hlt)
        generalize L[i]'(by rw [HL.out]; exact hlt) = x at *
        generalize M[i]'(by rw [HM.out]; exact hlt) = y at *
        have c0 := hna.path
        have c1 := hna.kind
        have c2 := hna.data
        have c3 := hna.mode
        have d0 := hnb.path
        have d1 := hnb.kind
        have d2 := hnb.data
        have d3 := hnb.mode
        have heq := eqNode x y
        have hgd : Tryz.prog.eqGuardType Tryz.prog.depth 40 = false := by kernel_rfl
        have HI1 := Lib.hid hi1
        have HI2 := Lib.hid hi2
        have habk : (a.add (i * 4)).block < wr.heap.size := by rw [add_block]; exact hab
        have hbbk : (b.add (i * 4)).block < wr.heap.size := by rw [add_block]; exact hbb
        clear hna hnb hi1 hi2
        by_cases hxy : x = y
        · have hd : decide (x = y) = true := decide_eq_true hxy
          have HXY := Lib.hid hxy
          rw [hd] at heq
          clear hxy hd
          go_wp2_with fail
          go_quiet (fail)
          go_wp2_with fail
          refine ⟨⟨i + 1, by congr 1, by omega, ho.drewN _, Lib.hid ?_⟩, by simp only [intOf]; omega⟩
          rw [take_get HI1.out, take_get HI2.out, htk.out, HXY.out]
        · have hd : decide (x = y) = false := decide_eq_false hxy
          have HXY := Lib.hid hxy
          rw [hd] at heq
          clear hxy hd
          go_wp2_with fail
          go_quiet (fail)
          go_wp2_with fail
          go_ret
          have hne : L ≠ M := fun e => by
            have h1 := HI1.out
            rw [e, HI2.out] at h1
            exact HXY.out (Option.some.inj h1).symm
          exact ⟨by rw [decide_eq_false hne]; rfl, ho.drewN _⟩
      · obtain rfl : i = l := by omega
        go_wp2_with fail
        go_ret
        have he : L = M := by
          have := htk.out
          rw [List.take_of_length_le (by rw [HL.out]; exact Nat.le_refl _), List.take_of_length_le (by rw [HM.out]; exact Nat.le_refl _)] at this
          exact this
        exact ⟨by rw [decide_eq_true he]; rfl, ho⟩
  · have hne : L ≠ M := fun e => hlm (by rw [← HL.out, ← HM.out, e])
    have HNE := Lib.hid hne
    clear hne
    go_enter Tryz.func27, Tryz.ntmps27
    go_wp2_with fail
    go_ret
    exact ⟨by rw [decide_eq_false HNE.out]; rfl, Off.refl _ _⟩
set_option maxRecDepth 100000 in
theorem same_any (L M : List Node) (p q : Option Addr) (c d : Nat) (w : World) (hL : L.length ≤ 1099511627776) (hM : M.length ≤ 1099511627776) (hp : Row w p L) (hq : Row w q M) :
    Calls Tryz.prog 15 #[.slice p L.length c, .slice q M.length d] w fun e w' => e = .returned (.bool (decide (L = M))) ∧ Off [] w w' := by
  have HE := Lib.hid (equal_any L M p q c d w hL hM hp hq)
  go_enter Tryz.func15, Tryz.ntmps15
  go_wp2_with fail
  refine HE.out.mono ?_
  rintro e w1 ⟨rfl, ho⟩
  go_wp2_with fail
  go_ret
  exact ⟨rfl, ho⟩
end Go.Proofs.YtpaeihdkggbeoaaGreatDoor
