/- An argument that says what befalls a disk: fates and edits; the form's own reach. Conditions: none beyond what each lemma states. -/
import Derived.Test.YtoicjadioiomkaaGreatDoorSRowCalls
import Derived.Test.YtoicjadioiomkaaGreatDoorJh
set_option linter.unusedVariables false
set_option linter.unusedSimpArgs false
namespace Go.Proofs.YtoicjadioiomkaaGreatDoor
open Go.ChangeShapes Go.WideShapes Go.ChangeAt Go.RowKit Go.Deep
section
variable {H : Type} {P : Program} {B : Nat}
theorem mem_weightsAll {e : TypeId} : ∀ {l : List (DataW H)} {d : DataW H} {y : Nat}, d ∈ l → y ∈ d.weights P e → y ∈ DataW.weightsAll P e l
  | x :: l, d, y, hd, hy => by
    unfold DataW.weightsAll
    rcases List.mem_cons.1 hd with rfl | hd
    · exact List.mem_append_left _ hy
    exact List.mem_append_right _ (mem_weightsAll hd hy)
theorem mem_weightsEach : ∀ {ts : List TypeId} {l : List (DataW H)} {j : Nat} {t : TypeId} {d : DataW H} {y : Nat}, ts[j]? = some t → l[j]? = some d → y ∈ d.weights P t → y ∈ DataW.weightsEach P ts l
  | [], l, j, t, d, y, h, _, _ => by simp at h
  | u :: ts, [], j, t, d, y, _, h, _ => by simp at h
  | u :: ts, x :: l, 0, t, d, y, h1, h2, hy => by
    simp at h1 h2
    subst h1; subst h2; unfold DataW.weightsEach; exact List.mem_append_left _ hy
  | u :: ts, x :: l, j + 1, t, d, y, h1, h2, hy => by
    unfold DataW.weightsEach; exact List.mem_append_right _ (mem_weightsEach (by simpa using h1) (by simpa using h2) hy)
theorem slice_reach {t e : TypeId} {elems spare : List (DataW H)} (ht : P.underlying t = some (.slice e)) (hw : ∀ y ∈ (DataW.slice elems spare).weights P t, y ≤ B) : (elems.length + spare.length) * P.bytesOf e ≤ B ∧ ∀ d ∈ elems, ∀ y ∈ d.weights P e, y ≤ B := by
  have h : (DataW.slice elems spare).weights P t = (elems.length + spare.length) * P.bytesOf e :: (DataW.weightsAll P e elems ++ DataW.weightsAll P e spare) := by
    unfold DataW.weights; rw [ht]
  rw [h] at hw; exact ⟨hw _ (List.mem_cons_self ..), fun d hd y hy => hw y (List.mem_cons_of_mem _ (List.mem_append_left _ (mem_weightsAll hd hy)))⟩
theorem struct_reach {t : TypeId} {fs : Array Field} {parts : List (DataW H)} (ht : P.underlying t = some (.struct fs)) (hw : ∀ y ∈ (DataW.agg parts).weights P t, y ≤ B) {j : Nat} {f : Field} {d : DataW H} (hj : fs[j]? = some f) (hd : parts[j]? = some d) : ∀ y ∈ d.weights P f.type, y ≤ B := by
  have h : (DataW.agg parts).weights P t = DataW.weightsEach P (fs.toList.map (·.type)) parts := by
    unfold DataW.weights; rw [ht]
  rw [h] at hw; exact fun y hy => hw y (mem_weightsEach (by rw [List.getElem?_map]; simp [hj]) hd hy)
theorem each_reach {ts us : List TypeId} {ds : List (DataW H)} (h : (DataW.weightsEach P (ts ++ us) ds).all (· ≤ B) = true) {j : Nat} {t : TypeId} {d : DataW H} (hj : ts[j]? = some t) (hd : ds[j]? = some d) : ∀ y ∈ d.weights P t, y ≤ B := fun y hy => by
  have := List.all_eq_true.1 h y (mem_weightsEach (by rw [List.getElem?_append_left (List.getElem?_eq_some_iff.1 hj).1]; exact hj) hd hy)
  simpa using this
end
section
variable {H : Type} {enc : TypeId × Value → H} {w : World} {base : Nat} {spare : Nat → Bool} {held : Bool} {fuel : Nat} {cs : List Value} {x : DataW H × List MemPlace}
set_option maxRecDepth 100000 in
theorem open_nodes_reach (h : DataW.trod enc Tryz.prog w base spare held fuel 22 cs = some x) (hw : ∀ y ∈ x.1.weights Tryz.prog 22, y ≤ reachBytes) :
    ∃ (p : Option Addr) (t : List Node) (cap : Nat), cs = [.slice p t.length cap] ∧ Row w p t ∧ t.length ≤ cap ∧ cap ≤ maxLen ∧ Fits t ∧ (p = none → t = [] ∧ cap = 0) ∧ t.length ≤ 2932031007402 := by
  obtain ⟨p, t, cap, hcs, h1, h2, h3, h4, h5⟩ := open_nodes_cap h; refine ⟨p, t, cap, hcs, h1, h2, h3, h4, h5, ?_⟩
  rcases open_slice_fields Tryz.underlying22 Tryz.underlying30 (by kernel_rfl) (by kernel_rfl) h with ⟨hc, _⟩ | ⟨a, len, cap', m, D, Pl, hc, _, hl, hm, hmm, hx, _⟩
  · rw [hc] at hcs
    simp only [List.cons.injEq, Value.slice.injEq, and_true] at hcs
    omega
  rw [hc] at hcs; simp only [List.cons.injEq, Value.slice.injEq, and_true] at hcs; rw [hx] at hw; have h6 := (slice_reach Tryz.underlying22 hw).1; rw [show Tryz.prog.bytesOf 30 = 48 by kernel_rfl, List.length_map, List.length_range] at h6; have h7 : reachBytes = 140737488351232 := rfl
  rw [h7] at h6; have h8 : len * 48 ≤ 140737488351232 := Nat.le_trans (Nat.mul_le_mul_right 48 (Nat.le_add_right _ _)) h6
  omega
end
end Go.Proofs.YtoicjadioiomkaaGreatDoor
