/- An argument that says what befalls a disk: fates and edits; the form's own reach. Conditions: none beyond what each lemma states. -/
import Derived.Test.YtgcfkljooabjjaaGreatDoorWRowCalls
import Derived.Test.YtgcfkljooabjjaaGreatDoorFi
namespace Go.Proofs.YtgcfkljooabjjaaGreatDoor
open Go.ChangeShapes Go.WideShapes Go.ChangeAt Go.RowKit Go.Deep

section
variable {H : Type} {P : Program} {B : Nat}
theorem mem_weightsAll {e : TypeId} : ∀ {l : List (DataW H)} {d : DataW H} {y : Nat}, d ∈ l → y ∈ d.weights P e → y ∈ DataW.weightsAll P e l
  | x :: l, d, y, hd, hy => by
    unfold DataW.weightsAll
    rcases List.mem_cons.1 hd with rfl | hd
    · exact List.mem_append_left _ hy
    · exact List.mem_append_right _ (mem_weightsAll hd hy)
theorem mem_weightsEach : ∀ {ts : List TypeId} {l : List (DataW H)} {j : Nat} {t : TypeId} {d : DataW H} {y : Nat}, ts[j]? = some t → l[j]? = some d → y ∈ d.weights P t → y ∈ DataW.weightsEach P ts l
  | [], l, j, t, d, y, h, _, _ => by simp at h
  | u :: ts, [], j, t, d, y, _, h, _ => by simp at h
  | u :: ts, x :: l, 0, t, d, y, h1, h2, hy => by
    simp at h1 h2
    subst h1; subst h2
    unfold DataW.weightsEach
    exact List.mem_append_left _ hy
  | u :: ts, x :: l, j + 1, t, d, y, h1, h2, hy => by
    unfold DataW.weightsEach
    exact List.mem_append_right _ (mem_weightsEach (by simpa using h1) (by simpa using h2) hy)
theorem slice_reach {t e : TypeId} {elems spare : List (DataW H)} (ht : P.underlying t = some (.slice e)) (hw : ∀ y ∈ (DataW.slice elems spare).weights P t, y ≤ B) : (elems.length + spare.length) * P.bytesOf e ≤ B ∧ ∀ d ∈ elems, ∀ y ∈ d.weights P e, y ≤ B := by
  have h : (DataW.slice elems spare).weights P t = (elems.length + spare.length) * P.bytesOf e :: (DataW.weightsAll P e elems ++ DataW.weightsAll P e spare) := by
    unfold DataW.weights
    rw [ht]
  rw [h] at hw
  exact ⟨hw _ (List.mem_cons_self ..), fun d hd y hy => hw y (List.mem_cons_of_mem _ (List.mem_append_left _ (mem_weightsAll hd hy)))⟩
theorem struct_reach {t : TypeId} {fs : Array Field} {parts : List (DataW H)} (ht : P.underlying t = some (.struct fs)) (hw : ∀ y ∈ (DataW.agg parts).weights P t, y ≤ B) {j : Nat} {f : Field} {d : DataW H} (hj : fs[j]? = some f) (hd : parts[j]? = some d) : ∀ y ∈ d.weights P f.type, y ≤ B := by
  have h : (DataW.agg parts).weights P t = DataW.weightsEach P (fs.toList.map (·.type)) parts := by
    unfold DataW.weights
    rw [ht]
  rw [h] at hw
  exact fun y hy => hw y (mem_weightsEach (by rw [List.getElem?_map]; simp [hj]) hd hy)
theorem each_reach {ts us : List TypeId} {ds : List (DataW H)} (h : (DataW.weightsEach P (ts ++ us) ds).all (· ≤ B) = true) {j : Nat} {t : TypeId} {d : DataW H} (hj : ts[j]? = some t) (hd : ds[j]? = some d) : ∀ y ∈ d.weights P t, y ≤ B := fun y hy => by
  have := List.all_eq_true.1 h y (mem_weightsEach (by rw [List.getElem?_append_left (List.getElem?_eq_some_iff.1 hj).1]; exact hj) hd hy)
  simpa using this
end
section
variable {H : Type} {enc : TypeId × Value → H} {w : World} {base : Nat} {spare : Nat → Bool} {held : Bool} {fuel : Nat} {cs : List Value} {x : DataW H × List MemPlace}
set_option maxRecDepth 100000 in
theorem open_nodes_reach (h : DataW.trod enc Tryz.prog w base spare held fuel 31 cs = some x) (hw : ∀ y ∈ x.1.weights Tryz.prog 31, y ≤ reachBytes) :
    ∃ (p : Option Addr) (t : List Node) (cap : Nat), cs = [.slice p t.length cap] ∧ Row w p t ∧ t.length ≤ cap ∧ cap ≤ maxLen ∧ Fits t ∧ (p = none → t = [] ∧ cap = 0) ∧ t.length ≤ 2932031007402 := by
  obtain ⟨p, t, cap, hcs, h1, h2, h3, h4, h5⟩ := open_nodes_cap h
  refine ⟨p, t, cap, hcs, h1, h2, h3, h4, h5, ?_⟩
  rcases open_slice_fields Tryz.underlying31 Tryz.underlying30 (by kernel_rfl) (by kernel_rfl) h with ⟨hc, _⟩ | ⟨a, len, cap', m, D, Pl, hc, _, hl, hm, hmm, hx, _⟩
  · rw [hc] at hcs
    simp only [List.cons.injEq, Value.slice.injEq, and_true] at hcs
    omega
  · rw [hc] at hcs
    simp only [List.cons.injEq, Value.slice.injEq, and_true] at hcs
    rw [hx] at hw
    have h6 := (slice_reach Tryz.underlying31 hw).1
    rw [show Tryz.prog.bytesOf 30 = 48 by kernel_rfl, List.length_map, List.length_range] at h6
    have h7 : reachBytes = 140737488351232 := rfl
    rw [h7] at h6
    have h8 : len * 48 ≤ 140737488351232 := Nat.le_trans (Nat.mul_le_mul_right 48 (Nat.le_add_right _ _)) h6
    omega
theorem fate_get : ∀ (fs : List FateP) (k : Nat) (u : Value), (fs.flatMap fateCells)[k]? = some u → ∃ i r f, k = i * 4 + r ∧ fs[i]? = some f ∧ (fateCells f)[r]? = some u
  | [], k, u, h => by simp at h
  | f :: fs, k, u, h => by
    rw [List.flatMap_cons] at h
    by_cases hk : k < (fateCells f).length
    · rw [List.getElem?_append_left hk] at h
      exact ⟨0, k, f, by omega, rfl, h⟩
    · rw [List.getElem?_append_right (by omega)] at h
      obtain ⟨i, r, g, h1, h2, h3⟩ := fate_get fs _ u h
      have hl : (fateCells f).length = 4 := rfl
      exact ⟨i + 1, r, g, by omega, by simpa using h2, h3⟩
set_option maxRecDepth 100000 in
theorem open_fates (h : DataW.trod enc Tryz.prog w base spare held fuel 33 cs = some x) (hw : ∀ y ∈ x.1.weights Tryz.prog 33, y ≤ reachBytes) :
    ∃ (p : Option Addr) (fs : List FateP) (cap : Nat), cs = [.slice p fs.length cap] ∧ FRow w p fs ∧ fs.length ≤ 4398046511103 ∧ (p = none → fs = []) := by
  rcases open_slice_fields Tryz.underlying33 Tryz.underlying23 (by kernel_rfl) (by kernel_rfl) h with ⟨hcs, _⟩ | ⟨a, len, cap, m, D, Pl, hcs, _, hl, hm, hmm, hx, hi⟩
  · exact ⟨none, [], 0, hcs, FRow.nil _ _, by decide, fun _ => rfl⟩
  · have hlm : len ≤ m := by rw [hmm]; split <;> omega
    obtain ⟨t, ht, hq⟩ := list_of (Q := fun i (f : FateP) => ∀ r u, (fateCells f)[r]? = some u → w.cell? (a.add (i * 4 + r)) = some u) len (fun i hik => by
      obtain ⟨ys, n, _, _, _, hfld⟩ := hi i (by omega)
      obtain ⟨v0, y0, hc0, _, ht0⟩ := hfld 0 _ rfl
      obtain ⟨v1, y1, hc1, _, ht1⟩ := hfld 1 _ rfl
      obtain ⟨v2, y2, hc2, _, ht2⟩ := hfld 2 _ rfl
      obtain ⟨v3, y3, hc3, _, ht3⟩ := hfld 3 _ rfl
      obtain ⟨k0, e0, -, -⟩ := DataW.trod_int Tryz.underlying3 ht0
      obtain ⟨k1, e1, -, -⟩ := DataW.trod_int Tryz.underlying3 ht1
      obtain ⟨k2, e2, -, -⟩ := DataW.trod_int Tryz.underlying3 ht2
      obtain ⟨k3, e3, -, -⟩ := DataW.trod_int Tryz.underlying3 ht3
      simp only [List.cons.injEq, and_true] at e0 e1 e2 e3
      subst e0; subst e1; subst e2; subst e3
      refine ⟨⟨k0, k1, k2, k3⟩, fun r u hr => ?_⟩
      match r, hr with
      | 0, hr => simp [fateCells] at hr; subst hr; exact hc0
      | 1, hr => simp [fateCells] at hr; subst hr; exact hc1
      | 2, hr => simp [fateCells] at hr; subst hr; exact hc2
      | 3, hr => simp [fateCells] at hr; subst hr; exact hc3
      | r + 4, hr => simp [fateCells] at hr)
    refine ⟨some a, t, cap, by rw [ht]; exact hcs, fun hne => ⟨a, rfl, ?_, fun j u hj => ?_⟩, ?_, fun h => by cases h⟩
    · obtain ⟨n, hn⟩ := List.exists_mem_of_ne_nil t hne
      obtain ⟨i, hi, rfl⟩ := List.getElem_of_mem hn
      have := World.block_lt_of_cell? _ _ (hq i _ (List.getElem?_eq_getElem hi) 0 _ rfl)
      rwa [add_block] at this
    · obtain ⟨i, r, f, rfl, h2, h3⟩ := fate_get t j u hj
      exact hq i f h2 r u h3
    · rw [hx] at hw
      have h6 := (slice_reach Tryz.underlying33 hw).1
      rw [show Tryz.prog.bytesOf 23 = 32 by kernel_rfl, List.length_map, List.length_range] at h6
      have h7 : reachBytes = 140737488351232 := rfl
      rw [h7] at h6
      have h8 : len * 32 ≤ 140737488351232 := Nat.le_trans (Nat.mul_le_mul_right 32 (Nat.le_add_right _ _)) h6
      omega
set_option maxRecDepth 100000 in
theorem open_edits (h : DataW.trod enc Tryz.prog w base spare held fuel 50 cs = some x) (hw : ∀ y ∈ x.1.weights Tryz.prog 50, y ≤ reachBytes) :
    ∃ (p : Option Addr) (es : List EditP) (cap : Nat), cs = [.slice p es.length cap] ∧ ERow w p es ∧ es.length ≤ 2932031007402 ∧ ∀ e ∈ es, e.value.length ≤ 2932031007402 ∧ Fits e.value := by
  rcases open_slice_fields Tryz.underlying50 Tryz.underlying104 (by kernel_rfl) (by kernel_rfl) h with ⟨hcs, _⟩ | ⟨a, len, cap, m, D, Pl, hcs, _, hl, hm, hmm, hx, hi⟩
  · exact ⟨none, [], 0, hcs, ERow.nil _ _, by decide, fun e he => by cases he⟩
  · have hlm : len ≤ m := by rw [hmm]; split <;> omega
    rw [hx] at hw
    obtain ⟨h6, hel⟩ := slice_reach Tryz.underlying50 hw
    obtain ⟨t, ht, hq⟩ := list_of (Q := fun i (e : EditP) => (∃ u, ArgV w u e.value ∧ EditIn w (a.add (i * 3)) e u) ∧ e.value.length ≤ 2932031007402 ∧ Fits e.value) len (fun i hik => by
      obtain ⟨ys, n, hD, _, _, hfld⟩ := hi i (by omega)
      obtain ⟨v0, y0, hc0, _, ht0⟩ := hfld 0 _ rfl
      obtain ⟨v1, y1, hc1, _, ht1⟩ := hfld 1 _ rfl
      obtain ⟨v2, y2, hc2, hy2, ht2⟩ := hfld 2 _ rfl
      obtain ⟨k0, e0, -, -⟩ := DataW.trod_int Tryz.underlying3 ht0
      obtain ⟨s1, e1, -, -⟩ := DataW.trod_string Tryz.underlying9 ht1
      have hDi := hel (D i) (List.mem_map.2 ⟨i, List.mem_range.2 hik, rfl⟩)
      rw [hD] at hDi
      have hw2 := struct_reach (j := 2) (d := y2.1) Tryz.underlying104 hDi rfl (by rw [List.getElem?_map, hy2]; rfl)
      obtain ⟨q, tt, dd, e2, r1, r2, r3, r4, r5, r6⟩ := open_nodes_reach ht2 hw2
      simp only [List.cons.injEq, and_true] at e0 e1 e2
      subst e0; subst e1; subst e2
      rw [← Go.Deep.add_add] at hc1 hc2
      exact ⟨⟨k0, s1, tt⟩, ⟨_, ⟨q, dd, rfl, r2, r3, fun h => (r5 h).1, r4, r1⟩, ⟨hc0, hc1, hc2⟩⟩, r6, r4⟩)
    refine ⟨some a, t, cap, by rw [ht]; exact hcs, fun hne => ⟨a, rfl, ?_, fun i e hin => (hq i e hin).1⟩, ?_, fun e he => ?_⟩
    · obtain ⟨n, hn⟩ := List.exists_mem_of_ne_nil t hne
      obtain ⟨i, hi, rfl⟩ := List.getElem_of_mem hn
      obtain ⟨u, -, h2⟩ := (hq i _ (List.getElem?_eq_getElem hi)).1
      have := World.block_lt_of_cell? _ _ h2.at_
      rwa [add_block] at this
    · rw [show Tryz.prog.bytesOf 104 = 48 by kernel_rfl, List.length_map, List.length_range] at h6
      have h7 : reachBytes = 140737488351232 := rfl
      rw [h7] at h6
      have h8 : len * 48 ≤ 140737488351232 := Nat.le_trans (Nat.mul_le_mul_right 48 (Nat.le_add_right _ _)) h6
      omega
    · obtain ⟨i, hi, rfl⟩ := List.getElem_of_mem he
      exact (hq i _ (List.getElem?_eq_getElem hi)).2
set_option maxRecDepth 100000 in
/-- what befalls a disk -/
theorem open_weather (h : DataW.trod enc Tryz.prog w base spare held fuel 85 cs = some x) (hw : ∀ y ∈ x.1.weights Tryz.prog 85, y ≤ reachBytes) :
    ∃ (ap : Option Addr) (fs : List FateP) (fc : Nat) (ep : Option Addr) (es : List EditP) (ec : Nat), cs = [.slice ap fs.length fc, .slice ep es.length ec] ∧ FRow w ap fs ∧ fs.length ≤ 4398046511103 ∧ (ap = none → fs = []) ∧ ERow w ep es ∧ es.length ≤ 2932031007402 ∧ ∀ e ∈ es, e.value.length ≤ 2932031007402 ∧ Fits e.value := by
  obtain ⟨ys, n, -, hx, hlen, hys, hf⟩ := DataW.trod_struct Tryz.underlying85 h
  have hl : cs.length = 2 := hlen.trans (by kernel_rfl)
  have hyl : ys.length = 2 := hys
  obtain ⟨a, b, rfl⟩ : ∃ a b, cs = [a, b] := by
    match cs, hl with
    | [a, b], _ => exact ⟨a, b, rfl⟩
  have h0 := hf 0 _ rfl
  have h1 := hf 1 _ rfl
  have e0 : ys[0]? = some ys[0] := List.getElem?_eq_getElem (by omega)
  have e1 : ys[1]? = some ys[1] := List.getElem?_eq_getElem (by omega)
  rw [hx] at hw
  have w0 := struct_reach (j := 0) (d := ys[0].1) Tryz.underlying85 hw rfl (by rw [List.getElem?_map, e0]; rfl)
  have w1 := struct_reach (j := 1) (d := ys[1].1) Tryz.underlying85 hw rfl (by rw [List.getElem?_map, e1]; rfl)
  have h0 : DataW.trod enc Tryz.prog w base spare held n 33 [a] = ys[0]? := h0
  have h1 : DataW.trod enc Tryz.prog w base spare held n 50 [b] = ys[1]? := h1
  rw [e0] at h0
  rw [e1] at h1
  obtain ⟨ap, fs, fc, q1, r1, r2, r3⟩ := open_fates h0 w0
  obtain ⟨ep, es, ec, q2, s1, s2, s3⟩ := open_edits h1 w1
  simp only [List.cons.injEq, and_true] at q1 q2
  subst q1; subst q2
  exact ⟨ap, fs, fc, ep, es, ec, rfl, r1, r2, r3, s1, s2, s3⟩
end
end Go.Proofs.YtgcfkljooabjjaaGreatDoor
