/- Texts of this claim, one behind the other: GoodNew Calm RunK. Conditions: what each lemma states. -/
import Derived.Test.YtgcfkljooabjjaaGreatDoorGh
import Derived.Test.YtgcfkljooabjjaaGreatDoorGg
/- A new disk's names are in order. Conditions: none beyond what each lemma states. -/
namespace Go.Proofs.YtgcfkljooabjjaaGreatDoor
open Go.RowKit Go.Op Go.Maps

theorem nmOf_mem : ∀ (t : List Node) (i j : Nat) (m : Node), t[j]? = some m → (m.path, i + j + 1) ∈ nmOf t i
  | [], _, _, _, h => by simp at h
  | n :: t, i, 0, m, h => by
    simp at h
    subst h
    unfold nmOf
    exact List.mem_cons_self ..
  | n :: t, i, j + 1, m, h => by
    unfold nmOf
    have := nmOf_mem t (i + 1) j m (by simpa using h)
    rw [show i + 1 + j + 1 = i + (j + 1) + 1 by omega] at this
    exact List.mem_cons_of_mem _ this
theorem nmOf_apart {t : List Node} (hs : Sorted t) : Apart (nmOf t 0) := (nmOf_pair t 0 hs).imp fun {x y} h e => by
  rw [e, order_self] at h
  omega
theorem new_inode {t : List Node} (hs : Sorted t) {m : Node} (hm : m ∈ t) : (newD t).inode (lookN (nmOf t 0) m.path) = some ⟨m, 0, false⟩ := by
  obtain ⟨j, hj, rfl⟩ := List.getElem_of_mem hm
  have h1 := nmOf_mem t 0 j _ (List.getElem?_eq_getElem hj)
  have h2 := lookN_mem (nmOf_apart hs) h1
  dsimp only at h2
  rw [h2]
  unfold PDisk.inode
  rw [if_neg (by omega), show 0 + j + 1 - 1 = j by omega]
  show (t.map fun n => (⟨n, 0, false⟩ : Ino))[j]? = _
  rw [List.getElem?_map, List.getElem?_eq_getElem hj]
  rfl
theorem okTree_up {t : List Node} (hok : okTree t = true) {n : Node} (hn : n ∈ t) (hp : parent n.p ≠ []) : ∃ m ∈ t, m.p = parent n.p ∧ m.kind = 2 := by
  obtain ⟨i, hi, rfl⟩ := List.getElem_of_mem hn
  have h := okTree_next hok i hi
  unfold okNext at h
  simp only [Bool.and_eq_true] at h
  have h2 := h.2
  unfold isDir at h2
  rw [decide_eq_false hp, Bool.false_or] at h2
  obtain ⟨m, hm, hk⟩ := List.any_eq_true.1 h2
  simp only [Bool.and_eq_true, decide_eq_true_eq] at hk
  exact ⟨m, List.mem_of_mem_take hm, hk.1, hk.2⟩
theorem new_climb {t : List Node} (hok : okTree t = true) {q : ByteArray} (hq : okPath (str q) = true) : ∀ (k : Nat) (n : Node), n ∈ t → (parts n.p).length ≤ k → within n.p (str q) = true → n.path ≠ q → ∃ m ∈ t, m.path = q ∧ m.kind = 2
  | 0, n, _, hk, _, _ => absurd (List.length_eq_zero_iff.1 (Nat.le_zero.1 hk)) (parts_ne n.p)
  | k + 1, n, hn, hk, hw, hne => by
    have hnp := okTree_path hok hn
    obtain ⟨h1, h2⟩ := anc_parent hnp hq hw (fun e => hne (str_inj e))
    obtain ⟨m, hm, h3, h4⟩ := okTree_up hok hn h1
    by_cases e : m.path = q
    · exact ⟨m, hm, e, h4⟩
    · refine new_climb hok hq k m hm ?_ (by rw [h3]; exact h2 (by rw [← h3]; exact okTree_path hok hm)) e
      rw [h3, parent_parts hnp h1, List.length_dropLast]
      omega
theorem good_new {t : List Node} (hok : okTree t = true) : Good (newD t) := by
  have hs := okTree_sorted hok
  have hT : TreeL (newD t) (nmOf t 0) := fun x hx => by
    obtain ⟨n, hn, e⟩ := (nmOf_has t 0 x.1).1 ((hasN_iff _ _).2 ⟨x, hx, rfl⟩)
    rw [← e]
    refine ⟨okTree_path hok hn, fun q h1 h2 h3 => ?_⟩
    obtain ⟨m, hm, h4, h5⟩ := new_climb hok h1 _ n hn (Nat.le_refl _) h2 h3
    exact ⟨⟨m, 0, false⟩, by rw [← h4]; exact new_inode hs hm, h5⟩
  exact ⟨⟨hT, hT, fun l hl => by cases hl⟩, nmOf_apart hs, nmOf_apart hs, fun l hl => by cases hl⟩
end Go.Proofs.YtgcfkljooabjjaaGreatDoor

/- A disk without fates stays on; to ask changes nothing that is asked for. Conditions: none beyond what each lemma states. -/
namespace Go.Proofs.YtgcfkljooabjjaaGreatDoor
open Go.RowKit Go.Op Go.Maps

structure Calm (D : PDisk) : Prop where
  on : D.off = false
  fates : D.fates = []
theorem Calm.call {D : PDisk} (h : Calm D) (c p q : ByteArray) (k : PDisk → Bool → Int × PDisk) (hk : ∀ E full, Calm E → Calm (k E full).2) : Calm (D.call c p q k).2 := by
  rw [call_run (step_free c p q h.on h.fates)]
  exact hk _ _ ⟨h.on, h.fates⟩
theorem Calm.lay {D : PDisk} (h : Calm D) {p : ByteArray} {n : Node} {full : Bool} {l : List (Bool × Int)} : Calm (D.lay p n full l).2 := by
  unfold PDisk.lay
  dsimp only
  split
  · exact h
  · exact ⟨h.on, h.fates⟩
theorem Calm.get {D : PDisk} (h : Calm D) (p : ByteArray) : D.get p = (D.get_ p, D.tick ⟨#[71, 101, 116]⟩ p ⟨#[]⟩) := by
  unfold PDisk.get
  rw [step_free _ _ _ h.on h.fates]
  rfl
theorem Calm.names {D : PDisk} (h : Calm D) (p : ByteArray) : D.namesC p = (D.namesOn p, D.tick ⟨#[78, 97, 109, 101, 115]⟩ p ⟨#[]⟩) := by
  unfold PDisk.namesC
  rw [step_free _ _ _ h.on h.fates]
  rfl
theorem Calm.tick {D : PDisk} (h : Calm D) (c p q : ByteArray) : Calm (D.tick c p q) := ⟨h.on, h.fates⟩
theorem tick_get (D : PDisk) (c p q x : ByteArray) : (D.tick c p q).get_ x = D.get_ x := rfl
theorem tick_names (D : PDisk) (c p q x : ByteArray) : (D.tick c p q).namesOn x = D.namesOn x := rfl
theorem tick_tree (D : PDisk) (c p q : ByteArray) : (D.tick c p q).tree = D.tree := rfl
theorem Calm.ask {D : PDisk} (h : Calm D) (c : CallP) : Calm (askD D c) := by
  unfold askD
  split
  · refine h.call _ _ _ _ fun E full hE => ?_
    unfold PDisk.write_
    cases hat : E.at_ c.path with
    | none => exact hE.lay
    | some o =>
      dsimp only
      split
      · exact hE
      · exact ⟨hE.on, hE.fates⟩
  split
  · exact h.call _ _ _ _ fun E full hE => hE.lay
  split
  · exact h.call _ _ _ _ fun E full hE => hE.lay
  split
  · refine h.call _ _ _ _ fun E full hE => ?_
    unfold PDisk.remove_
    dsimp only
    split
    · exact hE
    · exact ⟨hE.on, hE.fates⟩
  split
  · refine h.call _ _ _ _ fun E full hE => ?_
    unfold PDisk.move_
    dsimp only
    split
    · exact hE
    · split
      · exact hE
      · exact ⟨hE.on, hE.fates⟩
  split
  · refine h.call _ _ _ _ fun E full hE => ?_
    unfold PDisk.replace_
    dsimp only
    split
    · exact hE
    · exact ⟨hE.on, hE.fates⟩
  split
  · refine h.call _ _ _ _ fun E full hE => ?_
    unfold PDisk.sync_
    dsimp only
    split
    · exact hE
    · split
      · exact hE
      · exact ⟨hE.on, hE.fates⟩
  split
  · exact h.call _ _ _ _ fun E full hE => ⟨hE.on, hE.fates⟩
  split
  · rw [h.get]; exact h.tick _ _ _
  split
  · rw [h.names]; exact h.tick _ _ _
  split
  · exact ⟨rfl, rfl⟩
  · exact h
end Go.Proofs.YtgcfkljooabjjaaGreatDoor

/- Get and Names in a run: what was made since the disk's last call is kept. Conditions: what each contract states. -/
namespace Go.Proofs.YtgcfkljooabjjaaGreatDoor
open Go.RowKit Go.Op Go.Maps

/-- all blocks that were made since the world wr -/
def KeptK (wr w w' : World) : Prop := ∀ b, wr.heap.size ≤ b → b < w.heap.size → w'.heap[b]? = w.heap[b]?
theorem KeptK.of {wr w w' : World} {p n n' : Nat} {D D' : PDisk} {G : Geo} (h1 : DS wr p G D n) (hT : DSTo w p G.parts w' D' n') : KeptK wr w w' := fun b hb hlt => by
  obtain ⟨G2, -, ho, -⟩ := hT
  refine ho.block b hlt (fun hm => ?_)
  rcases List.mem_cons.1 hm with rfl | hm
  · have := h1.m.blk.lt; omega
  · have := h1.m.parts.lt hm; omega
theorem KeptK.row {wr w w' : World} {base e sz n : Nat} {v : Value} {xs : List Value} (h : KeptK wr w w') (hr : w.ownsRow base e sz v n xs) (hb : wr.heap.size ≤ base) : w'.ownsRow base e sz v n xs := by
  refine ⟨hr.1, ?_⟩
  rcases hr.2 with h1 | ⟨g, cap, cur, h1, h2, h3, h4⟩
  · exact .inl h1
  · exact .inr ⟨g, cap, cur, h1, h2, (h g (Nat.le_trans hb h2) (Array.getElem?_eq_some_iff.1 h3).1).trans h3, h4⟩
theorem run_get2 {w0 wr w : World} {p n : Nat} {D : PDisk} (h : Run w0 wr p D n) (hof : Off [] wr w) (hn : n ≤ 1000000) (path : ByteArray) (hs : path.size ≤ 9223372036854775807) :
    Calls Tryz.prog 20 #[.pointer (some ⟨p, 0, none⟩), .string path] w fun e w' => e = .returned (getVal (D.get path).1) ∧ Run w0 w' p (D.get path).2 (n + 1) ∧ KeptK wr w w' := by
  obtain ⟨G, h1, h2, h3, h4⟩ := h
  exact (dget_call p n G D path w (h1.off hof) hn hs).mono fun e w' ⟨he, hT⟩ => ⟨he, Run.next (h2.trans_nil hof) h3 h4 hT, KeptK.of h1 hT⟩
theorem run_names {w0 wr w : World} {p n : Nat} {D : PDisk} (h : Run w0 wr p D n) (hof : Off [] wr w) (hn : n ≤ 90000) (path : ByteArray) (hs : path.size ≤ 9223372036854775807) (hF : Light D) :
    Calls Tryz.prog 37 #[.pointer (some ⟨p, 0, none⟩), .string path] w fun e w' => ∃ v wm, e = .returned (.tuple #[v, .int .i64 (D.namesC path).1.2]) ∧ w'.ownsRow wm.heap.size 9 1 v (D.namesC path).1.1.length ((D.namesC path).1.1.map Value.string) ∧ Run w0 wm p (D.namesC path).2 (n + 1) ∧ Off [] wm w' ∧ KeptK wr w w' := by
  obtain ⟨G, h1, h2, h3, h4⟩ := h
  refine (dnames_call p n G D path w (h1.off hof) hn hs hF).mono fun e w' ⟨v, wm, he, hr, hT, ho⟩ => ⟨v, wm, he, hr, Run.next (h2.trans_nil hof) h3 h4 hT, ho, fun b hb hlt => ?_⟩
  have hk := KeptK.of h1 hT b hb hlt
  have hsz : w.heap.size ≤ wm.heap.size := by
    obtain ⟨G2, -, ho2, -⟩ := hT
    exact ho2.size
  rw [ho.block b (by omega) (by simp), hk]
end Go.Proofs.YtgcfkljooabjjaaGreatDoor
