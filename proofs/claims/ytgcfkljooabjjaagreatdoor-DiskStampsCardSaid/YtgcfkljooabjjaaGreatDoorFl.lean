/- Texts of this claim, one behind the other: TreeMove Good GoodNew EditLaw Calm RunK RunP StampLaw RunE. Conditions: what each lemma states. -/
import Derived.Test.YtgcfkljooabjjaaGreatDoorFk
/- What Move keeps of a disk's names. Conditions: none beyond what each lemma states. -/
namespace Go.Proofs.YtgcfkljooabjjaaGreatDoor
open Go.RowKit Go.Op Go.Maps

theorem within_trans {x a p : Str} (h1 : within x a = true) (h2 : within a p = true) : within x p = true := by
  unfold within at *
  simp only [Bool.and_eq_true, Bool.or_eq_true, decide_eq_true_eq, List.isPrefixOf_iff_prefix] at *
  refine ⟨h1.1, ?_⟩
  rcases h2.2 with h | h
  · exact .inl h
  · right
    refine ⟨h.1, ?_⟩
    rcases h1.2 with h3 | h3
    · subst h3
      exact absurd h2.1 (by decide)
    · exact h.2.trans h3.2
theorem moved_apart {p q : ByteArray} {l : NameL} (ha : Apart l) (hp : okPath (str p) = true) (hf : Free p q l) : Apart (l.map (mvN p q)) := by
  unfold Apart at *
  rw [List.pairwise_map]
  refine ha.imp_of_mem fun {x y} hx hy hne => ?_
  have hno : ∀ x y, x ∈ l → y ∈ l → within (str x.1) (str p) = true → mvP p q x.1 ≠ y.1 := fun x y hx hy hw e => by
    have := hf x hx hw
    rw [show hasN l (mvP p q x.1) = true from (hasN_iff _ _).2 ⟨y, hy, e.symm⟩] at this
    cases this
  unfold mvN
  split
  · rename_i h1
    split
    · rename_i h2; exact fun e => hne (mvP_inj hp h1 h2 e)
    · exact hno x y hx hy h1
  · split
    · rename_i h2; exact (hno y x hy hx h2).symm
    · exact hne
theorem moved_stay {p q a : ByteArray} {l : NameL} (ha : Apart l) (hp : okPath (str p) = true) (hf : Free p q l) (hh : hasN l a = true) (hw : within (str a) (str p) = false) : lookN (l.map (mvN p q)) a = lookN l a := by
  obtain ⟨x, hx, rfl⟩ := (hasN_iff _ _).1 hh
  have h1 : x ∈ l.map (mvN p q) := List.mem_map.2 ⟨x, hx, by unfold mvN; rw [hw]; rfl⟩
  rw [lookN_mem (moved_apart ha hp hf) h1, lookN_mem ha hx]
theorem moved_gone {p q a : ByteArray} {l : NameL} (ha : Apart l) (hp : okPath (str p) = true) (hf : Free p q l) (hh : hasN l a = true) (hw : within (str a) (str p) = true) : lookN (l.map (mvN p q)) (mvP p q a) = lookN l a := by
  obtain ⟨x, hx, rfl⟩ := (hasN_iff _ _).1 hh
  have h1 : (mvP p q x.1, x.2) ∈ l.map (mvN p q) := List.mem_map.2 ⟨x, hx, by unfold mvN; rw [hw]; rfl⟩
  rw [lookN_mem (moved_apart ha hp hf) h1, lookN_mem ha hx]
theorem has_of_inode {D : PDisk} {l : NameL} {a : ByteArray} {m : Ino} (h : D.inode (lookN l a) = some m) : hasN l a = true := by
  cases hh : hasN l a
  · unfold PDisk.inode at h
    rw [lookN_of_not hh] at h
    simp at h
  · rfl
theorem ok_above {a s : Str} (h : okPath (a ++ 47 :: s) = true) : okPath a = true := by
  unfold okPath at *
  simp only [Bool.and_eq_true, decide_eq_true_eq, List.all_eq_true] at *
  obtain ⟨⟨h1, h2⟩, h3⟩ := h
  refine ⟨⟨?_, ?_⟩, fun x hx => h3 x ?_⟩
  · rw [List.length_append] at h1; omega
  · rw [List.count_append] at h2; omega
  · rw [parts_append]; exact List.mem_append_left _ hx
theorem mvP_str {p q x : ByteArray} (hp : okPath (str p) = true) (hx : within (str x) (str p) = true) : ∃ tl, str x = str p ++ tl ∧ str (mvP p q x) = str q ++ tl := by
  have e : str (x.extract p.size x.size) = (str x).drop (str p).length := by
    rw [str_extract, str_size, ← str_size x]
    exact List.take_of_length_le (by rw [List.length_drop]; exact Nat.le_refl _)
  have hxk : okPath (str x) = true := by
    unfold within at hx
    simp only [Bool.and_eq_true] at hx
    exact hx.1
  refine ⟨(str x).drop (str p).length, ?_, by unfold mvP; rw [str_append, e]⟩
  rcases (within_iff hxk hp).1 hx with h | ⟨s, h⟩
  · rw [h]; simp
  · rw [h]; simp
theorem TreeD.move_ {D : PDisk} {n : Nat} (h : TreeD D) (hk : Ok D n) (ha : Apart D.names) (p q : ByteArray) : TreeD (D.move_ p q).2 := by
  unfold PDisk.move_
  dsimp only
  split
  · exact h
  · rename_i he
    split
    · exact h
    · rename_i hb
      have he : firstE (D.mvE p q) = 0 := by simpa using he
      have hf := h.names.mv hk ha he
      have h5 : ∀ y ∈ D.mvE p q, y.2 ≠ 0 := by
        intro y hy
        unfold PDisk.mvE at hy
        simp only [List.mem_cons, List.not_mem_nil, or_false] at hy
        rcases hy with rfl | rfl | rfl | rfl | rfl | rfl <;> simp [PDisk.no, PDisk.gone, PDisk.there, PDisk.parentE]
      have k1 : okPath (str p) = true := by simpa [PDisk.no] using firstE_zero h5 he (PDisk.no p) (by simp [PDisk.mvE])
      have k2 : okPath (str q) = true := by simpa [PDisk.no] using firstE_zero h5 he (PDisk.no q) (by simp [PDisk.mvE])
      have k5 : D.dir (bs (parent (str q))) = true := by simpa [PDisk.parentE] using firstE_zero h5 he (D.parentE q) (by simp [PDisk.mvE])
      have k6 : within (str q) (str p) = false := firstE_zero h5 he (within (str q) (str p), 2) (by simp [PDisk.mvE])
      refine h.change fun y hy => ?_
      obtain ⟨x, hx, rfl⟩ := List.mem_map.1 hy
      obtain ⟨hx1, hx2⟩ := h.names x hx
      cases hw : within (str x.1) (str p)
      · have e : mvN p q x = x := by unfold mvN; rw [hw]; rfl
        rw [e]
        refine ⟨hx1, fun a h1 h2 h3 => ?_⟩
        obtain ⟨m, hm, hkd⟩ := hx2 a h1 h2 h3
        have hna : within (str a) (str p) = false := by
          cases e2 : within (str a) (str p)
          · rfl
          · rw [within_trans h2 e2] at hw; cases hw
        exact ⟨m, by rw [moved_stay ha k1 hf (has_of_inode hm) hna]; exact hm, hkd⟩
      · have e : (mvN p q x).1 = mvP p q x.1 := by unfold mvN; rw [hw]; rfl
        rw [e]
        have hok : okPath (str (mvP p q x.1)) = true := by
          have hb2 : D.badMv p q = false := by simpa using hb
          have := List.any_eq_false.1 hb2 x hx
          unfold badP at this
          rw [hw] at this
          simpa using this
        refine ⟨hok, fun a h1 h2 h3 => ?_⟩
        obtain ⟨tl, e1, e2⟩ := mvP_str (q := q) k1 hw
        obtain ⟨s2, e3⟩ : ∃ s2, str (mvP p q x.1) = str a ++ 47 :: s2 := by
          rcases (within_iff hok h1).1 h2 with e3 | e3
          · exact absurd (str_inj e3) h3
          · exact e3
        have key : ∀ c, str a = str q ++ c → tl = c ++ 47 :: s2 → ∃ m, D.inode (lookN (D.names.map (mvN p q)) a) = some m ∧ m.node.kind = 2 := fun c e4 e5 => by
          have hxa : str x.1 = (str p ++ c) ++ 47 :: s2 := by rw [e1, e5, List.append_assoc]
          have hoa : okPath (str (bs (str p ++ c))) = true := by
            rw [str_bs]
            exact ok_above (s := s2) (by rw [← hxa]; exact hx1)
          have hwa : within (str x.1) (str (bs (str p ++ c))) = true := (within_iff hx1 hoa).2 (.inr ⟨s2, by rw [str_bs]; exact hxa⟩)
          obtain ⟨m, hm, hkd⟩ := hx2 (bs (str p ++ c)) hoa hwa (fun e6 => by
            have e7 := congrArg (fun z => (str z).length) e6
            rw [hxa, str_bs, List.length_append] at e7
            simp at e7)
          have hwp : within (str (bs (str p ++ c))) (str p) = true := by
            refine (within_iff hoa k1).2 ?_
            rw [str_bs]
            cases c with
            | nil => left; simp
            | cons z c =>
              right
              rcases (within_iff hx1 k1).1 hw with e6 | ⟨s, e6⟩
              · rw [e1, e5] at e6
                have := congrArg List.length e6
                simp at this
              · rw [e1, e5] at e6
                have e8 := List.append_cancel_left e6
                rw [List.cons_append] at e8
                injection e8 with e9 _
                exact ⟨c, by rw [e9]⟩
          have hmv : mvP p q (bs (str p ++ c)) = a := by
            obtain ⟨t2, e6, e7⟩ := mvP_str (q := q) k1 hwp
            rw [str_bs] at e6
            have e8 := List.append_cancel_left e6
            apply str_inj
            rw [e7, ← e8, e4]
          have := moved_gone ha k1 hf (has_of_inode hm) hwp
          rw [hmv] at this
          exact ⟨m, by rw [this]; exact hm, hkd⟩
        rw [e2] at e3
        rcases List.append_eq_append_iff.1 e3 with ⟨c, e4, e5⟩ | ⟨c, e4, e5⟩
        · exact key c e4 e5
        · cases c with
          | nil => exact key [] (by rw [e4]; simp) (by rw [List.nil_append] at e5; rw [← e5]; rfl)
          | cons z c =>
            have hz : z = 47 := by
              rw [List.cons_append] at e5
              injection e5 with e6 _
              exact e6.symm
            subst hz
            have hqa : within (str q) (str a) = true := (within_iff k2 h1).2 (.inr ⟨c, e4⟩)
            obtain ⟨m, hm, hkd⟩ := h.names.above k2 k5 h1 hqa (fun e6 => by
              rw [e6] at e4
              have := congrArg List.length e4
              simp at this)
            have hna : within (str a) (str p) = false := by
              cases e6 : within (str a) (str p)
              · rfl
              · rw [within_trans hqa e6] at k6; cases k6
            exact ⟨m, by rw [moved_stay ha k1 hf (has_of_at hm) hna]; exact hm, hkd⟩
end Go.Proofs.YtgcfkljooabjjaaGreatDoor

/- What every call of ask keeps of a disk: no name twice, names are paths, what stands above is a directory. Conditions: none beyond what each lemma states. -/
namespace Go.Proofs.YtgcfkljooabjjaaGreatDoor
open Go.RowKit Go.Op Go.Maps

structure Good (D : PDisk) : Prop where
  tree : TreeD D
  names : Apart D.names
  safe : Apart D.safe
  later : ∀ l ∈ D.later, Apart l
theorem Good.crash {D : PDisk} (h : Good D) (f : FateP) : Good (D.crash f) := by
  have hn : Apart (D.crash f).names := by
    rcases crash_names D f with e | e
    · rw [e]; exact h.safe
    · exact h.later _ e
  exact ⟨h.tree.crash f, hn, hn, fun l hl => by cases hl⟩
theorem Good.of {D E : PDisk} (h : Good D) (ht : TreeD E) (h1 : E.names = D.names) (h2 : E.safe = D.safe) (h3 : E.later = D.later) : Good E :=
  ⟨ht, by rw [h1]; exact h.names, by rw [h2]; exact h.safe, fun l hl => h.later l (by rw [← h3]; exact hl)⟩
theorem Good.step {D : PDisk} (h : Good D) (c p q : ByteArray) : Good (D.step c p q).2.2 := by
  have ht : Good { D with clock := D.clock + 1, trace := D.trace ++ [⟨c, p, q⟩] } := h.of (h.tree.of rfl rfl rfl (KS.of_inos rfl)) rfl rfl rfl
  unfold PDisk.step
  split
  · exact h
  · dsimp only
    split
    · exact ht
    · split
      · exact ht.crash _
      · split <;> exact ht
theorem Good.change {D : PDisk} {l : NameL} (h : Good D) (ht : TreeD (D.change l)) (hl : Apart l) : Good (D.change l) :=
  ⟨ht, hl, h.safe, fun x hx => by
    rcases List.mem_append.1 (show x ∈ D.later ++ [l] from hx) with hx | hx
    · exact h.later x hx
    · simp at hx; subst hx; exact hl⟩
theorem Good.lay {D : PDisk} (h : Good D) {p : ByteArray} {x : Node} {full : Bool} {l : List (Bool × Int)} (ht : TreeD (D.lay p x full l).2) : Good (D.lay p x full l).2 := by
  unfold PDisk.lay at ht ⊢
  dsimp only at ht ⊢
  split
  · exact h
  · rename_i he
    rw [if_neg he] at ht
    exact Good.change (D := D.make x D.clock (decide (x.kind = 1))) ⟨h.tree.of rfl rfl rfl (KS.make D x D.clock (decide (x.kind = 1))), h.names, h.safe, h.later⟩ ht (h.names.put _ _)
theorem Good.call {D : PDisk} {n : Nat} (h : Good D) (hk : Ok D n) (c p q : ByteArray) (k : PDisk → Bool → Int × PDisk) (hh : ∀ E full, Good E → Ok E (n + 1) → Good (k E full).2) : Good (D.call c p q k).2 := by
  have h1 := h.step c p q
  have h2 := PDisk.step_ok hk c p q
  unfold PDisk.call
  generalize D.step c p q = st at h1 h2
  obtain ⟨full, e, E⟩ := st
  dsimp only at h1 h2 ⊢
  split
  · exact h1
  · exact hh E full h1 h2
theorem Good.ask {D : PDisk} {n : Nat} (h : Good D) (hk : Ok D n) (c : CallP) : Good (askD D c) := by
  unfold askD
  split
  · refine h.call hk _ _ _ _ fun E full hE hO => ?_
    have ht := hE.tree.write_ hO hE.names full c.path c.data c.mode
    unfold PDisk.write_ at ht ⊢
    cases hat : E.at_ c.path with
    | none => rw [hat] at ht; exact hE.lay ht
    | some o =>
      rw [hat] at ht
      dsimp only at ht ⊢
      split
      · exact hE
      · rename_i he
        rw [if_neg he] at ht
        exact hE.of ht rfl rfl rfl
  split
  · refine h.call hk _ _ _ _ fun E full hE hO => hE.lay (hE.tree.lay hO hE.names _ _ _ _ ?_ (by simp) (by simp) (.inr (by simp)))
    intro y hy
    simp only [List.mem_cons, List.not_mem_nil, or_false] at hy
    rcases hy with rfl | rfl | rfl <;> simp [PDisk.no, PDisk.parentE, PDisk.there]
  split
  · refine h.call hk _ _ _ _ fun E full hE hO => hE.lay (hE.tree.lay hO hE.names _ _ _ _ ?_ (by simp) (by simp) (.inr (by simp)))
    intro y hy
    simp only [List.mem_cons, List.not_mem_nil, or_false] at hy
    rcases hy with rfl | rfl | rfl | rfl <;> simp [PDisk.no, PDisk.parentE, PDisk.there]
  split
  · refine h.call hk _ _ _ _ fun E full hE hO => ?_
    have ht := hE.tree.remove_ c.path
    unfold PDisk.remove_ at ht ⊢
    dsimp only at ht ⊢
    split
    · exact hE
    · rename_i he
      rw [if_neg he] at ht
      exact hE.change ht (hE.names.del _)
  split
  · refine h.call hk _ _ _ _ fun E full hE hO => ?_
    have ht := hE.tree.move_ hO hE.names c.path c.to_
    unfold PDisk.move_ at ht ⊢
    dsimp only at ht ⊢
    split
    · exact hE
    · rename_i he
      rw [if_neg he] at ht
      split
      · exact hE
      · rename_i hb
        rw [if_neg hb] at ht
        have he2 : firstE (E.mvE c.path c.to_) = 0 := by simpa using he
        have h5 : ∀ y ∈ E.mvE c.path c.to_, y.2 ≠ 0 := by
          intro y hy
          unfold PDisk.mvE at hy
          simp only [List.mem_cons, List.not_mem_nil, or_false] at hy
          rcases hy with rfl | rfl | rfl | rfl | rfl | rfl <;> simp [PDisk.no, PDisk.gone, PDisk.there, PDisk.parentE]
        have k1 : okPath (str c.path) = true := by simpa [PDisk.no] using firstE_zero h5 he2 (PDisk.no c.path) (by simp [PDisk.mvE])
        exact hE.change ht (moved_apart hE.names k1 (hE.tree.names.mv hO hE.names he2))
  split
  · refine h.call hk _ _ _ _ fun E full hE hO => ?_
    have ht := hE.tree.replace_ c.path c.to_
    unfold PDisk.replace_ at ht ⊢
    dsimp only at ht ⊢
    split
    · exact hE
    · rename_i he
      rw [if_neg he] at ht
      exact hE.change ht ((hE.names.put _ _).del _)
  split
  · refine h.call hk _ _ _ _ fun E full hE hO => ?_
    have ht := hE.tree.sync_ c.path
    unfold PDisk.sync_ at ht ⊢
    dsimp only at ht ⊢
    split
    · exact hE
    · rename_i he
      rw [if_neg he] at ht
      dsimp only at ht
      cases hat : E.at_ c.path with
      | none => exact hE
      | some o => rw [hat] at ht; exact hE.of ht rfl rfl rfl
  split
  · exact h.call hk _ _ _ _ fun E full hE hO => ⟨⟨hE.tree.names.mono (KS.of_inos rfl), hE.tree.names.mono (KS.of_inos rfl), fun l hl => by cases hl⟩, hE.names, hE.names, fun l hl => by cases hl⟩
  split
  · have h1 := h.step ⟨#[71, 101, 116]⟩ c.path ⟨#[]⟩
    unfold PDisk.get
    generalize D.step ⟨#[71, 101, 116]⟩ c.path ⟨#[]⟩ = st at h1
    obtain ⟨full, e, E⟩ := st
    dsimp only at h1 ⊢
    split <;> exact h1
  split
  · have h1 := h.step ⟨#[78, 97, 109, 101, 115]⟩ c.path ⟨#[]⟩
    unfold PDisk.namesC
    generalize D.step ⟨#[78, 97, 109, 101, 115]⟩ c.path ⟨#[]⟩ = st at h1
    obtain ⟨full, e, E⟩ := st
    dsimp only at h1 ⊢
    split <;> exact h1
  split
  · exact h.of (h.tree.of rfl rfl rfl (KS.of_inos rfl)) rfl rfl rfl
  · exact h
/-- Move's question -/
theorem Good.free {D : PDisk} {n : Nat} (h : Good D) (hk : Ok D n) (p q : ByteArray) : ∀ E, (D.step ⟨#[77, 111, 118, 101]⟩ p q).2.2 = E → firstE (E.mvE p q) = 0 → Free p q E.names := fun E e he => by
  subst e
  exact (h.step _ _ _).tree.names.mv (PDisk.step_ok hk _ _ _) (h.step _ _ _).names he
theorem light_new {t : List Node} (hF : Fits t) : Light (newD t) := fun m hm => by
  obtain ⟨n, hn, rfl⟩ := List.mem_map.1 (show m ∈ t.map fun n => (⟨n, 0, false⟩ : Ino) from hm)
  exact (hF n hn).2
end Go.Proofs.YtgcfkljooabjjaaGreatDoor

/- A new disk's names are in order. Conditions: none beyond what each lemma states. -/
namespace Go.Proofs.YtgcfkljooabjjaaGreatDoor
open Go.RowKit Go.Op Go.Maps

theorem nmOf_mem : ∀ (t : List Node) (i j : Nat) (m : Node), t[j]? = some m → (m.path, i + j + 1) ∈ nmOf t i
  | [], _, _, _, h => by simp at h
  | n :: t, i, 0, m, h => by
    simp at h
    subst h
    unfold nmOf
    exact List.mem_cons_self ..
  | n :: t, i, j + 1, m, h => by
    unfold nmOf
    have := nmOf_mem t (i + 1) j m (by simpa using h)
    rw [show i + 1 + j + 1 = i + (j + 1) + 1 by omega] at this
    exact List.mem_cons_of_mem _ this
theorem nmOf_apart {t : List Node} (hs : Sorted t) : Apart (nmOf t 0) := (nmOf_pair t 0 hs).imp fun {x y} h e => by
  rw [e, order_self] at h
  omega
theorem new_inode {t : List Node} (hs : Sorted t) {m : Node} (hm : m ∈ t) : (newD t).inode (lookN (nmOf t 0) m.path) = some ⟨m, 0, false⟩ := by
  obtain ⟨j, hj, rfl⟩ := List.getElem_of_mem hm
  have h1 := nmOf_mem t 0 j _ (List.getElem?_eq_getElem hj)
  have h2 := lookN_mem (nmOf_apart hs) h1
  dsimp only at h2
  rw [h2]
  unfold PDisk.inode
  rw [if_neg (by omega), show 0 + j + 1 - 1 = j by omega]
  show (t.map fun n => (⟨n, 0, false⟩ : Ino))[j]? = _
  rw [List.getElem?_map, List.getElem?_eq_getElem hj]
  rfl
theorem okTree_up {t : List Node} (hok : okTree t = true) {n : Node} (hn : n ∈ t) (hp : parent n.p ≠ []) : ∃ m ∈ t, m.p = parent n.p ∧ m.kind = 2 := by
  obtain ⟨i, hi, rfl⟩ := List.getElem_of_mem hn
  have h := okTree_next hok i hi
  unfold okNext at h
  simp only [Bool.and_eq_true] at h
  have h2 := h.2
  unfold isDir at h2
  rw [decide_eq_false hp, Bool.false_or] at h2
  obtain ⟨m, hm, hk⟩ := List.any_eq_true.1 h2
  simp only [Bool.and_eq_true, decide_eq_true_eq] at hk
  exact ⟨m, List.mem_of_mem_take hm, hk.1, hk.2⟩
theorem new_climb {t : List Node} (hok : okTree t = true) {q : ByteArray} (hq : okPath (str q) = true) : ∀ (k : Nat) (n : Node), n ∈ t → (parts n.p).length ≤ k → within n.p (str q) = true → n.path ≠ q → ∃ m ∈ t, m.path = q ∧ m.kind = 2
  | 0, n, _, hk, _, _ => absurd (List.length_eq_zero_iff.1 (Nat.le_zero.1 hk)) (parts_ne n.p)
  | k + 1, n, hn, hk, hw, hne => by
    have hnp := okTree_path hok hn
    obtain ⟨h1, h2⟩ := anc_parent hnp hq hw (fun e => hne (str_inj e))
    obtain ⟨m, hm, h3, h4⟩ := okTree_up hok hn h1
    by_cases e : m.path = q
    · exact ⟨m, hm, e, h4⟩
    · refine new_climb hok hq k m hm ?_ (by rw [h3]; exact h2 (by rw [← h3]; exact okTree_path hok hm)) e
      rw [h3, parent_parts hnp h1, List.length_dropLast]
      omega
theorem good_new {t : List Node} (hok : okTree t = true) : Good (newD t) := by
  have hs := okTree_sorted hok
  have hT : TreeL (newD t) (nmOf t 0) := fun x hx => by
    obtain ⟨n, hn, e⟩ := (nmOf_has t 0 x.1).1 ((hasN_iff _ _).2 ⟨x, hx, rfl⟩)
    rw [← e]
    refine ⟨okTree_path hok hn, fun q h1 h2 h3 => ?_⟩
    obtain ⟨m, hm, h4, h5⟩ := new_climb hok h1 _ n hn (Nat.le_refl _) h2 h3
    exact ⟨⟨m, 0, false⟩, by rw [← h4]; exact new_inode hs hm, h5⟩
  exact ⟨⟨hT, hT, fun l hl => by cases hl⟩, nmOf_apart hs, nmOf_apart hs, fun l hl => by cases hl⟩
end Go.Proofs.YtgcfkljooabjjaaGreatDoor

/- A user's edit keeps a disk good: the plain law. Conditions: none beyond what each lemma states. -/
namespace Go.Proofs.YtgcfkljooabjjaaGreatDoor
open Go.RowKit Go.Op Go.Maps

theorem hasN_app : ∀ (a b : NameL) (p : ByteArray), hasN (a ++ b) p = (hasN a p || hasN b p) ∧ lookN (a ++ b) p = if hasN a p then lookN a p else lookN b p
  | [], b, p => ⟨rfl, rfl⟩
  | x :: a, b, p => by
    obtain ⟨h1, h2⟩ := hasN_app a b p
    obtain ⟨k1, k2⟩ := hasN_cons x (a ++ b) p
    obtain ⟨k3, k4⟩ := hasN_cons x a p
    rw [List.cons_append, k1, k2, k3, k4, h1, h2]
    by_cases e : x.1 = p
    · rw [decide_eq_true e, if_pos e, if_pos e]; simp
    · rw [decide_eq_false e, if_neg e, if_neg e]; simp
theorem hasN_false {l : NameL} {p : ByteArray} (h : ∀ x ∈ l, x.1 ≠ p) : hasN l p = false := by
  cases hh : hasN l p
  · rfl
  · obtain ⟨x, hx, e⟩ := (hasN_iff _ _).1 hh
    exact absurd e (h x hx)
theorem laid_closed (path : ByteArray) : ∀ (t : List Node) (D : PDisk), (t.filter fun x => within x.p (str path)).Pairwise (fun a b => a.path ≠ b.path) → (∀ x ∈ t, within x.p (str path) = true → hasN D.names x.path = false) →
    (t.foldl (PDisk.laid1 path) D).names = D.names ++ nmOf (t.filter fun x => within x.p (str path)) D.inos.length ∧ (t.foldl (PDisk.laid1 path) D).inos = D.inos ++ (t.filter fun x => within x.p (str path)).map fun x => (⟨x, (D.clock : Int) + 1, false⟩ : Ino)
  | [], D, _, _ => by simp [nmOf]
  | x :: t, D, hp, hn => by
    rw [List.foldl_cons]
    cases hw : within x.p (str path)
    · have h1 : PDisk.laid1 path D x = D := by unfold PDisk.laid1; rw [hw]; rfl
      rw [List.filter_cons_of_neg (by simp [hw])] at hp ⊢
      rw [h1]
      exact laid_closed path t D hp (fun y hy => hn y (List.mem_cons_of_mem _ hy))
    · have h1 : PDisk.laid1 path D x = { (D.make x (D.clock + 1) false) with names := putN D.names x.path (D.inos.length + 1) } := by unfold PDisk.laid1; rw [hw]; rfl
      rw [List.filter_cons_of_pos (by simp [hw])] at hp ⊢
      obtain ⟨hp1, hp2⟩ := List.pairwise_cons.1 hp
      have hx := hn x (List.mem_cons_self ..) hw
      have hput : putN D.names x.path (D.inos.length + 1) = D.names ++ [(x.path, D.inos.length + 1)] := by unfold putN; rw [hx]; rfl
      obtain ⟨ih1, ih2⟩ := laid_closed path t (PDisk.laid1 path D x) hp2 (fun y hy hwy => by
        rw [h1]
        show hasN (putN D.names x.path (D.inos.length + 1)) y.path = false
        rw [hput, (hasN_app _ _ _).1, hn y (List.mem_cons_of_mem _ hy) hwy]
        have := hp1 y (List.mem_filter.2 ⟨hy, by simp [hwy]⟩)
        simp [hasN, this])
      have hl : (PDisk.laid1 path D x).inos.length = D.inos.length + 1 := by rw [h1]; show (D.inos ++ [_]).length = _; simp
      have hc : (PDisk.laid1 path D x).clock = D.clock := by rw [h1]; rfl
      have hn1 : (PDisk.laid1 path D x).names = D.names ++ [(x.path, D.inos.length + 1)] := by rw [h1]; exact hput
      have hi1 : (PDisk.laid1 path D x).inos = D.inos ++ [⟨x, (D.clock : Int) + 1, false⟩] := by rw [h1]; rfl
      rw [ih1, ih2, hn1, hi1, hc]
      constructor
      · rw [List.append_assoc]
        show D.names ++ ([(x.path, D.inos.length + 1)] ++ nmOf _ (D.inos ++ [_]).length) = D.names ++ nmOf (x :: _) D.inos.length
        rw [List.length_append]
        rfl
      · rw [List.append_assoc]; rfl
theorem nmOf_apart_ {t : List Node} (i : Nat) (hs : Sorted t) : Apart (nmOf t i) := (nmOf_pair t i hs).imp fun {x y} h e => by
  rw [e, order_self] at h
  omega
theorem sorted_path {t : List Node} (hs : Sorted t) : t.Pairwise (fun a b => a.path ≠ b.path) := hs.imp fun {a b} h e => by
  have : a.p = b.p := by show str a.path = str b.path; rw [e]
  rw [this, order_self] at h
  omega
/-- names that are kept, and those that are laid anew -/
def keptN (D : PDisk) (path : ByteArray) : NameL := D.names.filter fun y => !within (str y.1) (str path)
def laidL (X : List Node) (path : ByteArray) : List Node := X.filter fun x => within x.p (str path)
section
variable {D : PDisk} {n : Nat} {path : ByteArray} {v X : List Node}
theorem keptN_not {x : ByteArray × Nat} (h : x ∈ keptN D path) : x ∈ D.names ∧ within (str x.1) (str path) = false := by
  obtain ⟨h1, h2⟩ := List.mem_filter.1 h
  exact ⟨h1, by simpa using h2⟩
theorem kept_no {y : Node} (hw : within y.p (str path) = true) : hasN (keptN D path) y.path = false := hasN_false fun x hx e => by
  have := (keptN_not hx).2
  rw [e] at this
  rw [show y.p = str y.path from rfl, this] at hw
  cases hw
theorem edit_closed (h : PutWell D.tree path v X) : (D.editN path X).names = keptN D path ++ nmOf (laidL X path) D.inos.length ∧ (D.editN path X).inos = D.inos ++ (laidL X path).map fun x => (⟨x, (D.clock : Int) + 1, false⟩ : Ino) :=
  laid_closed path X { D with names := D.names.filter fun y => !within (str y.1) (str path) } ((sorted_path (okTree_sorted h.okx)).filter _) (fun x _ hw => kept_no hw)
theorem laidL_sorted (h : PutWell D.tree path v X) : Sorted (laidL X path) := List.Pairwise.filter _ (okTree_sorted h.okx)
/-- what stands in the new tree stood there, or is laid -/
theorem put_mem (h : PutWell D.tree path v X) {y : Node} : (y ∈ X ∧ within y.p (str path) = false) ↔ (y ∈ D.tree ∧ within y.p (str path) = false) := by
  have h3 := (split3 h.okp (okTree_sorted h.tree) (fun n hn => okTree_path h.tree hn)).2
  rw [h.out]
  unfold putOut
  constructor
  · rintro ⟨h1, h2⟩
    refine ⟨?_, h2⟩
    have : y ∈ lower D.tree (str path) ++ upper D.tree (str path) := by
      rcases List.mem_append.1 h1 with h1 | h1
      · rcases List.mem_append.1 h1 with h1 | h1
        · exact List.mem_append_left _ h1
        · rw [moved_in h.okp h.all h1] at h2; cases h2
      · exact List.mem_append_right _ h1
    rw [h3] at this
    exact (List.mem_filter.1 this).1
  · rintro ⟨h1, h2⟩
    refine ⟨?_, h2⟩
    have : y ∈ lower D.tree (str path) ++ upper D.tree (str path) := by
      rw [h3]
      exact List.mem_filter.2 ⟨h1, by simp [h2]⟩
    rcases List.mem_append.1 this with h1 | h1
    · exact List.mem_append_left _ (List.mem_append_left _ h1)
    · exact List.mem_append_right _ h1
theorem tree_node (hk : Ok D n) (ha : Apart D.names) {x : ByteArray × Nat} (hx : x ∈ D.names) : ∃ m, D.inode x.2 = some m ∧ ({ m.node with path := x.1 } : Node) ∈ D.tree := by
  obtain ⟨m, h1, -⟩ := hk.inode ha hx
  refine ⟨m, h1, List.mem_filterMap.2 ⟨x, List.mem_mergeSort.2 hx, ?_⟩⟩
  rw [h1]
  rfl
theorem node_tree (hk : Ok D n) (ha : Apart D.names) {y : Node} (hy : y ∈ D.tree) : ∃ x ∈ D.names, ∃ m, D.inode x.2 = some m ∧ y = { m.node with path := x.1 } := by
  obtain ⟨x, hx, e⟩ := List.mem_filterMap.1 hy
  have hx := List.mem_mergeSort.1 hx
  obtain ⟨m, h1, -⟩ := hk.inode ha hx
  rw [h1] at e
  exact ⟨x, hx, m, h1, (by simpa using e : ({ m.node with path := x.1 } : Node) = y).symm⟩
theorem edit_sub (hk : Ok D n) (ha : Apart D.names) (h : PutWell D.tree path v X) {x : ByteArray × Nat} (hx : x ∈ (D.editN path X).names) : ∃ y ∈ X, y.path = x.1 := by
  rw [(edit_closed h).1] at hx
  rcases List.mem_append.1 hx with hx | hx
  · obtain ⟨h1, h2⟩ := keptN_not hx
    obtain ⟨m, -, h3⟩ := tree_node hk ha h1
    exact ⟨_, ((put_mem h).2 ⟨h3, h2⟩).1, rfl⟩
  · obtain ⟨y, hy, e⟩ := (nmOf_has _ _ _).1 ((hasN_iff _ _).2 ⟨x, hx, rfl⟩)
    exact ⟨y, (List.mem_filter.1 hy).1, e⟩
theorem inode_app {D : PDisk} {l : List Ino} {i : Nat} {m : Ino} (h : D.inode i = some m) : ({ D with inos := D.inos ++ l } : PDisk).inode i = some m := by
  unfold PDisk.inode at h ⊢
  split at h
  · cases h
  · rename_i h0
    rw [if_neg h0]
    dsimp only
    rw [List.getElem?_append_left (List.getElem?_eq_some_iff.1 h).1]
    exact h
theorem inode_of {D E : PDisk} (e : E.inos = D.inos) (i : Nat) : E.inode i = D.inode i := by unfold PDisk.inode; rw [e]
theorem edit_at (hk : Ok D n) (ha : Apart D.names) (h : PutWell D.tree path v X) {y : Node} (hy : y ∈ X) : ∃ m, (D.editN path X).inode (lookN (D.editN path X).names y.path) = some m ∧ m.node.kind = y.kind := by
  obtain ⟨h1, h2⟩ := edit_closed h
  have e1 : ∀ i, (D.editN path X).inode i = ({ D with inos := D.inos ++ (laidL X path).map fun x => (⟨x, (D.clock : Int) + 1, false⟩ : Ino) } : PDisk).inode i := fun i => inode_of h2 i
  rw [e1, h1, (hasN_app _ _ _).2]
  cases hw : within y.p (str path)
  · obtain ⟨hyt, -⟩ := (put_mem h).1 ⟨hy, hw⟩
    obtain ⟨z, hz, m, hm, rfl⟩ := node_tree hk ha hyt
    have hzk : z ∈ keptN D path := List.mem_filter.2 ⟨hz, by
      have : within (str z.1) (str path) = false := hw
      simp [this]⟩
    have hhas : hasN (keptN D path) z.1 = true := (hasN_iff _ _).2 ⟨z, hzk, rfl⟩
    have hlook : lookN (keptN D path) z.1 = z.2 := lookN_mem (List.Pairwise.filter _ ha) hzk
    show ∃ m', ({ D with inos := D.inos ++ _ } : PDisk).inode (if hasN (keptN D path) z.1 = true then lookN (keptN D path) z.1 else _) = some m' ∧ m'.node.kind = m.node.kind
    rw [if_pos hhas, hlook]
    exact ⟨m, inode_app hm, rfl⟩
  · rw [kept_no hw, if_neg (by decide)]
    have hyl : y ∈ laidL X path := List.mem_filter.2 ⟨hy, by simp [hw]⟩
    obtain ⟨j, hj, e⟩ := List.getElem_of_mem hyl
    have hj2 : (laidL X path)[j]? = some y := by rw [List.getElem?_eq_getElem hj, e]
    have hlook := lookN_mem (nmOf_apart_ D.inos.length (laidL_sorted h)) (nmOf_mem (laidL X path) D.inos.length j y hj2)
    dsimp only at hlook
    rw [hlook]
    refine ⟨⟨y, (D.clock : Int) + 1, false⟩, ?_, rfl⟩
    unfold PDisk.inode
    rw [if_neg (by omega)]
    dsimp only
    rw [show D.inos.length + j + 1 - 1 = D.inos.length + j by omega, List.getElem?_append_right (by omega), List.getElem?_map, show D.inos.length + j - D.inos.length = j by omega, hj2]
    rfl
theorem nodup_le : ∀ (l m : List ByteArray), l.Nodup → (∀ x ∈ l, x ∈ m) → l.length ≤ m.length
  | [], _, _, _ => Nat.zero_le _
  | x :: l, m, hn, hm => by
    obtain ⟨a, b, rfl⟩ := List.append_of_mem (hm x (List.mem_cons_self ..))
    obtain ⟨h1, h2⟩ := List.nodup_cons.1 hn
    have := nodup_le l (a ++ b) h2 (fun y hy => by
      have h3 := hm y (List.mem_cons_of_mem _ hy)
      rcases List.mem_append.1 h3 with h | h
      · exact List.mem_append_left _ h
      · rcases List.mem_cons.1 h with rfl | h
        · exact absurd hy h1
        · exact List.mem_append_right _ h)
    simp only [List.length_append, List.length_cons] at this ⊢
    omega
theorem edit_apart (ha : Apart D.names) (h : PutWell D.tree path v X) : Apart (D.editN path X).names := by
  rw [(edit_closed h).1]
  unfold Apart
  rw [List.pairwise_append]
  refine ⟨List.Pairwise.filter _ ha, nmOf_apart_ _ (laidL_sorted h), fun x hx y hy e => ?_⟩
  obtain ⟨z, hz, e2⟩ := (nmOf_has _ _ _).1 ((hasN_iff _ _).2 ⟨y, hy, rfl⟩)
  have h1 := (List.mem_filter.1 hz).2
  have h2 := (keptN_not hx).2
  rw [e, ← e2] at h2
  rw [show z.p = str z.path from rfl] at h1
  rw [h2] at h1
  cases h1
theorem edit_KS (h : PutWell D.tree path v X) : KS D (D.editN path X) := fun i m hm hk2 => by
  rw [inode_of (edit_closed h).2 (E := D.editN path X) (D := { D with inos := D.inos ++ (laidL X path).map fun x => (⟨x, (D.clock : Int) + 1, false⟩ : Ino) }) i]
  exact ⟨m, inode_app hm, hk2⟩
theorem edit_names_len (hk : Ok D n) (ha : Apart D.names) (h : PutWell D.tree path v X) : (D.editN path X).names.length ≤ 1000 := by
  have h1 := nodup_le ((D.editN path X).names.map (·.1)) (X.map Node.path) ((apart_iff _).1 (edit_apart ha h)) (fun x hx => by
    obtain ⟨y, hy, rfl⟩ := List.mem_map.1 hx
    obtain ⟨z, hz, e⟩ := edit_sub hk ha h hy
    exact List.mem_map.2 ⟨z, hz, e⟩)
  rw [List.length_map, List.length_map] at h1
  have := okTree_len h.okx
  omega
theorem laidL_len (h : PutWell D.tree path v X) : (laidL X path).length ≤ 1000 := by
  have := okTree_len h.okx
  have h2 := List.length_filter_le (fun x : Node => within x.p (str path)) X
  unfold laidL
  omega
/-- all that is kept of a disk -/
structure Fine (D : PDisk) (n : Nat) : Prop where
  ok : Ok D n
  good : Good D
  light : Light D
theorem Fine.edit {e : EditP} (h : Fine D n) (hv : Fits e.value) : Fine (D.edit e) (n + 1001) := by
  rcases putR_cases D.tree e.path e.value with ⟨h0, -⟩ | ⟨h0, hw⟩
  · have : D.edit e = D := by unfold PDisk.edit; rw [if_pos h0]
    rw [this]
    exact ⟨PDisk.ok_mono h.ok (by omega), h.good, h.light⟩
  · have hfit := putR_fits (path := e.path) (h.light.fits h.ok) hv
    generalize hX : (putR D.tree e.path e.value).1 = X at hw hfit
    have hE : D.edit e = { D.editN e.path X with later := (D.editN e.path X).later ++ [(D.editN e.path X).names] } := by
      unfold PDisk.edit
      rw [if_neg (by rw [h0]; decide), hX]
    have hc := edit_closed hw
    have hs := laid_same e.path X { D with names := D.names.filter fun y => !within (str y.1) (str e.path) }
    have hclk := (laid_few e.path X { D with names := D.names.filter fun y => !within (str y.1) (str e.path) }).2.2
    have e1 : (D.editN e.path X).later = D.later := hs.1
    have e2 : (D.editN e.path X).safe = D.safe := hs.2.1
    have e3 : (D.editN e.path X).trace = D.trace := hs.2.2.1
    have e4 : (D.editN e.path X).fates = D.fates := hs.2.2.2.2.1
    have e5 : (D.editN e.path X).clock = D.clock := hclk
    have hil : (D.editN e.path X).inos.length = D.inos.length + (laidL X e.path).length := by rw [hc.2]; simp
    have hll := laidL_len hw
    have hap := edit_apart h.good.names hw
    have hnk : NOk (D.editN e.path X).inos.length (D.editN e.path X).names := fun x => by
      rw [hil, hc.1, (hasN_app _ _ _).1, (hasN_app _ _ _).2]
      obtain ⟨l1, l2⟩ := nmOf_look (laidL X e.path) D.inos.length x
      have hkk : hasN (keptN D e.path) x = true → lookN (keptN D e.path) x = lookN D.names x ∧ hasN D.names x = true := fun hh => by
        obtain ⟨y, hy, rfl⟩ := (hasN_iff _ _).1 hh
        have hy2 := (keptN_not hy).1
        exact ⟨(show lookN (keptN D e.path) y.1 = y.2 from lookN_mem (List.Pairwise.filter _ h.good.names) hy).trans (lookN_mem h.good.names hy2).symm, (hasN_iff _ _).2 ⟨y, hy2, rfl⟩⟩
      cases hh : hasN (keptN D e.path) x
      · rw [if_neg (by decide), Bool.false_or]
        refine ⟨by omega, fun h5 => ⟨by have := l2 h5; omega, ?_⟩⟩
        obtain ⟨y, hy, rfl⟩ := (nmOf_has _ _ _).1 h5
        have := okPath_size (okTree_path hw.okx (List.mem_filter.1 hy).1)
        rw [show y.p = str y.path from rfl, str_size] at this
        exact this
      · obtain ⟨h6, h7⟩ := hkk hh
        rw [if_pos rfl, h6]
        obtain ⟨h8, h9⟩ := h.ok.names x
        exact ⟨by omega, fun _ => h9 h7⟩
    have hnl := edit_names_len h.ok h.good.names hw
    have hks := edit_KS hw
    have hT : TreeL (D.editN e.path X) (D.editN e.path X).names := fun x hx => by
      obtain ⟨y, hy, ey⟩ := edit_sub h.ok h.good.names hw hx
      rw [← ey]
      refine ⟨okTree_path hw.okx hy, fun q h1 h2 h3 => ?_⟩
      obtain ⟨m, hm, h4, h5⟩ := new_climb hw.okx h1 _ y hy (Nat.le_refl _) h2 h3
      obtain ⟨m', h6, h7⟩ := edit_at h.ok h.good.names hw hm
      rw [h4] at h6
      exact ⟨m', h6, h7.trans h5⟩
    rw [hE]
    refine ⟨?_, ?_, ?_⟩
    · refine ⟨hnk, ?_, fun l hl => ?_, ?_, ?_, ?_, ?_, ?_, hnl, ?_, fun l hl => ?_⟩
      · show NOk (D.editN e.path X).inos.length (D.editN e.path X).safe
        rw [e2, hil]; exact h.ok.safe.mono (by omega)
      · show NOk (D.editN e.path X).inos.length l
        rcases List.mem_append.1 (show l ∈ (D.editN e.path X).later ++ [(D.editN e.path X).names] from hl) with hl | hl
        · rw [e1] at hl; rw [hil]; exact (h.ok.later l hl).mono (by omega)
        · simp at hl; subst hl; exact hnk
      · show ((D.editN e.path X).later ++ [_]).length ≤ _
        rw [e1, List.length_append]
        have := h.ok.llen
        simp; omega
      · show (D.editN e.path X).inos.length ≤ _
        rw [hil]
        have := h.ok.inos
        omega
      · show (D.editN e.path X).trace.length ≤ _
        rw [e3]; have := h.ok.tlen; omega
      · show (D.editN e.path X).clock ≤ _
        rw [e5]; have := h.ok.clock; omega
      · show (D.editN e.path X).fates.length ≤ _
        rw [e4]; exact h.ok.fates
      · show (D.editN e.path X).safe.length ≤ _
        rw [e2]; exact h.ok.slen
      · rcases List.mem_append.1 (show l ∈ (D.editN e.path X).later ++ [(D.editN e.path X).names] from hl) with hl | hl
        · rw [e1] at hl; exact h.ok.llens l hl
        · simp at hl; subst hl; exact hnl
    · refine ⟨⟨hT.mono (KS.of_inos rfl), ?_, fun l hl => ?_⟩, hap, ?_, fun l hl => ?_⟩
      · show TreeL _ (D.editN e.path X).safe
        rw [e2]
        exact (h.good.tree.safe.mono hks).mono (KS.of_inos rfl)
      · rcases List.mem_append.1 (show l ∈ (D.editN e.path X).later ++ [(D.editN e.path X).names] from hl) with hl | hl
        · rw [e1] at hl; exact ((h.good.tree.later l hl).mono hks).mono (KS.of_inos rfl)
        · simp at hl; subst hl; exact hT.mono (KS.of_inos rfl)
      · show Apart (D.editN e.path X).safe
        rw [e2]; exact h.good.safe
      · rcases List.mem_append.1 (show l ∈ (D.editN e.path X).later ++ [(D.editN e.path X).names] from hl) with hl | hl
        · rw [e1] at hl; exact h.good.later l hl
        · simp at hl; subst hl; exact hap
    · intro m hm
      rw [show ({ D.editN e.path X with later := (D.editN e.path X).later ++ [(D.editN e.path X).names] } : PDisk).inos = D.inos ++ (laidL X e.path).map fun x => (⟨x, (D.clock : Int) + 1, false⟩ : Ino) from hc.2] at hm
      rcases List.mem_append.1 hm with hm | hm
      · exact h.light m hm
      · obtain ⟨y, hy, rfl⟩ := List.mem_map.1 hm
        exact (hfit y (List.mem_filter.1 hy).1).2
end
/-- what each edit costs -/
theorem Fine.edits (t : Int) : ∀ (es : List EditP) (D : PDisk) (n : Nat), Fine D n → (∀ e ∈ es, Fits e.value) → Fine (es.foldl (fun E e => if e.at_ = t then E.edit e else E) D) (n + 1001 * es.length)
  | [], D, n, h, _ => h
  | e :: es, D, n, h, hv => by
    rw [List.foldl_cons]
    have hm : ∀ {k m : Nat} {E : PDisk}, Fine E k → k ≤ m → Fine E m := fun h hk => ⟨PDisk.ok_mono h.ok hk, h.good, h.light⟩
    by_cases he : e.at_ = t
    · rw [if_pos he]
      refine hm (Fine.edits t es _ _ (h.edit (hv e (List.mem_cons_self ..))) (fun x hx => hv x (List.mem_cons_of_mem _ hx))) ?_
      simp only [List.length_cons]; omega
    · rw [if_neg he]
      refine hm (Fine.edits t es _ _ h (fun x hx => hv x (List.mem_cons_of_mem _ hx))) ?_
      simp only [List.length_cons]; omega
theorem Fine.mono {D : PDisk} {n m : Nat} (h : Fine D n) (hm : n ≤ m) : Fine D m := ⟨PDisk.ok_mono h.ok hm, h.good, h.light⟩
theorem Fine.editTo {D : PDisk} {n : Nat} (h : Fine D n) (hv : ∀ e ∈ D.edits, Fits e.value) (i : Nat) : Fine (D.editTo i) (n + 1001 * D.edits.length) := by
  refine (Fine.edits (D.trace.length : Int) (D.edits.take i) D n h (fun e he => hv e (List.mem_of_mem_take he))).mono ?_
  have : (D.edits.take i).length ≤ D.edits.length := by rw [List.length_take]; omega
  have := Nat.mul_le_mul_left 1001 this
  omega
theorem Fine.eok {D : PDisk} {n : Nat} (h : Fine D n) (hv : ∀ e ∈ D.edits, Fits e.value) : EditsOk D (n + 1001 * D.edits.length) := ⟨fun i => (h.editTo hv i).ok, fun i _ => (h.editTo hv i).light⟩
theorem Fine.edited {D : PDisk} {n : Nat} (h : Fine D n) (hv : ∀ e ∈ D.edits, Fits e.value) : Fine D.edited (n + 1001 * D.edits.length) := by
  cases ho : D.off
  · rw [edited_eq ho]; exact h.editTo hv _
  · rw [edited_off ho]; exact h.mono (by omega)
end Go.Proofs.YtgcfkljooabjjaaGreatDoor

/- A disk without fates stays on; to ask changes nothing that is asked for. Conditions: none beyond what each lemma states. -/
namespace Go.Proofs.YtgcfkljooabjjaaGreatDoor
open Go.RowKit Go.Op Go.Maps

structure Calm (D : PDisk) : Prop where
  on : D.off = false
  fates : D.fates = []
theorem Calm.call {D : PDisk} (h : Calm D) (c p q : ByteArray) (k : PDisk → Bool → Int × PDisk) (hk : ∀ E full, Calm E → Calm (k E full).2) : Calm (D.call c p q k).2 := by
  rw [call_run (step_free c p q h.on h.fates)]
  exact hk _ _ ⟨h.on, h.fates⟩
theorem Calm.lay {D : PDisk} (h : Calm D) {p : ByteArray} {n : Node} {full : Bool} {l : List (Bool × Int)} : Calm (D.lay p n full l).2 := by
  unfold PDisk.lay
  dsimp only
  split
  · exact h
  · exact ⟨h.on, h.fates⟩
theorem Calm.get {D : PDisk} (h : Calm D) (p : ByteArray) : D.get p = (D.get_ p, D.tick ⟨#[71, 101, 116]⟩ p ⟨#[]⟩) := by
  unfold PDisk.get
  rw [step_free _ _ _ h.on h.fates]
  rfl
theorem Calm.names {D : PDisk} (h : Calm D) (p : ByteArray) : D.namesC p = (D.namesOn p, D.tick ⟨#[78, 97, 109, 101, 115]⟩ p ⟨#[]⟩) := by
  unfold PDisk.namesC
  rw [step_free _ _ _ h.on h.fates]
  rfl
theorem Calm.tick {D : PDisk} (h : Calm D) (c p q : ByteArray) : Calm (D.tick c p q) := ⟨h.on, h.fates⟩
theorem tick_get (D : PDisk) (c p q x : ByteArray) : (D.tick c p q).get_ x = D.get_ x := rfl
theorem tick_names (D : PDisk) (c p q x : ByteArray) : (D.tick c p q).namesOn x = D.namesOn x := rfl
theorem tick_tree (D : PDisk) (c p q : ByteArray) : (D.tick c p q).tree = D.tree := rfl
theorem Calm.ask {D : PDisk} (h : Calm D) (c : CallP) : Calm (askD D c) := by
  unfold askD
  split
  · refine h.call _ _ _ _ fun E full hE => ?_
    unfold PDisk.write_
    cases hat : E.at_ c.path with
    | none => exact hE.lay
    | some o =>
      dsimp only
      split
      · exact hE
      · exact ⟨hE.on, hE.fates⟩
  split
  · exact h.call _ _ _ _ fun E full hE => hE.lay
  split
  · exact h.call _ _ _ _ fun E full hE => hE.lay
  split
  · refine h.call _ _ _ _ fun E full hE => ?_
    unfold PDisk.remove_
    dsimp only
    split
    · exact hE
    · exact ⟨hE.on, hE.fates⟩
  split
  · refine h.call _ _ _ _ fun E full hE => ?_
    unfold PDisk.move_
    dsimp only
    split
    · exact hE
    · split
      · exact hE
      · exact ⟨hE.on, hE.fates⟩
  split
  · refine h.call _ _ _ _ fun E full hE => ?_
    unfold PDisk.replace_
    dsimp only
    split
    · exact hE
    · exact ⟨hE.on, hE.fates⟩
  split
  · refine h.call _ _ _ _ fun E full hE => ?_
    unfold PDisk.sync_
    dsimp only
    split
    · exact hE
    · split
      · exact hE
      · exact ⟨hE.on, hE.fates⟩
  split
  · exact h.call _ _ _ _ fun E full hE => ⟨hE.on, hE.fates⟩
  split
  · rw [h.get]; exact h.tick _ _ _
  split
  · rw [h.names]; exact h.tick _ _ _
  split
  · exact ⟨rfl, rfl⟩
  · exact h
end Go.Proofs.YtgcfkljooabjjaaGreatDoor

/- Get and Names in a run: what was made since the disk's last call is kept. Conditions: what each contract states. -/
namespace Go.Proofs.YtgcfkljooabjjaaGreatDoor
open Go.RowKit Go.Op Go.Maps

/-- all blocks that were made since the world wr -/
def KeptK (wr w w' : World) : Prop := ∀ b, wr.heap.size ≤ b → b < w.heap.size → w'.heap[b]? = w.heap[b]?
theorem KeptK.of {wr w w' : World} {p n n' : Nat} {D D' : PDisk} {G : Geo} (h1 : DS wr p G D n) (hT : DSTo w p G.parts w' D' n') : KeptK wr w w' := fun b hb hlt => by
  obtain ⟨G2, -, ho, -⟩ := hT
  refine ho.block b hlt (fun hm => ?_)
  rcases List.mem_cons.1 hm with rfl | hm
  · have := h1.m.blk.lt; omega
  · have := h1.m.parts.lt hm; omega
theorem KeptK.row {wr w w' : World} {base e sz n : Nat} {v : Value} {xs : List Value} (h : KeptK wr w w') (hr : w.ownsRow base e sz v n xs) (hb : wr.heap.size ≤ base) : w'.ownsRow base e sz v n xs := by
  refine ⟨hr.1, ?_⟩
  rcases hr.2 with h1 | ⟨g, cap, cur, h1, h2, h3, h4⟩
  · exact .inl h1
  · exact .inr ⟨g, cap, cur, h1, h2, (h g (Nat.le_trans hb h2) (Array.getElem?_eq_some_iff.1 h3).1).trans h3, h4⟩
theorem run_get2 {w0 wr w : World} {p n : Nat} {D : PDisk} (h : Run w0 wr p D n) (hof : Off [] wr w) (hn : n ≤ 1000000) (path : ByteArray) (hs : path.size ≤ 9223372036854775807) :
    Calls Tryz.prog 20 #[.pointer (some ⟨p, 0, none⟩), .string path] w fun e w' => e = .returned (getVal (D.get path).1) ∧ Run w0 w' p (D.get path).2 (n + 1) ∧ KeptK wr w w' := by
  obtain ⟨G, h1, h2, h3, h4⟩ := h
  exact (dget_call p n G D path w (h1.off hof) hn hs).mono fun e w' ⟨he, hT⟩ => ⟨he, Run.next (h2.trans_nil hof) h3 h4 hT, KeptK.of h1 hT⟩
theorem run_names {w0 wr w : World} {p n : Nat} {D : PDisk} (h : Run w0 wr p D n) (hof : Off [] wr w) (hn : n ≤ 900000) (path : ByteArray) (hs : path.size ≤ 9223372036854775807) (hF : Light D) :
    Calls Tryz.prog 37 #[.pointer (some ⟨p, 0, none⟩), .string path] w fun e w' => ∃ v wm, e = .returned (.tuple #[v, .int .i64 (D.namesC path).1.2]) ∧ w'.ownsRow wm.heap.size 9 1 v (D.namesC path).1.1.length ((D.namesC path).1.1.map Value.string) ∧ Run w0 wm p (D.namesC path).2 (n + 1) ∧ Off [] wm w' ∧ KeptK wr w w' := by
  obtain ⟨G, h1, h2, h3, h4⟩ := h
  refine (dnames_call p n G D path w (h1.off hof) hn hs hF).mono fun e w' ⟨v, wm, he, hr, hT, ho⟩ => ⟨v, wm, he, hr, Run.next (h2.trans_nil hof) h3 h4 hT, ho, fun b hb hlt => ?_⟩
  have hk := KeptK.of h1 hT b hb hlt
  have hsz : w.heap.size ≤ wm.heap.size := by
    obtain ⟨G2, -, ho2, -⟩ := hT
    exact ho2.size
  rw [ho.block b (by omega) (by simp), hk]
end Go.Proofs.YtgcfkljooabjjaaGreatDoor

/- A disk in a run, with blocks that are none of its own: they are kept by every call. Conditions: what each contract states. -/
namespace Go.Proofs.YtgcfkljooabjjaaGreatDoor
open Go.RowKit Go.Op Go.Maps

/-- a disk that was made since the world w0; the listed blocks are none of its parts -/
def RunP (w0 w : World) (p : Nat) (D : PDisk) (n : Nat) (k : List Nat) : Prop :=
  ∃ G, DS w p G D n ∧ Off [] w0 w ∧ w0.heap.size ≤ p ∧ (∀ b ∈ G.parts, w0.heap.size ≤ b) ∧ ∀ b ∈ k, b < w.heap.size ∧ b ∉ p :: G.parts
/-- listed blocks that are as they were -/
def Kept (k : List Nat) (w w' : World) : Prop := ∀ b ∈ k, w'.heap[b]? = w.heap[b]?
section
variable {w0 wr w w' : World} {p n : Nat} {D : PDisk} {k : List Nat}
theorem RunP.run (h : RunP w0 w p D n k) : Run w0 w p D n := by
  obtain ⟨G, h1, h2, h3, h4, -⟩ := h
  exact ⟨G, h1, h2, h3, h4⟩
theorem Run.keep (h : Run w0 wr p D n) (ho : Off [] wr w) (hk : ∀ b ∈ k, wr.heap.size ≤ b ∧ b < w.heap.size) : RunP w0 w p D n k := by
  obtain ⟨G, h1, h2, h3, h4⟩ := h
  refine ⟨G, h1.off ho, h2.trans_nil ho, h3, h4, fun b hb => ⟨(hk b hb).2, fun hm => ?_⟩⟩
  have h5 := (hk b hb).1
  rcases List.mem_cons.1 hm with rfl | hm
  · have := h1.m.blk.lt; omega
  · have := h1.m.parts.lt hm; omega
theorem RunP.more {k' : List Nat} (h : RunP w0 wr p D n k) (ho : Off [] wr w) (hk : ∀ b ∈ k', wr.heap.size ≤ b ∧ b < w.heap.size) : RunP w0 w p D n (k' ++ k) := by
  obtain ⟨G, h1, h2, h3, h4, h5⟩ := h
  refine ⟨G, h1.off ho, h2.trans_nil ho, h3, h4, fun b hb => ?_⟩
  rcases List.mem_append.1 hb with hb | hb
  · refine ⟨(hk b hb).2, fun hm => ?_⟩
    have h6 := (hk b hb).1
    rcases List.mem_cons.1 hm with rfl | hm
    · have := h1.m.blk.lt; omega
    · have := h1.m.parts.lt hm; omega
  · have h6 := h5 b hb
    exact ⟨Nat.lt_of_lt_of_le h6.1 ho.size, h6.2⟩
theorem RunP.off (h : RunP w0 w p D n k) (ho : Off [] w w') : RunP w0 w' p D n k := by
  have := h.more (k' := []) ho (fun b hb => by cases hb)
  exact this
theorem RunP.since (h : RunP w0 w p D n k) : Off [] w0 w := h.run.since
theorem RunP.le {m : Nat} (h : RunP w0 w p D n k) (hm : n ≤ m) : RunP w0 w p D m k := by
  obtain ⟨G, h1, h2⟩ := h
  exact ⟨G, ⟨h1.m, h1.sb, PDisk.ok_mono h1.ok hm, h1.tabs, h1.quiet⟩, h2⟩
theorem RunP.ok (h : RunP w0 w p D n k) : Ok D n := by obtain ⟨G, h1, -⟩ := h; exact h1.ok
theorem Run.ok (h : Run w0 w p D n) : Ok D n := by obtain ⟨G, h1, -⟩ := h; exact h1.ok
/-- fewer blocks -/
theorem RunP.drop {k' : List Nat} (h : RunP w0 w p D n k) (hk : ∀ b ∈ k', b ∈ k) : RunP w0 w p D n k' := by
  obtain ⟨G, h1, h2, h3, h4, h5⟩ := h
  exact ⟨G, h1, h2, h3, h4, fun b hb => h5 b (hk b hb)⟩
theorem RunP.to_ {G : Geo} {D' : PDisk} {n' : Nat} (h1 : DS w p G D n) (h2 : Off [] w0 w) (h3 : w0.heap.size ≤ p) (h4 : ∀ b ∈ G.parts, w0.heap.size ≤ b) (h5 : ∀ b ∈ k, b < w.heap.size ∧ b ∉ p :: G.parts) (hT : DSTo w p G.parts w' D' n') : RunP w0 w' p D' n' k ∧ Kept k w w' := by
  obtain ⟨G', h6, h7, h8, h9⟩ := Run.next h2 h3 h4 hT
  obtain ⟨G2, k1, k2, k3⟩ := hT
  refine ⟨⟨G2, k1, h7, h8, fun b hb => ?_, fun b hb => ?_⟩, fun b hb => k2.block b (h5 b hb).1 (h5 b hb).2⟩
  · rcases k3 b hb with h | h
    · exact h4 b h
    · exact Nat.le_trans h2.size h
  · obtain ⟨a1, a2⟩ := h5 b hb
    refine ⟨Nat.lt_of_lt_of_le a1 k2.size, fun hm => ?_⟩
    rcases List.mem_cons.1 hm with rfl | hm
    · exact a2 (List.mem_cons_self ..)
    · rcases k3 b hm with h | h
      · exact a2 (List.mem_cons_of_mem _ h)
      · omega
/-- a call of the disk -/
theorem RunP.call {f : FuncId} {args : Array Value} {R : Ending → Prop} {D' : PDisk} {n' : Nat} (h : RunP w0 w p D n k) (hc : ∀ G, DS w p G D n → Calls Tryz.prog f args w fun e w' => R e ∧ DSTo w p G.parts w' D' n') :
    Calls Tryz.prog f args w fun e w' => R e ∧ RunP w0 w' p D' n' k ∧ Kept k w w' := by
  obtain ⟨G, h1, h2, h3, h4, h5⟩ := h
  exact (hc G h1).mono fun e w' ⟨he, hT⟩ => ⟨he, RunP.to_ h1 h2 h3 h4 h5 hT⟩
theorem Kept.blk {b : Nat} {t : TypeId} {cs : Array Value} (h : Kept k w w') (hB : Blk w b t cs) (hb : b ∈ k) : Blk w' b t cs := by
  unfold Blk at hB ⊢
  rw [h b hb]; exact hB
theorem Kept.row {base e sz m : Nat} {v : Value} {xs : List Value} (h : Kept k w w') (hr : w.ownsRow base e sz v m xs) (hb : ∀ b ∈ v.ownBlock.toList, b ∈ k) : w'.ownsRow base e sz v m xs := by
  refine ⟨hr.1, ?_⟩
  rcases hr.2 with h1 | ⟨g, cap, cur, h1, h2, h3, h4⟩
  · exact .inl h1
  · exact .inr ⟨g, cap, cur, h1, h2, (h g (hb g (by rw [h1]; simp [Value.ownBlock]))).trans h3, h4⟩
theorem Kept.trans {w2 : World} (h : Kept k w w') (h2 : Kept k w' w2) : Kept k w w2 := fun b hb => (h2 b hb).trans (h b hb)
theorem own_made {base e sz m : Nat} {v : Value} {xs : List Value} (hr : w.ownsRow base e sz v m xs) : ∀ b ∈ v.ownBlock.toList, base ≤ b ∧ b < w.heap.size := by
  rcases hr.2 with ⟨rfl, _⟩ | ⟨g, cap, cur, rfl, h2, h3, h4⟩
  · intro b hb; simp [Value.ownBlock] at hb
  · intro b hb
    simp [Value.ownBlock] at hb
    subst hb
    exact ⟨h2, (Array.getElem?_eq_some_iff.1 h3).1⟩
theorem runP_get (h : RunP w0 w p D n k) (hn : n ≤ 1000000) (path : ByteArray) (hs : path.size ≤ 9223372036854775807) :
    Calls Tryz.prog 20 #[.pointer (some ⟨p, 0, none⟩), .string path] w fun e w' => e = .returned (getVal (D.get path).1) ∧ RunP w0 w' p (D.get path).2 (n + 1) k ∧ Kept k w w' :=
  h.call fun G hG => dget_call p n G D path w hG hn hs
theorem runP_sync (h : RunP w0 w p D n k) (hn : n ≤ 1000000) (path : ByteArray) (hs : path.size ≤ 9223372036854775807) :
    Calls Tryz.prog 17 #[.pointer (some ⟨p, 0, none⟩), .string path] w fun e w' => e = .returned (.int .i64 (D.sync path).1) ∧ RunP w0 w' p (D.sync path).2 (n + 2) k ∧ Kept k w w' :=
  h.call fun G hG => dsync_call p n G D path w hG hn hs
theorem runP_flush (h : RunP w0 w p D n k) (hn : n ≤ 1000000) :
    Calls Tryz.prog 19 #[.pointer (some ⟨p, 0, none⟩)] w fun e w' => e = .returned (.int .i64 D.flush.1) ∧ RunP w0 w' p D.flush.2 (n + 2) k ∧ Kept k w w' :=
  h.call fun G hG => flush_call p n G D w hG hn
theorem runP_boot (h : RunP w0 w p D n k) (fp : Option Addr) (fs : List FateP) (nf c : Nat) (hF : FRow w fp fs) (hn : fs.length = nf) (hb : nf ≤ 4398046511103) (hpn : fp = none → fs = []) :
    Calls Tryz.prog 15 #[.pointer (some ⟨p, 0, none⟩), .slice fp nf c, .slice none 0 0] w fun e w' => e = .returned (.tuple #[]) ∧ RunP w0 w' p (D.boot fs) n k ∧ Kept k w w' :=
  h.call fun G hG => dboot_call p n G D fp fs nf c w hG hF hn hb hpn
theorem runP_names (h : RunP w0 w p D n k) (hn : n ≤ 900000) (path : ByteArray) (hs : path.size ≤ 9223372036854775807) (hF : Light D) :
    Calls Tryz.prog 37 #[.pointer (some ⟨p, 0, none⟩), .string path] w fun e w' => ∃ v wm, e = .returned (.tuple #[v, .int .i64 (D.namesC path).1.2]) ∧ w'.ownsRow wm.heap.size 9 1 v (D.namesC path).1.1.length ((D.namesC path).1.1.map Value.string) ∧ RunP w0 wm p (D.namesC path).2 (n + 1) k ∧ Off [] wm w' ∧ Kept k w w' := by
  obtain ⟨G, h1, h2, h3, h4, h5⟩ := h
  refine (dnames_call p n G D path w h1 hn hs hF).mono fun e w' ⟨v, wm, he, hr, hT, ho⟩ => ?_
  obtain ⟨a1, a2⟩ := RunP.to_ (k := k) h1 h2 h3 h4 h5 hT
  refine ⟨v, wm, he, hr, a1, ho, fun b hb => ?_⟩
  obtain ⟨G', -, -, -, -, c5⟩ := a1
  rw [ho.block b (c5 b hb).1 (by simp), a2 b hb]
theorem runP_ask (h : RunP w0 w p D n k) (hn : n ≤ 80000) (hF : Light D) (c : CallP) (hs1 : c.path.size ≤ 9223372036854775807) (hs2 : c.to_.size ≤ 9223372036854775807)
    (hfr : ∀ E, (D.step ⟨#[77, 111, 118, 101]⟩ c.path c.to_).2.2 = E → firstE (E.mvE c.path c.to_) = 0 → Free c.path c.to_ E.names) :
    Calls Tryz.prog 35 #[.pointer (some ⟨p, 0, none⟩), .agg #[.int .i64 c.what, .string c.path, .string c.to_, .string c.data, .int .i64 c.mode]] w fun e w' => (∃ v, e = .returned v) ∧ RunP w0 w' p (askD D c) (n + 2) k ∧ Kept k w w' :=
  h.call fun G hG => ask_on p n G D c w hG hn hF hs1 hs2 hfr
theorem runP_on (h : RunP w0 w p D n k) : Calls Tryz.prog 36 #[.pointer (some ⟨p, 0, none⟩)] w fun e w' => e = .returned (.bool (!D.off)) ∧ RunP w0 w' p D n k ∧ Off [] w w' := by
  have h' := h
  obtain ⟨G, h1, h2⟩ := h
  exact (don_any p G D w h1.m).mono fun e w' ⟨he, ho⟩ => ⟨he, h'.off ho, ho⟩
theorem runP_tree (h : RunP w0 w p D n k) (hn : n ≤ 1000000) : Calls Tryz.prog 24 #[.pointer (some ⟨p, 0, none⟩)] w fun e w' => ∃ v, e = .returned v ∧ w'.ownsRow w.heap.size 30 4 v D.tree.length (cellsOf D.tree) ∧ Off [] w w' ∧ RunP w0 w' p D n (v.ownBlock.toList ++ k) := by
  have h' := h
  obtain ⟨G, h1, h2⟩ := h
  exact (dtree_call p n G D w h1 hn).mono fun e w' ⟨v, he, hr, ho⟩ => ⟨v, he, hr, ho, h'.more ho (own_made hr)⟩
end
end Go.Proofs.YtgcfkljooabjjaaGreatDoor

/- Where a stamp is the same so is what stands there: the plain law. Conditions: none beyond what each lemma states. -/
namespace Go.Proofs.YtgcfkljooabjjaaGreatDoor
open Go.RowKit Go.Op Go.Maps

/-- what was seen of a path -/
structure SeenP where
  n : Node
  ino : Int
  size : Int
  time : Int
/-- an inode is as it was, or torn -/
def Same4 (m' m : Ino) : Prop := m'.time = m.time ∧ m'.node.kind = m.node.kind ∧ m'.node.mode = m.node.mode ∧ str m'.node.data <+: str m.node.data
def AgeOk (D : PDisk) : Prop := ∀ m ∈ D.inos, m.time ≤ D.clock
def SeenIn (D : PDisk) (x : SeenP) : Prop :=
  x.size = x.n.data.size ∧ x.time ≤ D.clock ∧ ∃ (i : Nat) (m : Ino), x.ino = i ∧ D.inode i = some m ∧ ((m.time = x.time ∧ m.node.kind = x.n.kind ∧ m.node.mode = x.n.mode ∧ str m.node.data <+: str x.n.data) ∨ x.time < m.time)
/-- from a disk to a later one -/
structure Nx (D E : PDisk) : Prop where
  clock : D.clock ≤ E.clock
  inos : ∀ i m, D.inode i = some m → ∃ m', E.inode i = some m' ∧ (Same4 m' m ∨ (D.clock : Int) < m'.time)
theorem Same4.refl (m : Ino) : Same4 m m := ⟨rfl, rfl, rfl, List.prefix_refl _⟩
theorem Same4.trans {a b c : Ino} (h : Same4 a b) (k : Same4 b c) : Same4 a c := ⟨h.1.trans k.1, h.2.1.trans k.2.1, h.2.2.1.trans k.2.2.1, h.2.2.2.trans k.2.2.2⟩
theorem Nx.refl (D : PDisk) : Nx D D := ⟨Nat.le_refl _, fun i m h => ⟨m, h, .inl (Same4.refl m)⟩⟩
theorem Nx.trans {D E F : PDisk} (h : Nx D E) (k : Nx E F) : Nx D F := ⟨Nat.le_trans h.clock k.clock, fun i m hm => by
  obtain ⟨m1, h1, h2⟩ := h.inos i m hm
  obtain ⟨m2, k1, k2⟩ := k.inos i m1 h1
  refine ⟨m2, k1, ?_⟩
  have hc := h.clock
  rcases k2 with k2 | k2
  · rcases h2 with h2 | h2
    · exact .inl (k2.trans h2)
    · exact .inr (by rw [k2.1]; exact h2)
  · exact .inr (by omega)⟩
theorem SeenIn.next {D E : PDisk} {x : SeenP} (h : SeenIn D x) (k : Nx D E) : SeenIn E x := by
  obtain ⟨h1, h2, i, m, h3, h4, h5⟩ := h
  obtain ⟨m', k1, k2⟩ := k.inos i m h4
  have hc := k.clock
  refine ⟨h1, by omega, i, m', h3, k1, ?_⟩
  rcases k2 with ⟨a1, a2, a3, a4⟩ | k2
  · rcases h5 with ⟨b1, b2, b3, b4⟩ | h5
    · exact .inl ⟨a1.trans b1, a2.trans b2, a3.trans b3, a4.trans b4⟩
    · exact .inr (by rw [a1]; exact h5)
  · exact .inr (by omega)
/-- the same inodes -/
theorem Nx.same {D F H : PDisk} (h : Nx D F) (hi : H.inos = F.inos) (hc : F.clock ≤ H.clock) : Nx D H := ⟨Nat.le_trans h.clock hc, fun i m hm => by
  obtain ⟨m', h1, h2⟩ := h.inos i m hm
  exact ⟨m', by rw [inode_of hi]; exact h1, h2⟩⟩
theorem Nx.app {D F H : PDisk} {l : List Ino} (h : Nx D F) (hi : H.inos = F.inos ++ l) (hc : F.clock ≤ H.clock) : Nx D H := ⟨Nat.le_trans h.clock hc, fun i m hm => by
  obtain ⟨m', h1, h2⟩ := h.inos i m hm
  exact ⟨m', by rw [inode_of (E := H) (D := { F with inos := F.inos ++ l }) hi]; exact inode_app h1, h2⟩⟩
theorem inode_setx {D : PDisk} {j : Nat} {x : Ino} {i : Nat} {m : Ino} (h : D.inode i = some m) : ({ D with inos := D.inos.set j x } : PDisk).inode i = some m ∨ (i = j + 1 ∧ ({ D with inos := D.inos.set j x } : PDisk).inode i = some x) := by
  unfold PDisk.inode at h ⊢
  split at h
  · cases h
  · rename_i h0
    rw [if_neg h0]
    dsimp only
    rw [List.getElem?_set]
    have hl := (List.getElem?_eq_some_iff.1 h).1
    by_cases e : j = i - 1
    · right
      rw [if_pos e, if_pos (by omega)]
      exact ⟨by omega, rfl⟩
    · left
      rw [if_neg e]; exact h
theorem Nx.set {D F H : PDisk} {j : Nat} {x : Ino} (h : Nx D F) (hi : H.inos = F.inos.set j x) (hc : F.clock ≤ H.clock) (hx : (D.clock : Int) < x.time ∨ F.inode (j + 1) = none ∨ ∃ m, F.inode (j + 1) = some m ∧ Same4 x m) : Nx D H := ⟨Nat.le_trans h.clock hc, fun i m hm => by
  obtain ⟨m', h1, h2⟩ := h.inos i m hm
  rw [inode_of (E := H) (D := { F with inos := F.inos.set j x }) hi]
  rcases inode_setx (j := j) (x := x) h1 with h3 | ⟨h3, h4⟩
  · exact ⟨m', h3, h2⟩
  · refine ⟨x, h4, ?_⟩
    rcases hx with hx | hx | ⟨m1, h5, h6⟩
    · exact .inr hx
    · rw [← h3, h1] at hx; cases hx
    · rw [← h3, h1] at h5
      cases h5
      rcases h2 with h2 | h2
      · exact .inl (h6.trans h2)
      · exact .inr (by rw [h6.1]; exact h2)⟩
theorem tear_same (t : Int) (m : Ino) : Same4 (PDisk.tear t m) m := by
  unfold PDisk.tear
  split
  · refine ⟨rfl, rfl, rfl, ?_⟩
    show str (m.node.data.extract 0 _) <+: str m.node.data
    rw [str_extract, List.drop_zero]
    exact List.take_prefix _ _
  · exact Same4.refl m
theorem laid_inos (path : ByteArray) : ∀ (t : List Node) (D : PDisk), ∃ l, (t.foldl (PDisk.laid1 path) D).inos = D.inos ++ l ∧ ∀ m ∈ l, m.time = D.clock + 1
  | [], D => ⟨[], by simp, fun m hm => by cases hm⟩
  | x :: t, D => by
    obtain ⟨l, h1, h2⟩ := laid_inos path t (PDisk.laid1 path D x)
    rw [List.foldl_cons, h1]
    unfold PDisk.laid1 at h2 ⊢
    split
    · rename_i hw
      rw [if_pos hw] at h2
      refine ⟨(⟨x, (D.clock : Int) + 1, false⟩ : Ino) :: l, ?_, fun m hm => ?_⟩
      · show (D.inos ++ [_]) ++ l = _
        rw [List.append_assoc]; rfl
      · rcases List.mem_cons.1 hm with rfl | hm
        · rfl
        · exact h2 m hm
    · rename_i hw
      rw [if_neg hw] at h2
      exact ⟨l, rfl, h2⟩
theorem edit_inos (D : PDisk) (e : EditP) : ∃ l, (D.edit e).inos = D.inos ++ l ∧ ∀ m ∈ l, m.time = D.clock + 1 := by
  unfold PDisk.edit
  split
  · exact ⟨[], by simp, fun m hm => by cases hm⟩
  · exact laid_inos e.path _ { D with names := D.names.filter fun y => !within (str y.1) (str e.path) }
theorem edits_inos (t : Int) : ∀ (es : List EditP) (D : PDisk), ∃ l, (es.foldl (fun E e => if e.at_ = t then E.edit e else E) D).inos = D.inos ++ l ∧ ∀ m ∈ l, m.time = D.clock + 1
  | [], D => ⟨[], by simp, fun m hm => by cases hm⟩
  | e :: es, D => by
    rw [List.foldl_cons]
    by_cases h : e.at_ = t
    · rw [if_pos h]
      obtain ⟨l1, a1, a2⟩ := edits_inos t es (D.edit e)
      obtain ⟨l2, b1, b2⟩ := edit_inos D e
      refine ⟨l2 ++ l1, by rw [a1, b1, List.append_assoc], fun m hm => ?_⟩
      rcases List.mem_append.1 hm with hm | hm
      · exact b2 m hm
      · rw [a2 m hm, (edit_keeps D e).2.2.2.1]
    · rw [if_neg h]
      exact edits_inos t es D
theorem edited_inos (D : PDisk) : ∃ l, D.edited.inos = D.inos ++ l ∧ (∀ m ∈ l, m.time = D.clock + 1) ∧ D.edited.clock = D.clock ∧ (D.off = true → D.edited = D) ∧ D.edited.off = D.off := by
  cases ho : D.off
  · obtain ⟨l, h1, h2⟩ := edits_inos (D.trace.length : Int) D.edits D
    obtain ⟨-, k2, -, k4, -⟩ := edits_keep (D.trace.length : Int) D.edits D
    have he : D.edited = D.edits.foldl (fun E e => if e.at_ = (D.trace.length : Int) then E.edit e else E) D := by unfold PDisk.edited; rw [ho]; rfl
    rw [he]
    exact ⟨l, h1, h2, k4, (fun h => by cases h), k2.trans ho⟩
  · rw [edited_off ho]
    exact ⟨[], by simp, (fun m hm => by cases hm), rfl, fun _ => rfl, ho⟩
/-- a step -/
theorem age_step {D : PDisk} (h : AgeOk D) (c p q : ByteArray) : Nx D (D.edited.step c p q).2.2 ∧ AgeOk (D.edited.step c p q).2.2 ∧ ((D.edited.step c p q).2.1 = 0 → D.clock < (D.edited.step c p q).2.2.clock) := by
  obtain ⟨l, h1, h2, h3, h4, h5⟩ := edited_inos D
  cases ho : D.off
  · generalize hG : D.edited = G at h1 h3 h5
    have hgo : G.off = false := by rw [h5, ho]
    have hage : ∀ m ∈ G.inos, m.time ≤ (D.clock : Int) + 1 := fun m hm => by
      rw [h1] at hm
      rcases List.mem_append.1 hm with hm | hm
      · have := h m hm; omega
      · rw [h2 m hm]; exact Int.le_refl _
    have hT : Nx D { G with clock := G.clock + 1, trace := G.trace ++ [⟨c, p, q⟩] } := (Nx.refl D).app (l := l) h1 (by show D.clock ≤ G.clock + 1; omega)
    have hA : AgeOk { G with clock := G.clock + 1, trace := G.trace ++ [⟨c, p, q⟩] } := fun m hm => by
      have := hage m hm
      show m.time ≤ ((G.clock + 1 : Nat) : Int)
      rw [h3]; omega
    have hcr : ∀ f, Nx D (({ G with clock := G.clock + 1, trace := G.trace ++ [⟨c, p, q⟩] } : PDisk).crash f) ∧ AgeOk (({ G with clock := G.clock + 1, trace := G.trace ++ [⟨c, p, q⟩] } : PDisk).crash f) := fun f => by
      constructor
      · refine ⟨hT.clock, fun i m hm => ?_⟩
        obtain ⟨m', k1, k2⟩ := hT.inos i m hm
        refine ⟨PDisk.tear f.torn m', by rw [crash_inode, k1]; rfl, ?_⟩
        rcases k2 with k2 | k2
        · exact .inl ((tear_same _ _).trans k2)
        · exact .inr (by rw [(tear_same f.torn m').1]; exact k2)
      · intro m hm
        obtain ⟨m0, hm0, rfl⟩ := List.mem_map.1 (show m ∈ G.inos.map (PDisk.tear f.torn) from hm)
        rw [(tear_same f.torn m0).1]
        exact hA m0 hm0
    have hclk : D.clock < G.clock + 1 := by omega
    unfold PDisk.step
    split
    · rename_i hh
      rw [hgo] at hh
      cases hh
    · dsimp only
      split
      · exact ⟨hT, hA, fun _ => hclk⟩
      · split
        · exact ⟨(hcr _).1, (hcr _).2, fun h => by cases h⟩
        · split
          · exact ⟨hT, hA, fun h => by cases h⟩
          · exact ⟨hT, hA, fun _ => hclk⟩
  · rw [h4 ho]
    unfold PDisk.step
    rw [ho, if_pos rfl]
    exact ⟨Nx.refl D, h, fun h => by cases h⟩
/-- a call -/
theorem age_call {D : PDisk} (h : AgeOk D) (c p q : ByteArray) (k : PDisk → Bool → Int × PDisk) (hk : ∀ F full, Nx D F → AgeOk F → D.clock < F.clock → Nx D (k F full).2 ∧ AgeOk (k F full).2) : Nx D (D.edited.call c p q k).2 ∧ AgeOk (D.edited.call c p q k).2 := by
  obtain ⟨h1, h2, h3⟩ := age_step h c p q
  unfold PDisk.call
  generalize D.edited.step c p q = st at h1 h2 h3
  obtain ⟨full, e, F⟩ := st
  dsimp only at h1 h2 h3 ⊢
  split
  · exact ⟨h1, h2⟩
  · rename_i he
    exact hk F full h1 h2 (h3 (by simpa using he))
theorem age_lay {D F : PDisk} (h1 : Nx D F) (h2 : AgeOk F) (p : ByteArray) (n : Node) (full : Bool) (l : List (Bool × Int)) : Nx D (F.lay p n full l).2 ∧ AgeOk (F.lay p n full l).2 := by
  unfold PDisk.lay
  dsimp only
  split
  · exact ⟨h1, h2⟩
  · refine ⟨h1.app (l := [⟨n, F.clock, decide (n.kind = 1)⟩]) rfl (Nat.le_refl _), fun m hm => ?_⟩
    rcases List.mem_append.1 (show m ∈ F.inos ++ [⟨n, F.clock, decide (n.kind = 1)⟩] from hm) with hm | hm
    · exact h2 m hm
    · simp at hm; subst hm; exact Int.le_refl _
theorem age_same {D F H : PDisk} (h1 : Nx D F) (h2 : AgeOk F) (hi : H.inos = F.inos) (hc : H.clock = F.clock) : Nx D H ∧ AgeOk H := ⟨h1.same hi (by omega), fun m hm => by rw [hi] at hm; rw [hc]; exact h2 m hm⟩
theorem age_ask {D : PDisk} (h : AgeOk D) (c : CallP) : Nx D (askE D c).2 ∧ AgeOk (askE D c).2 := by
  unfold askE
  split
  · refine age_call h _ _ _ _ fun F full h1 h2 h3 => ?_
    unfold PDisk.write_
    cases hat : F.at_ c.path with
    | none => exact age_lay h1 h2 _ _ _ _
    | some o =>
      dsimp only
      split
      · exact ⟨h1, h2⟩
      · refine ⟨h1.set (x := ⟨⟨⟨#[]⟩, 1, c.data, c.mode⟩, F.clock, true⟩) rfl (Nat.le_refl _) (.inl (by show (D.clock : Int) < (F.clock : Int); omega)), fun m hm => ?_⟩
        rcases List.mem_or_eq_of_mem_set (show m ∈ F.inos.set (lookN F.names c.path - 1) ⟨⟨⟨#[]⟩, 1, c.data, c.mode⟩, F.clock, true⟩ from hm) with hm | rfl
        · exact h2 m hm
        · exact Int.le_refl _
  split
  · exact age_call h _ _ _ _ fun F full h1 h2 h3 => age_lay h1 h2 _ _ _ _
  split
  · exact age_call h _ _ _ _ fun F full h1 h2 h3 => age_lay h1 h2 _ _ _ _
  split
  · refine age_call h _ _ _ _ fun F full h1 h2 h3 => ?_
    unfold PDisk.remove_
    dsimp only
    split
    · exact ⟨h1, h2⟩
    · exact age_same h1 h2 rfl rfl
  split
  · refine age_call h _ _ _ _ fun F full h1 h2 h3 => ?_
    unfold PDisk.move_
    dsimp only
    split
    · exact ⟨h1, h2⟩
    · split
      · exact ⟨h1, h2⟩
      · exact age_same h1 h2 rfl rfl
  split
  · refine age_call h _ _ _ _ fun F full h1 h2 h3 => ?_
    unfold PDisk.replace_
    dsimp only
    split
    · exact ⟨h1, h2⟩
    · exact age_same h1 h2 rfl rfl
  split
  · refine age_call h _ _ _ _ fun F full h1 h2 h3 => ?_
    unfold PDisk.sync_
    dsimp only
    split
    · exact ⟨h1, h2⟩
    · cases hat : F.at_ c.path with
      | none => exact ⟨h1, h2⟩
      | some o =>
        dsimp only
        have hat2 : F.inode (lookN F.names c.path) = some o := hat
        have h0 : lookN F.names c.path ≠ 0 := fun e => by rw [e] at hat2; unfold PDisk.inode at hat2; rw [if_pos rfl] at hat2; cases hat2
        refine ⟨h1.set (x := { o with dirty := false }) rfl (Nat.le_refl _) (.inr (.inr ⟨o, by rw [show lookN F.names c.path - 1 + 1 = lookN F.names c.path by omega]; exact hat2, ⟨rfl, rfl, rfl, List.prefix_refl _⟩⟩)), fun m hm => ?_⟩
        rcases List.mem_or_eq_of_mem_set (show m ∈ F.inos.set (lookN F.names c.path - 1) { o with dirty := false } from hm) with hm | rfl
        · exact h2 m hm
        · refine h2 o ?_
          unfold PDisk.inode at hat2
          rw [if_neg h0] at hat2
          exact List.mem_of_getElem? hat2
  split
  · exact age_call h _ _ _ _ fun F full h1 h2 h3 => age_same h1 h2 rfl rfl
  split
  · obtain ⟨h1, h2, -⟩ := age_step h ⟨#[71, 101, 116]⟩ c.path ⟨#[]⟩
    dsimp only
    unfold PDisk.get
    generalize D.edited.step ⟨#[71, 101, 116]⟩ c.path ⟨#[]⟩ = st at h1 h2
    obtain ⟨full, e, F⟩ := st
    dsimp only at h1 h2 ⊢
    split <;> exact ⟨h1, h2⟩
  split
  · obtain ⟨h1, h2, -⟩ := age_step h ⟨#[78, 97, 109, 101, 115]⟩ c.path ⟨#[]⟩
    dsimp only
    unfold PDisk.namesC
    generalize D.edited.step ⟨#[78, 97, 109, 101, 115]⟩ c.path ⟨#[]⟩ = st at h1 h2
    obtain ⟨full, e, F⟩ := st
    dsimp only at h1 h2 ⊢
    split <;> exact ⟨h1, h2⟩
  split
  · exact age_same (Nx.refl D) h rfl rfl
  · exact ⟨Nx.refl D, h⟩
/-- what Get finds -/
theorem age_get {D : PDisk} (h : AgeOk D) (p : ByteArray) : Nx D (D.edited.get p).2 ∧ AgeOk (D.edited.get p).2 ∧ (p ≠ ⟨#[]⟩ → (D.edited.get p).1.1 = 0 → ∃ i m, (D.edited.get p).2.inode i = some m ∧ m.time ≤ (D.edited.get p).2.clock ∧ (D.edited.get p).1.2 = ({ m.node with path := p }, (i : Int), (m.node.data.size : Int), m.time)) := by
  obtain ⟨h1, h2, -⟩ := age_step h ⟨#[71, 101, 116]⟩ p ⟨#[]⟩
  unfold PDisk.get
  generalize D.edited.step ⟨#[71, 101, 116]⟩ p ⟨#[]⟩ = st at h1 h2
  obtain ⟨full, e, F⟩ := st
  dsimp only at h1 h2 ⊢
  split
  · rename_i he
    exact ⟨h1, h2, fun _ h => absurd h he⟩
  · refine ⟨h1, h2, fun hp he => ?_⟩
    dsimp only at he ⊢
    unfold PDisk.get_ at he ⊢
    rw [if_neg hp] at he ⊢
    dsimp only at he ⊢
    split at he
    · rename_i h4; exact absurd he h4
    · rename_i h4
      rw [if_neg h4]
      have h5 : (F.at_ p).isNone = false := firstE_zero (l := [PDisk.no p, F.gone p]) (fun y hy => by simp only [List.mem_cons, List.not_mem_nil, or_false] at hy; rcases hy with rfl | rfl <;> simp [PDisk.no, PDisk.gone]) (by simpa using h4) (F.gone p) (by simp)
      cases hat : F.at_ p with
      | none => rw [hat] at h5; cases h5
      | some m =>
        have hat2 : F.inode (lookN F.names p) = some m := hat
        refine ⟨lookN F.names p, m, hat2, ?_, rfl⟩
        refine h2 m ?_
        unfold PDisk.inode at hat2
        split at hat2
        · cases hat2
        · exact List.mem_of_getElem? hat2
theorem seen_new {E : PDisk} {i : Nat} {m : Ino} {p : ByteArray} (h : E.inode i = some m) (ht : m.time ≤ E.clock) : SeenIn E ⟨{ m.node with path := p }, i, m.node.data.size, m.time⟩ := ⟨rfl, ht, i, m, rfl, h, .inl ⟨rfl, rfl, rfl, List.prefix_refl _⟩⟩
/-- the same stamp: the same node -/
theorem seen_same {E : PDisk} {x : SeenP} {i : Nat} {m : Ino} {p : ByteArray} (hx : SeenIn E x) (h : E.inode i = some m) (h1 : x.n.path = p) (h2 : x.ino = i) (h3 : x.size = m.node.data.size) (h4 : x.time = m.time) : x.n = { m.node with path := p } := by
  obtain ⟨k1, -, j, m', k2, k3, k4⟩ := hx
  have hij : j = i := by omega
  subst hij
  rw [h] at k3
  cases k3
  rcases k4 with ⟨a1, a2, a3, a4⟩ | k4
  · have hl : (str m.node.data).length = (str x.n.data).length := by rw [str_size, str_size]; omega
    have hd : m.node.data = x.n.data := str_inj (a4.eq_of_length hl)
    obtain ⟨⟨xp, xk, xd, xm⟩, _, _, _⟩ := x
    dsimp only at h1 a2 a3 hd ⊢
    rw [h1, a2, a3, hd]
  · omega
theorem age_new (t : List Node) : AgeOk (newD t) := fun m hm => by
  obtain ⟨n, _, rfl⟩ := List.mem_map.1 (show m ∈ t.map fun n => (⟨n, 0, false⟩ : Ino) from hm)
  exact Int.le_refl _
end Go.Proofs.YtgcfkljooabjjaaGreatDoor

/- A disk in a run, with edits laid for it; the listed blocks are kept by every call. Conditions: what each contract states. -/
namespace Go.Proofs.YtgcfkljooabjjaaGreatDoor
open Go.RowKit Go.Op Go.Maps

/-- a disk that was made since the world w0; the listed blocks are none of its parts -/
def RunE (w0 w : World) (p : Nat) (D : PDisk) (n : Nat) (k : List Nat) : Prop :=
  ∃ G, DSE w p G D n ∧ Off [] w0 w ∧ w0.heap.size ≤ p ∧ (∀ b ∈ G.parts, w0.heap.size ≤ b) ∧ ∀ b ∈ k, b < w.heap.size ∧ b ∉ p :: G.parts
section
variable {w0 wr w w' : World} {p n : Nat} {D : PDisk} {k : List Nat}
theorem RunP.e (h : RunP w0 w p D n k) : RunE w0 w p D n k := by
  obtain ⟨G, h1, h2⟩ := h
  exact ⟨G, h1.e, h2⟩
theorem Run.e (h : Run w0 w p D n) : RunE w0 w p D n [] := by
  obtain ⟨G, h1, h2, h3, h4⟩ := h
  exact ⟨G, h1.e, h2, h3, h4, fun b hb => by cases hb⟩
theorem RunE.more {k' : List Nat} (h : RunE w0 wr p D n k) (ho : Off [] wr w) (hk : ∀ b ∈ k', wr.heap.size ≤ b ∧ b < w.heap.size) : RunE w0 w p D n (k' ++ k) := by
  obtain ⟨G, h1, h2, h3, h4, h5⟩ := h
  refine ⟨G, h1.off ho, h2.trans_nil ho, h3, h4, fun b hb => ?_⟩
  rcases List.mem_append.1 hb with hb | hb
  · refine ⟨(hk b hb).2, fun hm => ?_⟩
    have h6 := (hk b hb).1
    rcases List.mem_cons.1 hm with rfl | hm
    · have := h1.m.blk.lt; omega
    · have := h1.m.parts.lt hm; omega
  · have h6 := h5 b hb
    exact ⟨Nat.lt_of_lt_of_le h6.1 ho.size, h6.2⟩
theorem RunE.off (h : RunE w0 w p D n k) (ho : Off [] w w') : RunE w0 w' p D n k := h.more (k' := []) ho (fun b hb => by cases hb)
theorem RunE.since (h : RunE w0 w p D n k) : Off [] w0 w := by obtain ⟨_, _, h2, _⟩ := h; exact h2
theorem RunE.le {m : Nat} (h : RunE w0 w p D n k) (hm : n ≤ m) : RunE w0 w p D m k := by
  obtain ⟨G, h1, h2⟩ := h
  exact ⟨G, ⟨h1.m, h1.sb, PDisk.ok_mono h1.ok hm, h1.tabs⟩, h2⟩
theorem RunE.ok (h : RunE w0 w p D n k) : Ok D n := by obtain ⟨G, h1, -⟩ := h; exact h1.ok
theorem RunE.drop {k' : List Nat} (h : RunE w0 w p D n k) (hk : ∀ b ∈ k', b ∈ k) : RunE w0 w p D n k' := by
  obtain ⟨G, h1, h2, h3, h4, h5⟩ := h
  exact ⟨G, h1, h2, h3, h4, fun b hb => h5 b (hk b hb)⟩
theorem RunE.apart (h : RunE w0 w p D n k) : ∀ b ∈ k, b ≠ p := fun b hb e => by
  obtain ⟨G, -, -, -, -, h5⟩ := h
  exact (h5 b hb).2 (by rw [e]; exact List.mem_cons_self ..)
/-- what lies since w0 began lies whatever the disk does -/
theorem RunE.tabs (h : RunE w0 w p D n k) : Tabs w := by obtain ⟨_, h1, _⟩ := h; exact h1.tabs.tabs
theorem RunE.to_ {G : Geo} {D' : PDisk} {n' : Nat} (h1 : DSE w p G D n) (h2 : Off [] w0 w) (h3 : w0.heap.size ≤ p) (h4 : ∀ b ∈ G.parts, w0.heap.size ≤ b) (h5 : ∀ b ∈ k, b < w.heap.size ∧ b ∉ p :: G.parts) (hT : DSETo w p G.parts w' D' n') : RunE w0 w' p D' n' k ∧ Kept k w w' := by
  obtain ⟨G2, k1, k2, k3⟩ := hT
  refine ⟨⟨G2, k1, h2.trans k2 (fun x hx hm => ?_), h3, fun b hb => ?_, fun b hb => ?_⟩, fun b hb => k2.block b (h5 b hb).1 (h5 b hb).2⟩
  · exfalso
    rcases List.mem_cons.1 hm with rfl | hm
    · omega
    · have := h4 x hm; omega
  · rcases k3 b hb with h | h
    · exact h4 b h
    · exact Nat.le_trans h2.size h
  · obtain ⟨a1, a2⟩ := h5 b hb
    refine ⟨Nat.lt_of_lt_of_le a1 k2.size, fun hm => ?_⟩
    rcases List.mem_cons.1 hm with rfl | hm
    · exact a2 (List.mem_cons_self ..)
    · rcases k3 b hm with h | h
      · exact a2 (List.mem_cons_of_mem _ h)
      · omega
/-- a call of the disk -/
theorem RunE.call {f : FuncId} {args : Array Value} {R : Ending → World → Prop} {D' : PDisk} {n' : Nat} (h : RunE w0 w p D n k) (hc : ∀ G, DSE w p G D n → Calls Tryz.prog f args w fun e w' => R e w' ∧ DSETo w p G.parts w' D' n') :
    Calls Tryz.prog f args w fun e w' => R e w' ∧ RunE w0 w' p D' n' k ∧ Kept k w w' := by
  obtain ⟨G, h1, h2, h3, h4, h5⟩ := h
  exact (hc G h1).mono fun e w' ⟨he, hT⟩ => ⟨he, RunE.to_ h1 h2 h3 h4 h5 hT⟩
/-- the edits that are laid are few, and not over-long -/
def EdF (D : PDisk) : Prop := D.edits.length ≤ 4 ∧ ∀ e ∈ D.edits, Fits e.value
theorem EdF.eok (h : EdF D) (hf : Fine D n) : EditsOk D (n + 4004) := ⟨fun i => PDisk.ok_mono ((hf.eok h.2).ok i) (by have := h.1; omega), (hf.eok h.2).light⟩
theorem EdF.edited (h : EdF D) (hf : Fine D n) : Fine D.edited (n + 4004) := (hf.edited h.2).mono (by have := h.1; omega)
theorem runE_ask (h : RunE w0 w p D n k) (hf : Fine D n) (hd : EdF D) (hn : n ≤ 800000) (c : CallP) (hs1 : c.path.size ≤ 9223372036854775807) (hs2 : c.to_.size ≤ 9223372036854775807) :
    Calls Tryz.prog 35 #[.pointer (some ⟨p, 0, none⟩), .agg #[.int .i64 c.what, .string c.path, .string c.to_, .string c.data, .int .i64 c.mode]] w fun e w' => AskP w.heap.size (askE D c).1 e w' ∧ RunE w0 w' p (askE D c).2 (n + 4006) k ∧ Kept k w w' :=
  (h.le (show n ≤ n + 4004 by omega)).call fun G hG => ask_e p (n + 4004) G D c w hG (hd.eok hf) (by omega) (hd.edited hf).light hs1 hs2 ((hd.edited hf).good.free (hd.edited hf).ok c.path c.to_)
theorem runE_get (h : RunE w0 w p D n k) (hf : Fine D n) (hd : EdF D) (hn : n ≤ 800000) (path : ByteArray) (hs : path.size ≤ 9223372036854775807) :
    Calls Tryz.prog 20 #[.pointer (some ⟨p, 0, none⟩), .string path] w fun e w' => e = .returned (getVal (D.edited.get path).1) ∧ RunE w0 w' p (D.edited.get path).2 (n + 4005) k ∧ Kept k w w' :=
  (h.le (show n ≤ n + 4004 by omega)).call (R := fun e _ => e = .returned (getVal (D.edited.get path).1)) fun G hG => dget_callE p (n + 4004) G D path w hG (hd.eok hf) (by omega) hs
theorem runE_boot0 (h : RunE w0 w p D n k) :
    Calls Tryz.prog 15 #[.pointer (some ⟨p, 0, none⟩), .slice none 0 0, .slice none 0 0] w fun e w' => e = .returned (.tuple #[]) ∧ RunE w0 w' p (D.boot []) n k ∧ Kept k w w' :=
  h.call (R := fun e _ => e = .returned (.tuple #[])) fun G hG => dboot_callE0 p n G D none [] 0 0 w hG (FRow.nil _ _) rfl (by decide) (fun _ => rfl)
theorem runE_boot (h : RunE w0 w p D n k) (fp ep : Option Addr) (fs : List FateP) (es : List EditP) (nf c ne ce : Nat) (hF : FRow w fp fs) (hn : fs.length = nf) (hb : nf ≤ 4398046511103) (hpn : fp = none → fs = [])
    (hER : ERow w0 ep es) (hne : es.length = ne) (hnb : ne ≤ 1000000) (hvl : ∀ e ∈ es, e.value.length ≤ 2932031007402 ∧ Fits e.value) :
    Calls Tryz.prog 15 #[.pointer (some ⟨p, 0, none⟩), .slice fp nf c, .slice ep ne ce] w fun e w' => e = .returned (.tuple #[]) ∧ ∃ ev, RunE w0 w' p (D.bootE fs es ev) n k ∧ Kept k w w' := by
  obtain ⟨G, h1, h2, h3, h4, h5⟩ := h
  refine (dboot_callE p n G D fp ep fs es nf c ne ce w h1 hF hn hb hpn (fun W hW => hER.off (h2.trans hW (fun x hx hm => ?_))) hne hnb hvl).mono fun e w' ⟨he, ev, hT⟩ => ⟨he, ev, RunE.to_ h1 h2 h3 h4 h5 hT⟩
  exfalso
  rcases List.mem_cons.1 hm with rfl | hm
  · omega
  · have := h4 x hm; omega
theorem runE_on (h : RunE w0 w p D n k) : Calls Tryz.prog 36 #[.pointer (some ⟨p, 0, none⟩)] w fun e w' => e = .returned (.bool (!D.off)) ∧ RunE w0 w' p D n k ∧ Off [] w w' := by
  have h' := h
  obtain ⟨G, h1, h2⟩ := h
  exact (don_any p G D w h1.m).mono fun e w' ⟨he, ho⟩ => ⟨he, h'.off ho, ho⟩
/-- ask keeps a disk fine -/
theorem askE_eq (D : PDisk) (c : CallP) : (askE D c).2 = askD D.edited c ∨ (askE D c).2 = D.boot [] ∨ (askE D c).2 = D := by
  unfold askE askD
  by_cases h0 : c.what = 0; · rw [if_pos h0, if_pos h0]; exact .inl rfl
  rw [if_neg h0, if_neg h0]
  by_cases h1 : c.what = 1; · rw [if_pos h1, if_pos h1]; exact .inl rfl
  rw [if_neg h1, if_neg h1]
  by_cases h2 : c.what = 2; · rw [if_pos h2, if_pos h2]; exact .inl rfl
  rw [if_neg h2, if_neg h2]
  by_cases h3 : c.what = 3; · rw [if_pos h3, if_pos h3]; exact .inl rfl
  rw [if_neg h3, if_neg h3]
  by_cases h4 : c.what = 4; · rw [if_pos h4, if_pos h4]; exact .inl rfl
  rw [if_neg h4, if_neg h4]
  by_cases h5 : c.what = 5; · rw [if_pos h5, if_pos h5]; exact .inl rfl
  rw [if_neg h5, if_neg h5]
  by_cases h6 : c.what = 6; · rw [if_pos h6, if_pos h6]; exact .inl rfl
  rw [if_neg h6, if_neg h6]
  by_cases h7 : c.what = 7; · rw [if_pos h7, if_pos h7]; exact .inl rfl
  rw [if_neg h7, if_neg h7]
  by_cases h8 : c.what = 8; · rw [if_pos h8, if_pos h8]; exact .inl rfl
  rw [if_neg h8, if_neg h8]
  by_cases h9 : c.what = 9; · rw [if_pos h9, if_pos h9]; exact .inl rfl
  rw [if_neg h9, if_neg h9]
  by_cases h10 : c.what = 10
  · rw [if_pos h10]; exact .inr (.inl rfl)
  · rw [if_neg h10]; exact .inr (.inr rfl)
theorem fine_boot (h : Fine D n) : Fine (D.boot []) n := ⟨PDisk.boot_ok h.ok [] (by decide), h.good.of (h.good.tree.of rfl rfl rfl (KS.of_inos rfl)) rfl rfl rfl, h.light.same rfl⟩
theorem fine_ask {m : Nat} (h : Fine D n) (hd : EdF D) (c : CallP) (hz1 : c.data.size ≤ maxLen) (hz2 : c.to_.size ≤ maxLen) (hk : Ok (askE D c).2 m) : Fine (askE D c).2 m := by
  have he := hd.edited h
  refine ⟨hk, ?_, ?_⟩
  · rcases askE_eq D c with e | e | e <;> rw [e]
    · exact he.good.ask he.ok c
    · exact (fine_boot h).good
    · exact h.good
  · rcases askE_eq D c with e | e | e <;> rw [e]
    · exact he.light.ask c hz1 hz2
    · exact (fine_boot h).light
    · exact h.light
theorem edited_edits (D : PDisk) : D.edited.edits = D.edits := by
  cases ho : D.off
  · obtain ⟨-, -, -, -, k5, -⟩ := edits_keep (D.trace.length : Int) D.edits D
    unfold PDisk.edited
    rw [ho]
    exact k5
  · rw [edited_off ho]
theorem askD_edits (D : PDisk) (c : CallP) : (askD D c).edits = D.edits ∨ (askD D c).edits = [] := by
  unfold askD
  split; · exact .inl (write_edits _ _ _ _)
  split; · exact .inl (mkdir_edits _ _)
  split; · exact .inl (link_edits _ _ _)
  split; · exact .inl (remove_edits _ _)
  split; · exact .inl (move_edits _ _ _)
  split; · exact .inl (replace_edits _ _ _)
  split; · exact .inl (sync_edits _ _)
  split; · exact .inl (flush_edits _)
  split; · exact .inl (get_edits _ _)
  split; · exact .inl (names_edits _ _)
  split; · exact .inr rfl
  exact .inl rfl
theorem EdF.of {E : PDisk} (h : EdF D) (he : E.edits = D.edits ∨ E.edits = []) : EdF E := by
  rcases he with e | e
  · exact ⟨by rw [e]; exact h.1, by rw [e]; exact h.2⟩
  · exact ⟨by rw [e]; simp, by rw [e]; intro x hx; cases hx⟩
theorem edF_ask (h : EdF D) (c : CallP) : EdF (askE D c).2 := by
  rcases askE_eq D c with e | e | e <;> rw [e]
  · refine h.of ?_
    rw [← edited_edits D]
    exact askD_edits _ c
  · exact h.of (.inr rfl)
  · exact h
theorem fine_get {m : Nat} (h : Fine D n) (hd : EdF D) (p : ByteArray) (hk : Ok (D.edited.get p).2 m) : Fine (D.edited.get p).2 m ∧ EdF (D.edited.get p).2 := by
  have he := hd.edited h
  have h8 : (D.edited.get p).2 = askD D.edited ⟨8, p, ⟨#[]⟩, ⟨#[]⟩, 0⟩ := rfl
  refine ⟨⟨hk, ?_, ?_⟩, hd.of (.inl ((get_edits _ _).trans (edited_edits D)))⟩
  · rw [h8]; exact he.good.ask he.ok _
  · rw [h8]; exact he.light.ask _ (show (⟨#[]⟩ : ByteArray).size ≤ maxLen by decide) (show (⟨#[]⟩ : ByteArray).size ≤ maxLen by decide)
end
end Go.Proofs.YtgcfkljooabjjaaGreatDoor
