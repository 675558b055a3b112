/- The reference's way to say what is a tree, and that it is the program's. Conditions: none beyond what each lemma states. -/
import Derived.Test.YtpaeihdkggbeoaaGreatDoorRef6a
namespace Go.Proofs.YtpaeihdkggbeoaaGreatDoor
open Go.RowKit Go.Op

/-- the reference looks at a node -/
def rok (t done : List Node) (n : Node) : Bool := okPath n.p && rightN n && rdir t (parent n.p) && lastOk done n
theorem cmpN_snoc (x : Str) : ∀ l : List Str, cmpN l (l ++ [x]) = -1
  | [] => rfl
  | a :: l => by simp only [List.cons_append, cmpN, cmpB_self, if_true]; exact cmpN_snoc x l
theorem parent_before {p : Str} (h : okPath p = true) (hp : parent p ≠ []) : order (parent p) p < 0 := by
  have hd : (parts p).dropLast ≠ [] := fun e => by rw [parent_eq h, e] at hp; exact hp rfl
  have e1 : parts (parent p) = (parts p).dropLast := by rw [parent_eq h]; exact parts_joinP _ hd drop_clean
  unfold order
  rw [e1]
  conv => lhs; rw [parts_split h]
  rw [List.dropLast_concat, cmpN_snoc]
  decide
theorem rdir_dir {t : List Node} {p : Str} (h : rdir t p = true) : p = [] ∨ ∃ n ∈ t, n.p = p ∧ n.kind = 2 := by
  unfold rdir at h
  rw [Bool.or_eq_true, decide_eq_true_eq] at h
  rcases h with h | h
  · exact .inl h
  · right
    cases hf : t.find? fun n => decide (n.p = p) with
    | none => rw [hf] at h; cases h
    | some n =>
      rw [hf] at h
      have h1 := List.find?_some hf
      exact ⟨n, List.mem_of_find?_eq_some hf, by simpa using h1, by simpa using h⟩
theorem dir_rdir {t : List Node} {p : Str} (hs : Sorted t) (h : isDir t p = true) : rdir t p = true := by
  unfold isDir at h
  unfold rdir
  rw [Bool.or_eq_true] at h ⊢
  rcases h with h | h
  · exact .inl h
  · right
    rw [List.any_eq_true] at h
    obtain ⟨n, hn, hp⟩ := h
    simp only [Bool.and_eq_true, decide_eq_true_eq] at hp
    cases hf : t.find? fun n => decide (n.p = p) with
    | none =>
      have := List.find?_eq_none.1 hf n hn
      simp [hp.1] at this
    | some m =>
      have h1 := List.find?_some hf
      have h2 : m = n := hs.unique (List.mem_of_find?_eq_some hf) hn (by rw [hp.1]; simpa using h1)
      subst h2
      simp [hp.2]
theorem rok_of {t done : List Node} {n : Node} (v1 v2 v3 : Bool) (h1 : okPath (str n.path) = v1) (h2 : v1 = true → rightN n = v2) (h3 : v1 = true → v2 = true → rdir t (parent (str n.path)) = v3) (h4 : v1 = true → v2 = true → v3 = true → lastOk done n = true) :
    rok t done n = (v1 && v2 && v3) := by
  unfold rok
  have e1 : okPath n.p = v1 := h1
  rw [e1]
  cases v1
  · rfl
  · rw [h2 rfl]
    cases v2
    · rfl
    · have e3 : rdir t (parent n.p) = v3 := h3 rfl rfl
      rw [e3]
      cases v3
      · rfl
      · rw [h4 rfl rfl rfl]; rfl
theorem rok_bad {t : List Node} {k : Nat} (hk : k < t.length) (h : rok t (t.take k) t[k] = false) : okTree t = false := by
  cases ho : okTree t
  · rfl
  · have h1 := okTree_next ho k hk
    rw [okNext_eq] at h1
    simp only [Bool.and_eq_true] at h1
    have h2 := dir_rdir (okTree_sorted ho) (parent_dir ho (List.getElem_mem hk))
    unfold rok at h
    rw [h1.1.1.1, h1.1.1.2, h2, h1.1.2] at h
    cases h
/-- as far as the reference has come -/
def RokTo (t : List Node) (k : Nat) : Prop := ∀ (j : Nat) (hj : j < t.length), j < k → rok t (t.take j) t[j] = true
theorem RokTo.succ {t : List Node} {k : Nat} (h : RokTo t k) (hk : k < t.length) (hn : rok t (t.take k) t[k] = true) : RokTo t (k + 1) := fun j hj hjk => by
  rcases Nat.lt_or_ge j k with h1 | h1
  · exact h j hj h1
  · obtain rfl : j = k := by omega
    exact hn
theorem RokTo.tree {t : List Node} (hl : t.length ≤ 1000) (h : RokTo t t.length) : okTree t = true := by
  have hs : ∀ k, k ≤ t.length → Sorted (t.take k) := fun k => by
    induction k with
    | zero => intro _; simp [Sorted]
    | succ k ih =>
      intro hk
      rw [List.take_succ_eq_append_getElem (by omega)]
      have h1 := h k (by omega) (by omega)
      unfold rok at h1
      simp only [Bool.and_eq_true] at h1
      exact sorted_snoc (ih (by omega)) h1.2
  have hst : Sorted t := by have := hs t.length (Nat.le_refl _); rwa [List.take_length] at this
  have ho : ∀ k, k ≤ t.length → okFrom [] (t.take k) = true := fun k => by
    induction k with
    | zero => intro _; simp [okFrom]
    | succ k ih =>
      intro hk
      have hkl : k < t.length := by omega
      refine okFrom_take_succ hkl (ih (by omega)) ?_
      have h1 := h k (by omega) (by omega)
      unfold rok at h1
      simp only [Bool.and_eq_true] at h1
      rw [okNext_eq, h1.1.1.1, h1.1.1.2, h1.2, Bool.true_and, Bool.true_and, Bool.true_and]
      unfold isDir
      rw [Bool.or_eq_true]
      rcases rdir_dir h1.1.2 with h2 | ⟨m, hm, hp, hk2⟩
      · exact .inl (decide_eq_true h2)
      · by_cases he : parent t[k].p = []
        · exact .inl (decide_eq_true he)
        right
        rw [List.any_eq_true]
        refine ⟨m, ?_, by simp [hp, hk2]⟩
        obtain ⟨j, hj, rfl⟩ := List.getElem_of_mem hm
        have hlt : j < k := by
          rcases Nat.lt_trichotomy j k with h3 | h3 | h3
          · exact h3
          · subst h3
            have := parent_before h1.1.1.1 he
            rw [← hp, order_self] at this
            omega
          · have h4 := List.pairwise_iff_getElem.1 hst k j hkl hj h3
            have h5 := parent_before h1.1.1.1 he
            rw [← hp] at h5
            have := order_trans h4 h5
            rw [order_self] at this
            omega
        have : (t.take k)[j]? = some t[j] := by rw [List.getElem?_take, if_pos hlt, List.getElem?_eq_getElem]
        exact List.mem_of_getElem? this
  unfold okTree
  have := ho t.length (Nat.le_refl _)
  rw [List.take_length] at this
  rw [this, decide_eq_true hl]; rfl
end Go.Proofs.YtpaeihdkggbeoaaGreatDoor
