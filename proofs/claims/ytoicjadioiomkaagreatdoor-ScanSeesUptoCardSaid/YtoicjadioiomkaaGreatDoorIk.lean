/- Texts of this claim, one behind the other: RMem RDir RTree RWout RChg RSet RSortLaw RBoot RCrash RNorm Slim GlobLit. Conditions: what each lemma states. -/
import Derived.Test.YtoicjadioiomkaaGreatDoorIf
import Derived.Deep.RegionHeldLaw
import Derived.Test.YtoicjadioiomkaaGreatDoorIj
import Derived.Test.YtoicjadioiomkaaGreatDoorIi
import Derived.Test.YtoicjadioiomkaaGreatDoorId
import Derived.Lib.MapLaws
namespace Go.Proofs.YtoicjadioiomkaaGreatDoor
section
open Go.RowKit Go.Op Go.Maps
structure RArg where
  fv : Value
  ev : Value
structure RGeo where
  nv : Value
  sv : Value
  lv : Value
  ls : List Value
  iv : Value
  tv : Value
  fb : List Nat
section
variable {A : RArg} {w w' : World} {p : Nat} {G : RGeo} {E : PDisk} {k : List Nat}
end
theorem own_at {w : World} {base e sz n : Nat} {v : Value} {xs : List Value} (h : w.ownsRow base e sz v n xs) :
    ∃ pl cap, v = .slice pl n cap ∧ n ≤ cap ∧ cap ≤ maxLen ∧ (0 < n → ∃ g, pl = some ⟨g, 0, none⟩ ∧ base ≤ g ∧ g < w.heap.size ∧ (∃ cs, Blk w g e cs) ∧ ∀ (k : Nat) (u : Value), xs[k]? = some u → w.cell? ⟨g, k, none⟩ = some u) := by
  rcases h.2 with ⟨rfl, rfl⟩ | ⟨g, cap, cur, rfl, hb, hh, hc, hm, hs, ht⟩
  · exact ⟨none, 0, rfl, Nat.le_refl _, by decide, fun h => absurd h (by omega)⟩
  refine ⟨_, cap, rfl, hc, hm, fun _ => ⟨g, rfl, hb, (Array.getElem?_eq_some_iff.1 hh).1, ⟨cur, hh⟩, fun k u hu => ?_⟩⟩
  have hB : Blk w g e cur := hh
  rw [hB.cell]; rw [← ht, List.getElem?_take] at hu
  split at hu
  · simpa using hu
  cases hu
end
section
open Go.RowKit Go.Op Go.Maps
variable {A : RArg}
end
section
open Go.RowKit Go.Op Go.Maps
variable {A : RArg}
end
section
open Go.RowKit Go.Op Go.Maps
variable {A : RArg}
end
section
open Go.RowKit Go.Op Go.Maps
variable {A : RArg}
theorem own_set2 {W : World} {base sz e g m cap : Nat} {xs : List Value} (h : W.ownsRow base e sz (.slice (some ⟨g, 0, none⟩) m cap) m xs) (j : Nat) (u : Value) : (W.setCell ⟨g, j, none⟩ u).ownsRow base e sz (.slice (some ⟨g, 0, none⟩) m cap) m (xs.set j u) := by
  refine ⟨by rw [List.length_set]; exact h.1, ?_⟩
  rcases h.2 with ⟨h0, _⟩ | ⟨g', cap', cur, hv, hb, hh, hc, hmx, hs, ht⟩
  · cases h0
  injection hv with h1 h2 h3
  injection h1 with h1
  injection h1 with h1 _
  subst h1; subst h3; refine .inr ⟨g, cap, cur.setIfInBounds j u, rfl, hb, ?_, hc, hmx, by rw [Array.size_setIfInBounds]; exact hs, ?_⟩
  · exact Blk.set_ (w := W) (g := g) (t := e) (cs := cur) hh j u
  rw [Array.toList_setIfInBounds, List.take_set, ht]
theorem own_frozen2 {W : World} {base sz e g m cap : Nat} {xs : List Value} (h : W.ownsRow base e sz (.slice (some ⟨g, 0, none⟩) m cap) m xs) (j : Nat) : W.frozen? ⟨g, j, none⟩ = false := by
  rcases h.2 with ⟨h0, _⟩ | ⟨g', cap', cur, hv, hb, hh, _⟩
  · cases h0
  injection hv with h1 h2 h3
  injection h1 with h1
  injection h1 with h1 _
  subst h1; exact Blk.frozen (w := W) (g := g) (t := e) (cs := cur) hh j
end
section
open Go.RowKit Go.Op Go.Maps
variable {A : RArg}
section
variable {w w' : World} {p : Nat} {G G' : RGeo} {E E' : PDisk}
end
end
section
open Go.RowKit Go.Op Go.Maps
end
section
open Go.RowKit Go.Op Go.Maps
variable {A : RArg}
end
section
open Go.RowKit Go.Op Go.Maps
variable {A : RArg}
end
section
open Go.RowKit Go.Op Go.Maps
section
variable {D : PDisk} {n : Nat}
end
end
section
open Go.RowKit Go.Op Go.Maps
theorem parent_split7 {p : Str} (h : okPath p = true) (hp : parent p ≠ []) : parent p ++ 47 :: base p = p := by
  have hd : (parts p).dropLast ≠ [] := fun e => by rw [parent_eq h, e] at hp; exact hp rfl
  rw [parent_eq h, ← joinP_snoc (base p) hd, ← parts_split h, joinP_parts]
theorem parent_ok {p : Str} (h : okPath p = true) (hp : parent p ≠ []) : okPath (parent p) = true := by
  have e := parent_split7 h hp; have h' := h; unfold okPath at h' ⊢; simp only [Bool.and_eq_true, decide_eq_true_eq] at h' ⊢; obtain ⟨⟨h1, h2⟩, h3⟩ := h'; have hl := congrArg List.length e; have hc := congrArg (List.count 47) e; rw [List.length_append] at hl; rw [List.count_append] at hc; refine ⟨⟨by omega, by omega⟩, ?_⟩; rw [parent_parts h hp]; rw [List.all_eq_true] at h3 ⊢
  exact fun x hx => h3 x (List.dropLast_subset _ hx)
theorem within_parent {p : Str} (h : okPath p = true) (hp : parent p ≠ []) : within p (parent p) = true := by
  unfold within; rw [h, decide_eq_false hp, parent_ok h hp, parent_parts h hp]; simp only [Bool.true_and, Bool.false_or, List.isPrefixOf_iff_prefix]; exact List.dropLast_prefix _
end
section
open Go.Lib (decodeL validD decodeN)
theorem dec2 {n b0 b1 b2 b3 : Nat} (h : 194 ≤ b0) (h2 : b0 ≤ 223) (hb1 : b1 < 256) : decodeN n b0 b1 b2 b3 = if 2 ≤ n ∧ 128 ≤ b1 ∧ b1 ≤ 191 then (b0 % 32 * 64 + b1 % 64, 2) else (65533, 1) := by
  unfold decodeN
  repeat' split
  all_goals first | rfl | (exfalso; omega)
set_option maxRecDepth 100000 in
set_option maxHeartbeats 4000000 in
theorem dec3 {n b0 b1 b2 b3 : Nat} (h : 224 ≤ b0) (h2 : b0 ≤ 239) (hb1 : b1 < 256) (hb2 : b2 < 256) : decodeN n b0 b1 b2 b3 =
    if 3 ≤ n ∧ 128 ≤ b1 ∧ b1 ≤ 191 ∧ 128 ≤ b2 ∧ b2 ≤ 191 ∧ (b0 % 16 * 4096 + b1 % 64 * 64 + b2 % 64 ≥ 2048 ∧ (b0 % 16 * 4096 + b1 % 64 * 64 + b2 % 64 < 55296 ∨ (57344 ≤ b0 % 16 * 4096 + b1 % 64 * 64 + b2 % 64 ∧ b0 % 16 * 4096 + b1 % 64 * 64 + b2 % 64 ≤ 1114111)))
    then (b0 % 16 * 4096 + b1 % 64 * 64 + b2 % 64, 3) else (65533, 1) := by
  unfold decodeN
  repeat' split
  all_goals first | rfl | (exfalso; omega)
set_option maxRecDepth 100000 in
set_option maxHeartbeats 4000000 in
theorem dec4 {n b0 b1 b2 b3 : Nat} (h : 240 ≤ b0) (h2 : b0 ≤ 247) (hb1 : b1 < 256) (hb2 : b2 < 256) (hb3 : b3 < 256) : decodeN n b0 b1 b2 b3 =
    if 4 ≤ n ∧ 128 ≤ b1 ∧ b1 ≤ 191 ∧ 128 ≤ b2 ∧ b2 ≤ 191 ∧ 128 ≤ b3 ∧ b3 ≤ 191 ∧ (b0 % 8 * 262144 + b1 % 64 * 4096 + b2 % 64 * 64 + b3 % 64 ≥ 65536 ∧ (b0 % 8 * 262144 + b1 % 64 * 4096 + b2 % 64 * 64 + b3 % 64 < 55296 ∨ (57344 ≤ b0 % 8 * 262144 + b1 % 64 * 4096 + b2 % 64 * 64 + b3 % 64 ∧ b0 % 8 * 262144 + b1 % 64 * 4096 + b2 % 64 * 64 + b3 % 64 ≤ 1114111)))
    then (b0 % 8 * 262144 + b1 % 64 * 4096 + b2 % 64 * 64 + b3 % 64, 4) else (65533, 1) := by
  unfold decodeN
  repeat' split
  all_goals first | rfl | (exfalso; omega)
structure ChunkAt (l : Str) (k : Nat) : Prop where
  width : (decodeL l).2 = k
  le : k ≤ l.length
  high : ∀ b ∈ l.take k, 128 ≤ b.toNat
  stays : ∀ t, decodeL (l.take k ++ t) = decodeL l
theorem chunk_at {c : UInt8} {l : Str} (h0 : 128 ≤ c.toNat) (hv : ¬ ((decodeL (c :: l)).1 = 65533 ∧ (decodeL (c :: l)).2 = 1)) : ∃ k, 2 ≤ k ∧ ChunkAt (c :: l) k := by
  have hc := c.toNat_lt; have e := Lib.decodeL_N (c :: l); simp only [List.getD_cons_zero, List.getD_cons_succ] at e
  by_cases h1 : c.toNat < 194
  · rw [Lib.decodeN_bad _ _ _ _ _ (.inl ⟨h0, h1⟩)] at e
    rw [e] at hv; exact absurd ⟨rfl, rfl⟩ hv
  by_cases h2 : c.toNat ≤ 223
  · rw [dec2 (by omega) h2 (UInt8.toNat_lt _)] at e
    split at e
    · rename_i hh
      match l, hh, e with
      | d :: l, hh, e =>
        simp only [List.getD_cons_zero] at hh e
        refine ⟨2, Nat.le_refl _, by rw [e], by simp, ?_, fun t => ?_⟩
        · intro b hb; simp at hb; rcases hb with rfl | rfl <;> omega
        rw [e, Lib.decodeL_N]; simp only [List.take_succ_cons, List.take_zero, List.cons_append, List.nil_append, List.getD_cons_zero, List.getD_cons_succ]; rw [dec2 (by omega) h2 (UInt8.toNat_lt _), if_pos (by simp; omega)]
      | [], hh, e => simp at hh
    rw [e] at hv; exact absurd ⟨rfl, rfl⟩ hv
  by_cases h3 : c.toNat ≤ 239
  · rw [dec3 (by omega) h3 (UInt8.toNat_lt _) (UInt8.toNat_lt _)] at e
    split at e
    · rename_i hh
      match l, hh, e with
      | d :: f :: l, hh, e =>
        simp only [List.getD_cons_zero, List.getD_cons_succ] at hh e
        refine ⟨3, by omega, by rw [e], by simp, ?_, fun t => ?_⟩
        · intro b hb; simp at hb; rcases hb with rfl | rfl | rfl <;> omega
        rw [e, Lib.decodeL_N]; simp only [List.take_succ_cons, List.take_zero, List.cons_append, List.nil_append, List.getD_cons_zero, List.getD_cons_succ]; rw [dec3 (by omega) h3 (UInt8.toNat_lt _) (UInt8.toNat_lt _), if_pos ⟨by simp, hh.2⟩]
      | [d], hh, e => simp at hh
      | [], hh, e => simp at hh
    rw [e] at hv; exact absurd ⟨rfl, rfl⟩ hv
  by_cases h4 : c.toNat ≤ 244
  · rw [dec4 (by omega) (by omega) (UInt8.toNat_lt _) (UInt8.toNat_lt _) (UInt8.toNat_lt _)] at e
    split at e
    · rename_i hh
      match l, hh, e with
      | d :: f :: g :: l, hh, e =>
        simp only [List.getD_cons_zero, List.getD_cons_succ] at hh e
        refine ⟨4, by omega, by rw [e], by simp, ?_, fun t => ?_⟩
        · intro b hb; simp at hb; rcases hb with rfl | rfl | rfl | rfl <;> omega
        rw [e, Lib.decodeL_N]; simp only [List.take_succ_cons, List.take_zero, List.cons_append, List.nil_append, List.getD_cons_zero, List.getD_cons_succ]; rw [dec4 (by omega) (by omega) (UInt8.toNat_lt _) (UInt8.toNat_lt _) (UInt8.toNat_lt _), if_pos ⟨by simp, hh.2⟩]
      | [d, f], hh, e => simp at hh
      | [d], hh, e => simp at hh
      | [], hh, e => simp at hh
    rw [e] at hv; exact absurd ⟨rfl, rfl⟩ hv
  rw [Lib.decodeN_bad _ _ _ _ _ (.inr ⟨by omega, hc⟩)] at e; rw [e] at hv; exact absurd ⟨rfl, rfl⟩ hv
theorem valid_ind {M : Str → Prop} (h0 : M []) (h1 : ∀ c l, c.toNat < 128 → validD l = true → M l → M (c :: l))
    (h2 : ∀ k l, 2 ≤ k → l ≠ [] → ChunkAt l k → ¬ ((decodeL l).1 = 65533 ∧ (decodeL l).2 = 1) → validD (l.drop k) = true → M (l.drop k) → M l) : ∀ l, validD l = true → M l := by
  intro l
  generalize hn : l.length = n
  induction n using Nat.strongRecOn generalizing l with
  | ind n ih =>
    intro hv
    match l, hn, hv with
    | [], _, _ => exact h0
    | c :: l, hn, hv =>
      simp only [List.length_cons] at hn
      by_cases hc : c.toNat < 128
      · rw [Lib.validD_cons c l hc] at hv
        exact h1 c l hc hv (ih l.length (by omega) l rfl hv)
      have hs := Lib.validD_step (c :: l) (by simp); rw [hv] at hs
      split at hs
      · cases hs
      rename_i hg
      obtain ⟨k, hk, hC⟩ := chunk_at (by omega) hg; rw [hC.width] at hs; exact h2 k _ hk (by simp) hC hg hs.symm (ih _ (by rw [List.length_drop, List.length_cons]; omega) _ rfl hs.symm)
theorem runes_cons {c : UInt8} {l : Str} (h : c.toNat < 128) : runesZ (c :: l) = (c.toNat : Int) :: runesZ l := by
  rw [runesZ_step (by simp), Lib.decodeL_ascii c l h]
  rfl
theorem runes_chunk {l : Str} {k : Nat} (hne : l ≠ []) (h : ChunkAt l k) : runesZ l = ((decodeL l).1 : Int) :: runesZ (l.drop k) := by
  rw [runesZ_step hne, h.width]
theorem runes_inj : ∀ a : Str, validD a = true → ∀ b : Str, validD b = true → runesZ a = runesZ b → a = b := by
  refine valid_ind ?_ ?_ ?_
  · intro b _ h
    rw [runesZ_nil] at h; exact (runesZ_eq_nil.1 h.symm).symm
  all_goals
    have key : ∀ (a : Str), a ≠ [] → ¬ ((decodeL a).1 = 65533 ∧ (decodeL a).2 = 1) → (∀ b : Str, validD b = true → runesZ (a.drop (decodeL a).2) = runesZ b → a.drop (decodeL a).2 = b) → ∀ b : Str, validD b = true → runesZ a = runesZ b → a = b := by
      intro a ha hva ih b hb h
      have hbn : b ≠ [] := fun e => by
        subst e; rw [runesZ_nil] at h; exact ha (runesZ_eq_nil.1 h)
      rw [runesZ_step ha, runesZ_step hbn, List.cons.injEq] at h; have hs := Lib.validD_step b hbn; rw [hb] at hs
      split at hs
      · cases hs
      rename_i hvb
      have e1 := Lib.encode_decode a ha hva; have e2 := Lib.encode_decode b hbn hvb; rw [h.1, e2] at e1; have e3 := ih _ hs.symm h.2; rw [← List.take_append_drop (decodeL a).2 a, ← e1, e3, List.take_append_drop]
  · intro c l hc _ ih
    refine key _ (by simp) (by rw [Lib.decodeL_ascii c l hc]; simp; omega) ?_
    rw [Lib.decodeL_ascii c l hc]; exact ih
  intro k l hk hne hC hg _ ih
  refine key l hne hg ?_
  rw [hC.width]; exact ih
def escB (c : UInt8) : Bool := c == 42 || c == 63 || c == 91 || c == 92
def escP (l : Str) : Str := l.flatMap fun c => if escB c then [92, c] else [c]
theorem esc_nil : escP [] = [] := rfl
theorem esc_cons (c : UInt8) (l : Str) : escP (c :: l) = (if escB c then [92, c] else [c]) ++ escP l := rfl
theorem esc_append (a b : Str) : escP (a ++ b) = escP a ++ escP b := by unfold escP; rw [List.flatMap_append]
theorem esc_high : ∀ {l : Str}, (∀ b ∈ l, 128 ≤ b.toNat) → escP l = l
  | [], _ => rfl
  | c :: l, h => by
    have hc := h c (List.mem_cons_self ..); have hs : escB c = false := by
      unfold escB; simp only [Bool.or_eq_false_iff, beq_eq_false_iff_ne, ne_eq]; refine ⟨⟨⟨?_, ?_⟩, ?_⟩, ?_⟩ <;> (rintro rfl; simp at hc)
    rw [esc_cons, hs, esc_high (fun b hb => h b (List.mem_cons_of_mem _ hb))]
    rfl
theorem escB_not {c : UInt8} (h : escB c = false) : c ≠ 42 ∧ c ≠ 63 ∧ c ≠ 91 ∧ c ≠ 92 := by
  unfold escB at h; simp only [Bool.or_eq_false_iff, beq_eq_false_iff_ne, ne_eq] at h; exact ⟨h.1.1.1, h.1.1.2, h.1.2, h.2⟩
theorem valid_chunk {l t : Str} {k : Nat} (hk : 2 ≤ k) (hne : l ≠ []) (hC : ChunkAt l k) (hg : ¬ ((decodeL l).1 = 65533 ∧ (decodeL l).2 = 1)) : validD (l.take k ++ t) = validD t := by
  have hn : l.take k ++ t ≠ [] := by
    intro e
    have := List.append_eq_nil_iff.1 e; have hl := congrArg List.length this.1; have := List.length_pos_iff.2 hne; have := hC.le; rw [List.length_take, List.length_nil] at hl; omega
  rw [Lib.validD_step _ hn, hC.stays, if_neg hg, hC.width]; have hl : (l.take k).length = k := by have := hC.le; simp; omega
  rw [show (l.take k ++ t).drop k = t by rw [List.drop_append_of_le_length (by omega), List.drop_of_length_le (by omega)]; rfl]
theorem valid_esc : ∀ l : Str, validD l = true → validD (escP l) = true := by
  refine valid_ind rfl ?_ ?_
  · intro c l hc _ ih
    rw [esc_cons]
    cases hs : escB c
    · rw [if_neg (by simp)]
      show validD (c :: escP l) = true
      rw [Lib.validD_cons _ _ hc]; exact ih
    rw [if_pos rfl]
    show validD (92 :: c :: escP l) = true
    rw [Lib.validD_cons _ _ (by decide), Lib.validD_cons _ _ hc]; exact ih
  intro k l hk hne hC hg _ ih
  rw [show escP l = l.take k ++ escP (l.drop k) by
    conv => lhs; rw [← List.take_append_drop k l, esc_append, esc_high hC.high]]
  rw [valid_chunk hk hne hC hg]; exact ih
theorem pts_esc : ∀ l : Str, validD l = true → pts (escP l) = (runesZ l).map fun r => .el (.lit r) := by
  refine valid_ind rfl ?_ ?_
  · intro c l hc _ ih
    rw [esc_cons, runes_cons hc]
    cases hs : escB c
    · rw [if_neg (by simp)]
      obtain ⟨h1, h2, h3, h4⟩ := escB_not hs
      show pts (c :: escP l) = _
      rw [pts_step (by simp)]; have e : elOf (c :: escP l) = (.lit c.toNat, escP l) := by
        unfold elOf; simp only [List.head?_cons, Option.some.injEq, if_neg h2, if_neg h3, if_neg h4]; unfold decS; rw [if_neg (by simp), Lib.decodeL_ascii _ _ hc]
        rfl
      rw [if_neg (by simpa using h1), e, ih]
      rfl
    rw [if_pos rfl]
    show pts (92 :: c :: escP l) = _
    rw [pts_step (by simp)]; have e : elOf (92 :: c :: escP l) = (.lit c.toNat, escP l) := by
      have hh : (92 :: c :: escP l : Str).head? = some 92 := rfl
      unfold elOf; rw [if_neg (by rw [hh]; decide), if_neg (by rw [hh]; decide), if_pos hh]
      show (GEl.lit (decS (c :: escP l)).1, (c :: escP l).drop (decS (c :: escP l)).2) = _
      unfold decS; rw [if_neg (by simp), Lib.decodeL_ascii _ _ hc]
      rfl
    rw [if_neg (show ¬ (92 :: c :: escP l : Str).head? = some 42 from by show ¬ some (92 : UInt8) = some 42; decide), e, ih]
    rfl
  intro k l hk hne hC hg _ ih
  have hE : escP l = l.take k ++ escP (l.drop k) := by
    conv => lhs; rw [← List.take_append_drop k l, esc_append, esc_high hC.high]
  obtain ⟨c, l2, rfl⟩ := List.exists_cons_of_ne_nil hne; have hc : 128 ≤ c.toNat := hC.high c (by obtain ⟨k2, rfl⟩ : ∃ k2, k = k2 + 1 := ⟨k - 1, by omega⟩; simp)
  have hh : (escP (c :: l2)).head? = some c := by
    rw [hE]; obtain ⟨k2, rfl⟩ : ∃ k2, k = k2 + 1 := ⟨k - 1, by omega⟩
    rfl
  have n1 : ∀ d : UInt8, d.toNat < 128 → ¬ (some c = some d) := fun d hd e => by
    rw [Option.some.injEq] at e; subst e; omega
  have hn : escP (c :: l2) ≠ [] := fun e => by rw [e] at hh; cases hh
  have hl : ((c :: l2).take k).length = k := by have := hC.le; rw [List.length_take]; omega
  rw [pts_step hn, hh, if_neg (n1 42 (by decide)), runes_chunk hne hC]; have e : elOf (escP (c :: l2)) = (.lit (decodeL (c :: l2)).1, escP ((c :: l2).drop k)) := by
    unfold elOf; rw [hh, if_neg (n1 63 (by decide)), if_neg (n1 91 (by decide))]; dsimp only; rw [if_neg (n1 92 (by decide))]; unfold decS; rw [if_neg hn, hE, hC.stays, hC.width]; rw [List.drop_append_of_le_length (by omega), List.drop_of_length_le (by omega)]
    rfl
  rw [e, ih]
  rfl
theorem match_lits : ∀ (x y : List Int), matchP (x.map fun r => GPt.el (.lit r)) y = decide (y = x)
  | [], [] => by simp [matchP]
  | [], r :: y => by simp [matchP]
  | r :: x, [] => by simp [matchP]
  | r :: x, s :: y => by
    rw [List.map_cons, matchP, match_lits x y]
    show (decide (r = s) && decide (y = x)) = _
    rw [Bool.eq_iff_iff]; simp only [Bool.and_eq_true, decide_eq_true_eq, List.cons.injEq]
    constructor
    · rintro ⟨rfl, rfl⟩; exact ⟨rfl, rfl⟩
    rintro ⟨rfl, rfl⟩; exact ⟨rfl, rfl⟩
theorem part_esc {a b : Str} (ha : validD a = true) (hb : validD b = true) : gpartV (escP a) b = decide (b = a) := by
  unfold gpartV; rw [pts_esc a ha, match_lits, decide_eq_decide]; exact ⟨fun h => runes_inj b hb a ha h, fun h => by rw [h]⟩
theorem esc_slash {l : Str} (h : 47 ∉ l) : 47 ∉ escP l := by
  intro hm
  unfold escP at hm; rw [List.mem_flatMap] at hm; obtain ⟨c, hc, hm⟩ := hm
  split at hm
  · simp at hm; exact h (hm ▸ hc)
  simp at hm; exact h (hm ▸ hc)
theorem esc_join : ∀ L : List Str, escP (joinP L) = joinP (L.map escP)
  | [] => rfl
  | [x] => rfl
  | x :: y :: l => by
    have ih := esc_join (y :: l)
    show escP (x ++ 47 :: joinP (y :: l)) = escP x ++ 47 :: joinP ((y :: l).map escP)
    rw [esc_append, esc_cons, if_neg (by decide), ih]
    rfl
theorem parts_esc (p : Str) : parts (escP p) = (parts p).map escP := by
  rw [← parts_joinP ((parts p).map escP) (by simp [parts_ne]) (by
    intro x hx
    obtain ⟨y, hy, rfl⟩ := List.mem_map.1 hx; exact esc_slash (parts_mem p y hy)), ← esc_join, joinP_parts]
theorem check_esc : ∀ (x rest : Str) (e : Bool), 47 ∉ x → checkS e (escP x ++ rest) = checkS (e && x.isEmpty) rest
  | [], rest, e, _ => by simp [esc_nil]
  | c :: x, rest, e, h => by
    have hc : c ≠ 47 := fun e => h (by simp [e])
    have ih := check_esc x rest false (fun hm => h (List.mem_cons_of_mem _ hm)); rw [Bool.false_and] at ih; rw [esc_cons, List.append_assoc]; simp only [List.isEmpty_cons, Bool.and_false]
    cases hs : escB c
    · obtain ⟨h1, h2, h3, h4⟩ := escB_not hs
      rw [if_neg (by simp)]
      show checkS e (c :: (escP x ++ rest)) = _
      rw [checkS_cons, if_neg hc, if_neg h4, if_neg h3]; exact ih
    rw [if_pos rfl]
    show checkS e (92 :: c :: (escP x ++ rest)) = _
    rw [checkS_cons, if_neg (by decide), if_pos rfl]; dsimp only; rw [bne_iff_ne.2 hc, Bool.true_and]; exact ih
theorem check_join : ∀ L : List Str, L ≠ [] → (∀ x ∈ L, x ≠ [] ∧ 47 ∉ x) → checkS true (joinP (L.map escP)) = true
  | [], h, _ => absurd rfl h
  | [x], _, h => by
    have := check_esc x [] true (h x (by simp)).2; rw [List.append_nil] at this
    show checkS true (escP x) = true
    rw [this]
    rfl
  | x :: y :: l, _, h => by
    have ih := check_join (y :: l) (by simp) (fun z hz => h z (List.mem_cons_of_mem _ hz)); rw [List.map_cons, joinP_cons _ (by simp), check_esc x _ true (h x (by simp)).2]; have hx : x.isEmpty = false := by
      have := (h x (by simp)).1
      cases x with
      | nil => exact absurd rfl this
      | cons => rfl
    have hr : (joinP ((y :: l).map escP)).isEmpty = false := by
      have hy := (h y (by simp)).1
      cases hj : joinP ((y :: l).map escP) with
      | cons => rfl
      | nil =>
        exfalso
        obtain ⟨c, y2, rfl⟩ := List.exists_cons_of_ne_nil hy; have h2 : escP (c :: y2) ≠ [] := by rw [esc_cons]; split <;> simp
        cases l with
        | nil => exact h2 hj
        | cons z l =>
          rw [List.map_cons, joinP_cons _ (by simp)] at hj; simp at hj
    rw [checkS_cons, if_pos rfl, hx, hr, ih]
    rfl
theorem gparts_esc : ∀ (L N : List Str), (∀ x ∈ L, validD x = true) → (∀ x ∈ N, validD x = true) → gpartsV (L.map escP) N = decide (N = L)
  | [], [], _, _ => by simp [gpartsV]
  | [], x :: N, _, _ => by simp [gpartsV]
  | q :: L, N, h1, h2 => by
    have hne : escP q ≠ [42, 42] := by
      intro e
      cases q with
      | nil => cases e
      | cons c q =>
        rw [esc_cons] at e
        split at e
        · simp at e
        rename_i hs
        simp only [List.cons_append, List.nil_append, List.cons.injEq] at e
        rw [e.1] at hs; exact hs (by decide)
    cases N with
    | nil =>
      rw [List.map_cons, gpartsV, decide_eq_false hne, Bool.false_and]; exact (decide_eq_false (by simp)).symm
    | cons x N =>
      rw [List.map_cons, gpartsV, if_neg hne, part_esc (h1 q (by simp)) (h2 x (by simp)), gparts_esc L N (fun y hy => h1 y (List.mem_cons_of_mem _ hy)) (fun y hy => h2 y (List.mem_cons_of_mem _ hy))]; rw [Bool.eq_iff_iff]; simp only [Bool.and_eq_true, decide_eq_true_eq, List.cons.injEq]
theorem valid_parts {p : Str} (h : okPath p = true) : ∀ x ∈ parts p, validD x = true ∧ x ≠ [] := by
  intro x hx
  have := ok_parts h x hx; unfold okName at this; simp only [Bool.and_eq_true, decide_eq_true_eq] at this; exact ⟨this.1.2, this.1.1.1.1.1⟩
theorem valid_join : ∀ L : List Str, (∀ x ∈ L, validD x = true) → validD (joinP L) = true
  | [], _ => rfl
  | [x], h => h x (by simp)
  | x :: y :: l, h => by
    rw [joinP_cons _ (by simp)]; have ih := valid_join (y :: l) (fun z hz => h z (List.mem_cons_of_mem _ hz)); have key : ∀ x : Str, validD x = true → validD (x ++ 47 :: joinP (y :: l)) = true := by
      refine valid_ind ?_ ?_ ?_
      · show validD (47 :: _) = true
        rw [Lib.validD_cons _ _ (by decide)]; exact ih
      · intro c l2 hc _ h2
        show validD (c :: (l2 ++ _)) = true
        rw [Lib.validD_cons _ _ hc]; exact h2
      intro k l2 hk hne hC hg _ h2
      rw [← List.take_append_drop k l2, List.append_assoc, valid_chunk hk hne hC hg]; exact h2
    exact key x (h x (by simp))
theorem glob_esc {p x : Str} (hp : okPath p = true) (hs : 47 ∈ p) (hl : (escP p).length ≤ 400) (hx : okPath x = true) : globV (escP p) x = decide (x = p) := by
  have hv := valid_parts hp; have hw := valid_parts hx; have hne : p ≠ [] := fun e => by rw [e] at hs; cases hs
  have h47 : 47 ∈ escP p := by
    unfold escP; rw [List.mem_flatMap]; exact ⟨47, hs, by decide⟩
  have hck : checkV (escP p) = true := by
    unfold checkV; have h1 : escP p ≠ [] := fun e => by rw [e] at h47; cases h47
    have h2 : validD p = true := by rw [← joinP_parts p]; exact valid_join _ (fun y hy => (hv y hy).1)
    have h3 : checkS true (escP p) = true := by
      rw [← joinP_parts p, esc_join]; exact check_join _ (parts_ne p) (fun y hy => ⟨(hv y hy).2, parts_mem p y hy⟩)
    rw [decide_eq_true h1, decide_eq_true hl, valid_esc p h2]; exact h3
  unfold globV; rw [hck, hx, Bool.true_and, Bool.true_and]; rw [if_neg (fun e => by rw [e] at h47; revert h47; decide), if_pos h47, parts_esc, gparts_esc _ _ (fun y hy => (hv y hy).1) (fun y hy => (hw y hy).1), decide_eq_decide]; exact ⟨fun h => parts_inj h, fun h => by rw [h]⟩
theorem ups_mem : ∀ (n : Nat) (p q : Str), okPath p = true → (parts p).length ≤ n → (q ∈ upsF n p ↔ q ≠ [] ∧ parts q <+: parts p)
  | 0, p, q, _, h => by
    exfalso
    have := List.length_pos_iff.2 (parts_ne p); omega
  | n + 1, p, q, hp, hl => by
    have hpe : p ≠ [] := fun e => by subst e; revert hp; decide
    unfold upsF; rw [if_neg hpe, List.mem_cons]
    by_cases hpp : parent p = []
    · have hd : (parts p).dropLast = [] := by
        cases hdr : (parts p).dropLast with
        | nil => rfl
        | cons y l =>
          exfalso
          have e : parent p = joinP (parts p).dropLast := by unfold parent; rw [if_pos hp]
          rw [hdr] at e; have hy := (valid_parts hp y (List.dropLast_subset _ (by rw [hdr]; exact List.mem_cons_self ..))).2; rw [e] at hpp
          cases l with
          | nil => exact hy hpp
          | cons z l => rw [joinP_cons _ (by simp)] at hpp; simp at hpp
      have h1 : ∃ a, parts p = [a] := by
        cases hx : parts p with
        | nil => exact absurd hx (parts_ne p)
        | cons a l =>
          rw [hx] at hd
          cases l with
          | nil => exact ⟨a, rfl⟩
          | cons b l => simp at hd
      obtain ⟨a, ha⟩ := h1; have hu : upsF n (parent p) = [] := by
        rw [hpp]
        cases n with
        | zero => rfl
        | succ n => unfold upsF; rw [if_pos rfl]
      rw [hu]; simp only [List.not_mem_nil, or_false]
      constructor
      · rintro rfl; exact ⟨hpe, List.prefix_refl _⟩
      rintro ⟨hq, hpre⟩; rw [ha] at hpre; have h3 := hpre.length_le; have h4 := List.length_pos_iff.2 (parts_ne q); have h5 := hpre.eq_of_length (by simp at h3 ⊢; omega); rw [← ha] at h5; exact parts_inj h5
    have hpo := parent_ok hp hpp; have h2 := parent_parts hp hpp; rw [ups_mem n (parent p) q hpo (by rw [h2, List.length_dropLast]; omega), h2]
    constructor
    · rintro (rfl | ⟨h3, h4⟩)
      · exact ⟨hpe, List.prefix_refl _⟩
      exact ⟨h3, h4.trans (List.dropLast_prefix _)⟩
    rintro ⟨h3, h4⟩
    by_cases he : q = p
    · exact .inl he
    right
    refine ⟨h3, ?_⟩
    obtain ⟨t, ht⟩ := h4; have hte : t ≠ [] := fun e => by
      subst e; rw [List.append_nil] at ht; exact he (parts_inj ht)
    rw [← ht, List.dropLast_append_of_ne_nil hte]; exact List.prefix_append _ _
theorem ok_depth {p : Str} (h : okPath p = true) : (parts p).length ≤ 16 := by
  unfold okPath at h; simp only [Bool.and_eq_true, decide_eq_true_eq] at h; rw [parts_length]; omega
theorem ignored_one {p x : Str} {b : ByteArray} (hb : str b = escP p) (hp : okPath p = true) (hs : 47 ∈ p) (hl : (escP p).length ≤ 400) (hx : okPath x = true) : ignoredV [⟨true, b⟩] x = within x p := by
  have hp0 : p ≠ [] := fun e => by rw [e] at hs; cases hs
  have h1 : ∀ y, okPath y = true → lastV [⟨true, b⟩] y = decide (y = p) := fun y hy => by
    unfold lastV; simp only [List.reverse_singleton]; have e : globV b.data.toList y = decide (y = p) := by
      rw [show b.data.toList = escP p from hb]; exact glob_esc hp hs hl hy
    by_cases he : y = p
    · rw [List.find?_cons_of_pos (by rw [e]; exact decide_eq_true he), decide_eq_true he]
    rw [List.find?_cons_of_neg (by rw [e, decide_eq_false he]; decide), decide_eq_false he]
    rfl
  have hok : ∀ y ∈ upsF 17 x, okPath y = true := by
    have : ∀ (n : Nat) (x : Str), okPath x = true → ∀ y ∈ upsF n x, okPath y = true := by
      intro n
      induction n with
      | zero => intro x _ y hy; cases hy
      | succ n ih =>
        intro x hx y hy
        unfold upsF at hy
        split at hy
        · cases hy
        rcases List.mem_cons.1 hy with rfl | hy
        · exact hx
        by_cases hpe : parent x = []
        · rw [hpe] at hy
          cases n with
          | zero => cases hy
          | succ n => unfold upsF at hy; rw [if_pos rfl] at hy; cases hy
        exact ih _ (parent_ok hx hpe) y hy
    exact this 17 x hx
  unfold ignoredV within; rw [hx, Bool.true_and, Bool.true_and, decide_eq_false hp0, Bool.false_or, hp, Bool.true_and]; rw [Bool.eq_iff_iff, List.any_eq_true, List.isPrefixOf_iff_prefix]
  constructor
  · rintro ⟨y, hy, hl⟩
    rw [h1 y (hok y hy), decide_eq_true_eq] at hl; subst hl; exact ((ups_mem 17 x y hx (by have := ok_depth hx; omega)).1 hy).2
  intro h
  refine ⟨p, (ups_mem 17 x p hx (by have := ok_depth hx; omega)).2 ⟨hp0, h⟩, ?_⟩
  rw [h1 p hp]; exact decide_eq_true rfl
end
end Go.Proofs.YtoicjadioiomkaaGreatDoor
