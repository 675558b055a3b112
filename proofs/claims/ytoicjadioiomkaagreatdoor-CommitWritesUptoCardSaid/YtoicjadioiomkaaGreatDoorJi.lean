/- Texts of this claim, one behind the other: Off OffAsk Off2 AskOn Light TreeInv TreeKeep TreeKeep2 TreeMove Good GoodNew EditLaw GlobP GlobI GlobK Shelf2. Conditions: what each lemma states. -/
import Derived.Test.YtoicjadioiomkaaGreatDoorJh
import Derived.Test.YtoicjadioiomkaaGreatDoorJg
import Derived.Test.YtoicjadioiomkaaGreatDoorJa
import Derived.Lib.ValidLaws
import Derived.Lib.TrimU
import Derived.Lib.TrimUEq
import Derived.Test.YtoicjadioiomkaaGreatDoorJb
import Derived.Lib.OthersKept
import Derived.Test.YtoicjadioiomkaaGreatDoorJe
import Derived.DeepKeys4
import Derived.Shelf.Small.Wraps
import Derived.Shelf.Strings.Trim
import Derived.Shelf.Strings.Split
set_option linter.unusedVariables false
set_option linter.unusedSimpArgs false
namespace Go.Proofs.YtoicjadioiomkaaGreatDoor
section
open Go.RowKit Go.Op Go.Maps
end
section
open Go.RowKit Go.Op Go.Maps
structure CallP where
  what : Int
  path : ByteArray
  to_ : ByteArray
  data : ByteArray
  mode : Int
end
section
open Go.RowKit Go.Op Go.Maps
theorem dnew_bad (fp : Option Addr) (t : List Node) (n c : Nat) (w : World) (hR : Row w fp t) (hn : t.length = n) (hc : n ≤ c) (hcm : n ≤ maxLen) (hok : okTree t = false) (hF : Fits t) (hT : Tabs w) :
    Calls Tryz.prog 12 #[.slice fp n c] w fun e w' => e = .returned (.tuple #[.pointer none, .int .i64 60]) ∧ Off [] w w' := by
  have HCK := Lib.hid (check_any fp t n c w hR hn hc hcm hF hT); have hck : chkV t = 60 := by unfold chkV; rw [hok]; rfl
  rw [hck] at HCK; clear hR hn hok hF hT hck
  go_enter Tryz.func12, Tryz.ntmps12
  go_wp2_with fail
  refine HCK.out.mono ?_
  rintro e w1 ⟨rfl, ho1⟩
  go_wp2_with fail
  refine bodyPost_ret (v := .tuple #[.pointer none, .int .i64 60]) ?_ rfl ⟨rfl, ho1⟩
  have hres : Tryz.f12.results = #[.tmp 2, .tmp 3] := rfl
  simp only [results, hres]
  go_simp
theorem nmOf_pair : ∀ (t : List Node) (i : Nat), Sorted t → (nmOf t i).Pairwise fun x y => order (str x.1) (str y.1) < 0
  | [], _, _ => List.Pairwise.nil
  | n :: t, i, h => by
    unfold nmOf; obtain ⟨h1, h2⟩ := List.pairwise_cons.1 h; refine List.pairwise_cons.2 ⟨fun x hx => ?_, nmOf_pair t (i + 1) h2⟩; have hh : hasN (nmOf t (i + 1)) x.1 = true := by
      have : ∀ l : NameL, x ∈ l → hasN l x.1 = true := fun l => by
        induction l with
        | nil => intro h; cases h
        | cons y l ih =>
          intro h
          rcases List.mem_cons.1 h with rfl | h
          · simp [hasN]
          simp [hasN, ih h]
      exact this _ hx
    obtain ⟨m, hm, e⟩ := (nmOf_has _ _ _).1 hh; rw [← e]; exact h1 m hm
theorem sortN_new {t : List Node} (hs : Sorted t) : PDisk.sortN (nmOf t 0) = nmOf t 0 := by
  unfold PDisk.sortN; refine List.mergeSort_of_pairwise ((nmOf_pair t 0 hs).imp fun {x y} h => ?_); have := order_swap (str x.1) (str y.1); have h2 : ¬ order (str y.1) (str x.1) < 0 := by omega
  rw [decide_eq_false h2]
  rfl
theorem nmOf_tree (I : List Ino) : ∀ (t : List Node) (i : Nat), (∀ (j : Nat) (n : Node), t[j]? = some n → (I[i + j]?).map (·.node) = some n) → (nmOf t i).filterMap (fun x => ((if x.2 = 0 then none else I[x.2 - 1]?) : Option Ino).map fun n => ({ n.node with path := x.1 } : Node)) = t
  | [], _, _ => rfl
  | n :: t, i, h => by
    unfold nmOf; have h0 := h 0 n rfl; rw [Nat.add_zero] at h0; obtain ⟨m, hm, he⟩ := Option.map_eq_some_iff.1 h0; rw [List.filterMap_cons]; simp only [Nat.add_sub_cancel, Nat.succ_ne_zero, if_false, hm, Option.map_some, he]; rw [nmOf_tree I t (i + 1) (fun j k hj => by rw [show i + 1 + j = i + (j + 1) by omega]; exact h (j + 1) k hj)]
theorem tree_new {D : PDisk} {t : List Node} (hs : Sorted t) (hn : D.names = nmOf t 0) (hi : D.inos.map (·.node) = t) : D.tree = t := by
  unfold PDisk.tree; rw [hn, sortN_new hs]; refine nmOf_tree D.inos t 0 (fun j n hj => ?_); rw [Nat.zero_add, ← List.getElem?_map, hi]; exact hj
end
section
open Go.RowKit Go.Op Go.Maps
def askD (D : PDisk) (c : CallP) : PDisk :=
  if c.what = 0 then (D.write c.path c.data c.mode).2 else if c.what = 1 then (D.mkdir c.path).2 else if c.what = 2 then (D.link c.path c.to_).2 else if c.what = 3 then (D.remove c.path).2
  else if c.what = 4 then (D.move c.path c.to_).2 else if c.what = 5 then (D.replace c.path c.to_).2 else if c.what = 6 then (D.sync c.path).2 else if c.what = 7 then D.flush.2
  else if c.what = 8 then (D.get c.path).2 else if c.what = 9 then (D.namesC c.path).2 else if c.what = 10 then D.boot [] else D
end
section
open Go.RowKit Go.Op Go.Maps
end
section
open Go.RowKit Go.Op Go.Maps
def TreeL (D : PDisk) (l : NameL) : Prop :=
  ∀ x ∈ l, okPath (str x.1) = true ∧ ∀ q : ByteArray, okPath (str q) = true → within (str x.1) (str q) = true → x.1 ≠ q → ∃ m, D.inode (lookN l q) = some m ∧ m.node.kind = 2
theorem mvP_within {p q x : ByteArray} (hp : okPath (str p) = true) (hq : okPath (str q) = true) (hx : within (str x) (str p) = true) (hk : okPath (str (mvP p q x)) = true) : within (str (mvP p q x)) (str q) = true := by
  have hxk : okPath (str x) = true := by
    unfold within at hx; simp only [Bool.and_eq_true] at hx; exact hx.1
  have e : str (x.extract p.size x.size) = (str x).drop (str p).length := by
    rw [str_extract, str_size, ← str_size x]; exact List.take_of_length_le (by rw [List.length_drop]; exact Nat.le_refl _)
  have e2 : str (mvP p q x) = str q ++ (str x).drop (str p).length := by unfold mvP; rw [str_append, e]
  refine (within_iff hk hq).2 ?_
  rcases (within_iff hxk hp).1 hx with h | ⟨s, h⟩
  · left; rw [e2, h]; simp
  right; exact ⟨s, by rw [e2, h]; simp⟩
theorem TreeL.free {D : PDisk} {n : Nat} (h : TreeL D D.names) (hk : Ok D n) (ha : Apart D.names) {p q : ByteArray} (hp : okPath (str p) = true) (hq : okPath (str q) = true) (ht : D.at_ q = none) : Free p q D.names := fun x hx hw => by
  cases hh : hasN D.names (mvP p q x.1)
  · rfl
  exfalso
  obtain ⟨y, hy, e⟩ := (hasN_iff _ _).1 hh; obtain ⟨h1, h2⟩ := h y hy
  by_cases e2 : y.1 = q
  · obtain ⟨m, -, hm⟩ := hk.inode ha hy
    rw [e2, ht] at hm
    cases hm
  obtain ⟨m, hm, -⟩ := h2 q hq (by rw [e]; exact mvP_within hp hq hw (by rw [← e]; exact h1)) e2; have h3 : D.at_ q = some m := hm
  rw [ht] at h3
  cases h3
theorem TreeL.mv {D : PDisk} {n : Nat} (h : TreeL D D.names) (hk : Ok D n) (ha : Apart D.names) {p q : ByteArray} (he : firstE (D.mvE p q) = 0) : Free p q D.names := by
  have h5 : ∀ y ∈ D.mvE p q, y.2 ≠ 0 := by
    intro y hy
    unfold PDisk.mvE at hy; simp only [List.mem_cons, List.not_mem_nil, or_false] at hy
    rcases hy with rfl | rfl | rfl | rfl | rfl | rfl <;> simp [PDisk.no, PDisk.gone, PDisk.there, PDisk.parentE]
  have k1 := firstE_zero h5 he (PDisk.no p) (by simp [PDisk.mvE]); have k2 := firstE_zero h5 he (PDisk.no q) (by simp [PDisk.mvE]); have k3 := firstE_zero h5 he (D.there q) (by simp [PDisk.mvE]); exact h.free hk ha (by simpa [PDisk.no] using k1) (by simpa [PDisk.no] using k2) (by simpa [PDisk.there] using k3)
end
section
open Go.RowKit Go.Op Go.Maps
theorem ok_parts {s : Str} (h : okPath s = true) : ∀ x ∈ parts s, okName x = true := by
  unfold okPath at h; simp only [Bool.and_eq_true] at h; exact List.all_eq_true.1 h.2
theorem anc_parent {p q : Str} (hp : okPath p = true) (hq : okPath q = true) (hw : within p q = true) (hne : p ≠ q) : parent p ≠ [] ∧ (okPath (parent p) = true → within (parent p) q = true) := by
  have hq0 : q ≠ [] := fun e => by subst e; exact absurd hq (by decide)
  unfold within at hw; rw [hp, hq, decide_eq_false hq0, Bool.true_and, Bool.false_or, Bool.true_and, List.isPrefixOf_iff_prefix] at hw; obtain ⟨t, ht⟩ := hw; have ht0 : t ≠ [] := fun e => hne (by subst e; rw [List.append_nil] at ht; exact (parts_inj ht).symm)
  have hd : (parts p).dropLast = parts q ++ t.dropLast := by rw [← ht, List.dropLast_append_of_ne_nil ht0]
  have hpn : parent p ≠ [] := by
    rw [parent_eq hp, hd]; refine joinP_ne (by simp [parts_ne q]) (fun x hx => okName_ne (ok_parts hp x ?_)); rw [← hd] at hx; exact List.dropLast_subset _ hx
  refine ⟨hpn, fun hk => ?_⟩
  unfold within; rw [hk, hq, decide_eq_false hq0, Bool.true_and, Bool.false_or, Bool.true_and, List.isPrefixOf_iff_prefix, parent_parts hp hpn, hd]; exact List.prefix_append _ _
def KS (D E : PDisk) : Prop := ∀ i m, D.inode i = some m → m.node.kind = 2 → ∃ m', E.inode i = some m' ∧ m'.node.kind = 2
theorem KS.of_inos {D E : PDisk} (h : E.inos = D.inos) : KS D E := fun i m hm hk => ⟨m, by unfold PDisk.inode at hm ⊢; rw [h]; exact hm, hk⟩
theorem TreeL.mono {D E : PDisk} {l : NameL} (h : TreeL D l) (hk : KS D E) : TreeL E l := fun x hx =>
  ⟨(h x hx).1, fun q h1 h2 h3 => by
    obtain ⟨m, hm, hk2⟩ := (h x hx).2 q h1 h2 h3; exact hk _ m hm hk2⟩
theorem KS.crash (D : PDisk) (f : FateP) : KS D (D.crash f) := fun i m hm hk => ⟨PDisk.tear f.torn m, by rw [crash_inode, hm]; rfl, by rw [tear_kind]; exact hk⟩
theorem KS.make (D : PDisk) (n : Node) (t : Int) (b : Bool) : KS D (D.make n t b) := fun i m hm hk => ⟨m, by
  unfold PDisk.inode PDisk.make at *
  split at hm
  · cases hm
  rename_i h
  rw [if_neg h]
  show (D.inos ++ [_])[i - 1]? = some m
  rw [List.getElem?_append_left (List.getElem?_eq_some_iff.1 hm).1]; exact hm, hk⟩
structure TreeD (D : PDisk) : Prop where
  names : TreeL D D.names
  safe : TreeL D D.safe
  later : ∀ l ∈ D.later, TreeL D l
theorem TreeD.crash {D : PDisk} (h : TreeD D) (f : FateP) : TreeD (D.crash f) := by
  have hk := KS.crash D f; have hn : TreeL (D.crash f) (D.crash f).names := by
    rcases crash_names D f with e | e
    · rw [e]; exact h.safe.mono hk
    exact (h.later _ e).mono hk
  exact ⟨hn, hn, fun l hl => by cases hl⟩
theorem TreeD.of {D E : PDisk} (h : TreeD D) (h1 : E.names = D.names) (h2 : E.safe = D.safe) (h3 : E.later = D.later) (hk : KS D E) : TreeD E :=
  ⟨by rw [h1]; exact h.names.mono hk, by rw [h2]; exact h.safe.mono hk, fun l hl => (h.later l (by rw [← h3]; exact hl)).mono hk⟩
theorem TreeD.change {D : PDisk} {l : NameL} (h : TreeD D) (hl : TreeL D l) : TreeD (D.change l) :=
  ⟨hl.mono (KS.of_inos rfl), h.safe.mono (KS.of_inos rfl), fun x hx => by
    rcases List.mem_append.1 (show x ∈ D.later ++ [l] from hx) with hx | hx
    · exact (h.later x hx).mono (KS.of_inos rfl)
    simp at hx; subst hx; exact hl.mono (KS.of_inos rfl)⟩
theorem at_of_has {D : PDisk} {n : Nat} (hk : Ok D n) (ha : Apart D.names) {p : ByteArray} (h : D.at_ p = none) : hasN D.names p = false := by
  cases hh : hasN D.names p
  · rfl
  obtain ⟨x, hx, rfl⟩ := (hasN_iff _ _).1 hh; obtain ⟨m, -, hm⟩ := hk.inode ha hx; rw [h] at hm
  cases hm
theorem has_of_at {D : PDisk} {p : ByteArray} {m : Ino} (h : D.at_ p = some m) : hasN D.names p = true := by
  cases hh : hasN D.names p
  · unfold PDisk.at_ PDisk.inode at h
    rw [lookN_of_not hh] at h; simp at h
  rfl
theorem TreeL.above {D : PDisk} (h : TreeL D D.names) {p q : ByteArray} (hp : okPath (str p) = true) (hd : D.dir (bs (parent (str p))) = true) (hq : okPath (str q) = true) (hw : within (str p) (str q) = true) (hne : p ≠ q) : ∃ m, D.at_ q = some m ∧ m.node.kind = 2 := by
  obtain ⟨h1, h2⟩ := anc_parent hp hq hw (fun e => hne (str_inj e)); have h3 : bs (parent (str p)) ≠ ⟨#[]⟩ := fun e => h1 (by rw [← str_bs (parent (str p)), e]; rfl)
  unfold PDisk.dir at hd; rw [decide_eq_false h3, Bool.false_or] at hd
  cases hat : D.at_ (bs (parent (str p))) with
  | none => rw [hat] at hd; cases hd
  | some m =>
    rw [hat] at hd; have hk : m.node.kind = 2 := by simpa using hd
    obtain ⟨y, hy, e⟩ := (hasN_iff _ _).1 (has_of_at hat); obtain ⟨k1, k2⟩ := h y hy; rw [e, str_bs] at k1 k2
    by_cases e2 : y.1 = q
    · exact ⟨m, by rw [← e2, e]; exact hat, hk⟩
    obtain ⟨m2, hm2, hk2⟩ := k2 q hq (h2 k1) (fun e3 => e2 (e.trans e3)); exact ⟨m2, hm2, hk2⟩
theorem TreeL.put {D : PDisk} (h : TreeL D D.names) {p : ByteArray} (i : Nat) (hp : okPath (str p) = true) (hd : D.dir (bs (parent (str p))) = true) (hno : hasN D.names p = false) : TreeL D (putN D.names p i) := fun x hx => by
  have hl : ∀ q, q ≠ p → lookN (putN D.names p i) q = lookN D.names q := fun q e => by rw [lookN_putN, if_neg (fun e2 => e e2.symm)]
  unfold putN at hx; rw [if_neg (by rw [hno]; decide)] at hx
  rcases List.mem_append.1 hx with hx | hx
  · refine ⟨(h x hx).1, fun q h1 h2 h3 => ?_⟩
    obtain ⟨m, hm, hk⟩ := (h x hx).2 q h1 h2 h3; refine ⟨m, ?_, hk⟩; rw [hl q (fun e => by
      subst e; unfold PDisk.inode at hm; rw [lookN_of_not hno] at hm; simp at hm)]
    exact hm
  simp at hx
  subst hx; refine ⟨hp, fun q h1 h2 h3 => ?_⟩; obtain ⟨m, hm, hk⟩ := h.above hp hd h1 h2 h3; exact ⟨m, by rw [hl q (fun e => h3 e.symm)]; exact hm, hk⟩
theorem TreeD.lay {D : PDisk} {n : Nat} (h : TreeD D) (hk : Ok D n) (ha : Apart D.names) (p : ByteArray) (x : Node) (full : Bool) (l : List (Bool × Int)) (hz : ∀ y ∈ l, y.2 ≠ 0) (h1 : PDisk.no p ∈ l) (h2 : D.parentE p ∈ l) (h3 : D.at_ p = none ∨ D.there p ∈ l) : TreeD (D.lay p x full l).2 := by
  unfold PDisk.lay; dsimp only
  split
  · exact h
  rename_i he
  have he : firstE (l ++ [(full || decide (1000 ≤ D.names.length), 71)]) = 0 := by simpa using he
  have hz2 : ∀ y ∈ l ++ [(full || decide (1000 ≤ D.names.length), (71 : Int))], y.2 ≠ 0 := fun y hy => by
    rcases List.mem_append.1 hy with hy | hy
    · exact hz y hy
    simp at hy; subst hy; simp
  have k1 := firstE_zero hz2 he _ (List.mem_append_left _ h1); have k2 := firstE_zero hz2 he _ (List.mem_append_left _ h2); have hat : D.at_ p = none := by
    rcases h3 with h3 | h3
    · exact h3
    have k3 := firstE_zero hz2 he _ (List.mem_append_left _ h3)
    simpa [PDisk.there] using k3
  have hm := KS.make D x D.clock (decide (x.kind = 1)); exact (h.of (E := D.make x D.clock (decide (x.kind = 1))) rfl rfl rfl hm).change ((h.names.put (D.inos.length + 1) (by simpa [PDisk.no] using k1) (by simpa [PDisk.parentE] using k2) (at_of_has hk ha hat)).mono hm)
theorem TreeD.remove_ {D : PDisk} (h : TreeD D) (p : ByteArray) : TreeD (D.remove_ p).2 := by
  unfold PDisk.remove_; dsimp only
  split
  · exact h
  rename_i he
  have he : firstE [PDisk.no p, D.gone p, (D.inside p, 72)] = 0 := by simpa using he
  have k := firstE_zero (by intro y hy; simp only [List.mem_cons, List.not_mem_nil, or_false] at hy; rcases hy with rfl | rfl | rfl <;> simp [PDisk.no, PDisk.gone]) he (D.inside p, 72) (by simp); have k : D.inside p = false := k
  refine h.change fun x hx => ?_
  obtain ⟨hx1, hx2⟩ := List.mem_filter.1 hx; refine ⟨(h.names x hx1).1, fun q h1 h2 h3 => ?_⟩; obtain ⟨m, hm, hk⟩ := (h.names x hx1).2 q h1 h2 h3; refine ⟨m, ?_, hk⟩; rw [lookN_delN, if_neg (fun e => by
    subst e; have := List.any_eq_false.1 k x hx1; unfold insP at this; rw [h2, decide_eq_false h3] at this; simp at this)]
  exact hm
end
section
open Go.RowKit Go.Op Go.Maps
theorem KS.set {D : PDisk} {i : Nat} {x : Ino} (h : ∀ o, D.inos[i]? = some o → o.node.kind = 2 → x.node.kind = 2) : KS D { D with inos := D.inos.set i x } := fun j m hm hk => by
  unfold PDisk.inode at hm ⊢
  split at hm
  · cases hm
  rename_i hj
  rw [if_neg hj]
  show ∃ m', (D.inos.set i x)[j - 1]? = some m' ∧ m'.node.kind = 2
  by_cases e : i = j - 1
  · subst e
    exact ⟨x, by rw [List.getElem?_set_self (List.getElem?_eq_some_iff.1 hm).1], h m hm hk⟩
  exact ⟨m, by rw [List.getElem?_set_ne e]; exact hm, hk⟩
theorem at_ino {D : PDisk} {p : ByteArray} {o : Ino} (h : D.at_ p = some o) : D.inos[lookN D.names p - 1]? = some o := by
  unfold PDisk.at_ PDisk.inode at h
  split at h
  · cases h
  exact h
theorem TreeD.write_ {D : PDisk} {n : Nat} (h : TreeD D) (hk : Ok D n) (ha : Apart D.names) (full : Bool) (p data : ByteArray) (mode : Int) : TreeD (D.write_ full p data mode).2 := by
  unfold PDisk.write_
  cases hat : D.at_ p with
  | none =>
    refine h.lay hk ha _ _ _ _ (by intro y hy; simp only [List.mem_cons, List.not_mem_nil, or_false] at hy; rcases hy with rfl | rfl | rfl | rfl <;> simp [PDisk.no, PDisk.parentE]) (by simp) (by simp) (.inl hat)
  | some o =>
    dsimp only
    split
    · exact h
    rename_i he
    have he : firstE ([PDisk.no p, (decide (65536 < data.size) || decide (mode < 0) || decide (511 < mode), 2), D.parentE p, (!decide (o.node.kind = 1), 73)] ++ [(full, 71)]) = 0 := by simpa using he
    have k := firstE_zero (by intro y hy; simp only [List.cons_append, List.nil_append, List.mem_cons, List.not_mem_nil, or_false] at hy; rcases hy with rfl | rfl | rfl | rfl | rfl <;> simp [PDisk.no, PDisk.parentE]) he (!decide (o.node.kind = 1), 73) (by simp); have k : (!decide (o.node.kind = 1)) = false := k
    have k1 : o.node.kind = 1 := by simpa using k
    refine h.of rfl rfl rfl (KS.set fun o2 h2 h3 => ?_)
    rw [at_ino hat] at h2
    cases h2
    rw [k1] at h3
    cases h3
theorem TreeD.sync_ {D : PDisk} (h : TreeD D) (p : ByteArray) : TreeD (D.sync_ p).2 := by
  unfold PDisk.sync_; dsimp only
  split
  · exact h
  cases hat : D.at_ p with
  | none => exact h
  | some o =>
    refine h.of rfl rfl rfl (KS.set fun o2 h2 h3 => ?_)
    rw [at_ino hat] at h2
    cases h2
    exact h3
theorem dir_of {D : PDisk} {p : ByteArray} {m : Ino} (h : D.at_ p = some m) (hk : m.node.kind = 2) : D.dir p = true := by
  unfold PDisk.dir; rw [h]; simp [hk]
theorem TreeD.replace_ {D : PDisk} (h : TreeD D) (p q : ByteArray) : TreeD (D.replace_ p q).2 := by
  unfold PDisk.replace_; dsimp only
  split
  · exact h
  rename_i he
  have he : firstE [PDisk.no p, PDisk.no q, (decide (p = q), 2), D.gone p, (D.dir p || D.dir q, 73), D.parentE q] = 0 := by simpa using he
  have hz : ∀ y ∈ [PDisk.no p, PDisk.no q, (decide (p = q), 2), D.gone p, (D.dir p || D.dir q, 73), D.parentE q], y.2 ≠ 0 := by
    intro y hy
    simp only [List.mem_cons, List.not_mem_nil, or_false] at hy
    rcases hy with rfl | rfl | rfl | rfl | rfl | rfl <;> simp [PDisk.no, PDisk.gone, PDisk.parentE]
  have k1 : okPath (str q) = true := by simpa [PDisk.no] using firstE_zero hz he (PDisk.no q) (by simp)
  have k2 : (D.dir p || D.dir q) = false := firstE_zero hz he (D.dir p || D.dir q, 73) (by simp)
  have k3 : D.dir (bs (parent (str q))) = true := by simpa [PDisk.parentE] using firstE_zero hz he (D.parentE q) (by simp)
  rw [Bool.or_eq_false_iff] at k2; have hl : ∀ a m, D.at_ a = some m → m.node.kind = 2 → lookN (delN (putN D.names q (lookN D.names p)) p) a = lookN D.names a := fun a m h1 h2 => by
    have hd := dir_of h1 h2; rw [lookN_delN, if_neg (fun e => by subst e; rw [hd] at k2; exact absurd k2.1 (by decide)), lookN_putN, if_neg (fun e => by subst e; rw [hd] at k2; exact absurd k2.2 (by decide))]
  refine h.change fun x hx => ?_
  obtain ⟨hx1, hx2⟩ := List.mem_filter.1 hx; have hx3 : x ∈ D.names ∨ x.1 = q := by
    unfold putN at hx1
    split at hx1
    · obtain ⟨y, hy, rfl⟩ := List.mem_map.1 hx1
      split
      · right; rfl
      left; exact hy
    rcases List.mem_append.1 hx1 with hx1 | hx1
    · left; exact hx1
    right; simp at hx1; rw [hx1]
  rcases hx3 with hx3 | hx3
  · refine ⟨(h.names x hx3).1, fun a h1 h2 h3 => ?_⟩
    obtain ⟨m, hm, hk⟩ := (h.names x hx3).2 a h1 h2 h3; exact ⟨m, by rw [hl a m hm hk]; exact hm, hk⟩
  rw [hx3]; refine ⟨k1, fun a h1 h2 h3 => ?_⟩; obtain ⟨m, hm, hk⟩ := h.names.above k1 k3 h1 h2 h3; exact ⟨m, by rw [hl a m hm hk]; exact hm, hk⟩
end
section
open Go.RowKit Go.Op Go.Maps
theorem within_trans {x a p : Str} (h1 : within x a = true) (h2 : within a p = true) : within x p = true := by
  unfold within at *; simp only [Bool.and_eq_true, Bool.or_eq_true, decide_eq_true_eq, List.isPrefixOf_iff_prefix] at *; refine ⟨h1.1, ?_⟩
  rcases h2.2 with h | h
  · exact .inl h
  right
  refine ⟨h.1, ?_⟩
  rcases h1.2 with h3 | h3
  · subst h3
    exact absurd h2.1 (by decide)
  exact h.2.trans h3.2
theorem moved_apart {p q : ByteArray} {l : NameL} (ha : Apart l) (hp : okPath (str p) = true) (hf : Free p q l) : Apart (l.map (mvN p q)) := by
  unfold Apart at *; rw [List.pairwise_map]; refine ha.imp_of_mem fun {x y} hx hy hne => ?_
  have hno : ∀ x y, x ∈ l → y ∈ l → within (str x.1) (str p) = true → mvP p q x.1 ≠ y.1 := fun x y hx hy hw e => by
    have := hf x hx hw; rw [show hasN l (mvP p q x.1) = true from (hasN_iff _ _).2 ⟨y, hy, e.symm⟩] at this
    cases this
  unfold mvN
  split
  · rename_i h1
    split
    · rename_i h2; exact fun e => hne (mvP_inj hp h1 h2 e)
    exact hno x y hx hy h1
  split
  · rename_i h2; exact (hno y x hy hx h2).symm
  exact hne
theorem moved_stay {p q a : ByteArray} {l : NameL} (ha : Apart l) (hp : okPath (str p) = true) (hf : Free p q l) (hh : hasN l a = true) (hw : within (str a) (str p) = false) : lookN (l.map (mvN p q)) a = lookN l a := by
  obtain ⟨x, hx, rfl⟩ := (hasN_iff _ _).1 hh; have h1 : x ∈ l.map (mvN p q) := List.mem_map.2 ⟨x, hx, by unfold mvN; rw [hw]; rfl⟩
  rw [lookN_mem (moved_apart ha hp hf) h1, lookN_mem ha hx]
theorem moved_gone {p q a : ByteArray} {l : NameL} (ha : Apart l) (hp : okPath (str p) = true) (hf : Free p q l) (hh : hasN l a = true) (hw : within (str a) (str p) = true) : lookN (l.map (mvN p q)) (mvP p q a) = lookN l a := by
  obtain ⟨x, hx, rfl⟩ := (hasN_iff _ _).1 hh; have h1 : (mvP p q x.1, x.2) ∈ l.map (mvN p q) := List.mem_map.2 ⟨x, hx, by unfold mvN; rw [hw]; rfl⟩
  rw [lookN_mem (moved_apart ha hp hf) h1, lookN_mem ha hx]
theorem has_of_inode {D : PDisk} {l : NameL} {a : ByteArray} {m : Ino} (h : D.inode (lookN l a) = some m) : hasN l a = true := by
  cases hh : hasN l a
  · unfold PDisk.inode at h
    rw [lookN_of_not hh] at h; simp at h
  rfl
theorem ok_above {a s : Str} (h : okPath (a ++ 47 :: s) = true) : okPath a = true := by
  unfold okPath at *; simp only [Bool.and_eq_true, decide_eq_true_eq, List.all_eq_true] at *; obtain ⟨⟨h1, h2⟩, h3⟩ := h; refine ⟨⟨?_, ?_⟩, fun x hx => h3 x ?_⟩
  · rw [List.length_append] at h1; omega
  · rw [List.count_append] at h2; omega
  rw [parts_append]; exact List.mem_append_left _ hx
theorem mvP_str {p q x : ByteArray} (hp : okPath (str p) = true) (hx : within (str x) (str p) = true) : ∃ tl, str x = str p ++ tl ∧ str (mvP p q x) = str q ++ tl := by
  have e : str (x.extract p.size x.size) = (str x).drop (str p).length := by
    rw [str_extract, str_size, ← str_size x]; exact List.take_of_length_le (by rw [List.length_drop]; exact Nat.le_refl _)
  have hxk : okPath (str x) = true := by
    unfold within at hx; simp only [Bool.and_eq_true] at hx; exact hx.1
  refine ⟨(str x).drop (str p).length, ?_, by unfold mvP; rw [str_append, e]⟩
  rcases (within_iff hxk hp).1 hx with h | ⟨s, h⟩
  · rw [h]; simp
  rw [h]; simp
theorem TreeD.move_ {D : PDisk} {n : Nat} (h : TreeD D) (hk : Ok D n) (ha : Apart D.names) (p q : ByteArray) : TreeD (D.move_ p q).2 := by
  unfold PDisk.move_; dsimp only
  split
  · exact h
  rename_i he
  split
  · exact h
  rename_i hb
  have he : firstE (D.mvE p q) = 0 := by simpa using he
  have hf := h.names.mv hk ha he; have h5 : ∀ y ∈ D.mvE p q, y.2 ≠ 0 := by
    intro y hy
    unfold PDisk.mvE at hy; simp only [List.mem_cons, List.not_mem_nil, or_false] at hy
    rcases hy with rfl | rfl | rfl | rfl | rfl | rfl <;> simp [PDisk.no, PDisk.gone, PDisk.there, PDisk.parentE]
  have k1 : okPath (str p) = true := by simpa [PDisk.no] using firstE_zero h5 he (PDisk.no p) (by simp [PDisk.mvE])
  have k2 : okPath (str q) = true := by simpa [PDisk.no] using firstE_zero h5 he (PDisk.no q) (by simp [PDisk.mvE])
  have k5 : D.dir (bs (parent (str q))) = true := by simpa [PDisk.parentE] using firstE_zero h5 he (D.parentE q) (by simp [PDisk.mvE])
  have k6 : within (str q) (str p) = false := firstE_zero h5 he (within (str q) (str p), 2) (by simp [PDisk.mvE])
  refine h.change fun y hy => ?_
  obtain ⟨x, hx, rfl⟩ := List.mem_map.1 hy; obtain ⟨hx1, hx2⟩ := h.names x hx
  cases hw : within (str x.1) (str p)
  · have e : mvN p q x = x := by unfold mvN; rw [hw]; rfl
    rw [e]; refine ⟨hx1, fun a h1 h2 h3 => ?_⟩; obtain ⟨m, hm, hkd⟩ := hx2 a h1 h2 h3; have hna : within (str a) (str p) = false := by
      cases e2 : within (str a) (str p)
      · rfl
      rw [within_trans h2 e2] at hw; cases hw
    exact ⟨m, by rw [moved_stay ha k1 hf (has_of_inode hm) hna]; exact hm, hkd⟩
  have e : (mvN p q x).1 = mvP p q x.1 := by unfold mvN; rw [hw]; rfl
  rw [e]; have hok : okPath (str (mvP p q x.1)) = true := by
    have hb2 : D.badMv p q = false := by simpa using hb
    have := List.any_eq_false.1 hb2 x hx; unfold badP at this; rw [hw] at this
    simpa using this
  refine ⟨hok, fun a h1 h2 h3 => ?_⟩
  obtain ⟨tl, e1, e2⟩ := mvP_str (q := q) k1 hw; obtain ⟨s2, e3⟩ : ∃ s2, str (mvP p q x.1) = str a ++ 47 :: s2 := by
    rcases (within_iff hok h1).1 h2 with e3 | e3
    · exact absurd (str_inj e3) h3
    exact e3
  have key : ∀ c, str a = str q ++ c → tl = c ++ 47 :: s2 → ∃ m, D.inode (lookN (D.names.map (mvN p q)) a) = some m ∧ m.node.kind = 2 := fun c e4 e5 => by
    have hxa : str x.1 = (str p ++ c) ++ 47 :: s2 := by rw [e1, e5, List.append_assoc]
    have hoa : okPath (str (bs (str p ++ c))) = true := by
      rw [str_bs]; exact ok_above (s := s2) (by rw [← hxa]; exact hx1)
    have hwa : within (str x.1) (str (bs (str p ++ c))) = true := (within_iff hx1 hoa).2 (.inr ⟨s2, by rw [str_bs]; exact hxa⟩)
    obtain ⟨m, hm, hkd⟩ := hx2 (bs (str p ++ c)) hoa hwa (fun e6 => by
      have e7 := congrArg (fun z => (str z).length) e6; rw [hxa, str_bs, List.length_append] at e7; simp at e7)
    have hwp : within (str (bs (str p ++ c))) (str p) = true := by
      refine (within_iff hoa k1).2 ?_
      rw [str_bs]
      cases c with
      | nil => left; simp
      | cons z c =>
        right
        rcases (within_iff hx1 k1).1 hw with e6 | ⟨s, e6⟩
        · rw [e1, e5] at e6
          have := congrArg List.length e6; simp at this
        rw [e1, e5] at e6; have e8 := List.append_cancel_left e6; rw [List.cons_append] at e8; injection e8 with e9 _
        exact ⟨c, by rw [e9]⟩
    have hmv : mvP p q (bs (str p ++ c)) = a := by
      obtain ⟨t2, e6, e7⟩ := mvP_str (q := q) k1 hwp; rw [str_bs] at e6; have e8 := List.append_cancel_left e6
      apply str_inj
      rw [e7, ← e8, e4]
    have := moved_gone ha k1 hf (has_of_inode hm) hwp; rw [hmv] at this; exact ⟨m, by rw [this]; exact hm, hkd⟩
  rw [e2] at e3
  rcases List.append_eq_append_iff.1 e3 with ⟨c, e4, e5⟩ | ⟨c, e4, e5⟩
  · exact key c e4 e5
  cases c with
  | nil => exact key [] (by rw [e4]; simp) (by rw [List.nil_append] at e5; rw [← e5]; rfl)
  | cons z c =>
    have hz : z = 47 := by
      rw [List.cons_append] at e5; injection e5 with e6 _
      exact e6.symm
    subst hz; have hqa : within (str q) (str a) = true := (within_iff k2 h1).2 (.inr ⟨c, e4⟩)
    obtain ⟨m, hm, hkd⟩ := h.names.above k2 k5 h1 hqa (fun e6 => by
      rw [e6] at e4; have := congrArg List.length e4; simp at this)
    have hna : within (str a) (str p) = false := by
      cases e6 : within (str a) (str p)
      · rfl
      rw [within_trans hqa e6] at k6; cases k6
    exact ⟨m, by rw [moved_stay ha k1 hf (has_of_at hm) hna]; exact hm, hkd⟩
end
section
open Go.RowKit Go.Op Go.Maps
structure Good (D : PDisk) : Prop where
  tree : TreeD D
  names : Apart D.names
  safe : Apart D.safe
  later : ∀ l ∈ D.later, Apart l
theorem Good.crash {D : PDisk} (h : Good D) (f : FateP) : Good (D.crash f) := by
  have hn : Apart (D.crash f).names := by
    rcases crash_names D f with e | e
    · rw [e]; exact h.safe
    exact h.later _ e
  exact ⟨h.tree.crash f, hn, hn, fun l hl => by cases hl⟩
theorem Good.of {D E : PDisk} (h : Good D) (ht : TreeD E) (h1 : E.names = D.names) (h2 : E.safe = D.safe) (h3 : E.later = D.later) : Good E :=
  ⟨ht, by rw [h1]; exact h.names, by rw [h2]; exact h.safe, fun l hl => h.later l (by rw [← h3]; exact hl)⟩
theorem Good.step {D : PDisk} (h : Good D) (c p q : ByteArray) : Good (D.step c p q).2.2 := by
  have ht : Good { D with clock := D.clock + 1, trace := D.trace ++ [⟨c, p, q⟩] } := h.of (h.tree.of rfl rfl rfl (KS.of_inos rfl)) rfl rfl rfl
  unfold PDisk.step
  split
  · exact h
  dsimp only
  split
  · exact ht
  split
  · exact ht.crash _
  split <;> exact ht
theorem Good.change {D : PDisk} {l : NameL} (h : Good D) (ht : TreeD (D.change l)) (hl : Apart l) : Good (D.change l) :=
  ⟨ht, hl, h.safe, fun x hx => by
    rcases List.mem_append.1 (show x ∈ D.later ++ [l] from hx) with hx | hx
    · exact h.later x hx
    simp at hx; subst hx; exact hl⟩
theorem Good.lay {D : PDisk} (h : Good D) {p : ByteArray} {x : Node} {full : Bool} {l : List (Bool × Int)} (ht : TreeD (D.lay p x full l).2) : Good (D.lay p x full l).2 := by
  unfold PDisk.lay at ht ⊢; dsimp only at ht ⊢
  split
  · exact h
  rename_i he
  rw [if_neg he] at ht; exact Good.change (D := D.make x D.clock (decide (x.kind = 1))) ⟨h.tree.of rfl rfl rfl (KS.make D x D.clock (decide (x.kind = 1))), h.names, h.safe, h.later⟩ ht (h.names.put _ _)
theorem Good.call {D : PDisk} {n : Nat} (h : Good D) (hk : Ok D n) (c p q : ByteArray) (k : PDisk → Bool → Int × PDisk) (hh : ∀ E full, Good E → Ok E (n + 1) → Good (k E full).2) : Good (D.call c p q k).2 := by
  have h1 := h.step c p q; have h2 := PDisk.step_ok hk c p q; unfold PDisk.call; generalize D.step c p q = st at h1 h2; obtain ⟨full, e, E⟩ := st; dsimp only at h1 h2 ⊢
  split
  · exact h1
  exact hh E full h1 h2
theorem Good.ask {D : PDisk} {n : Nat} (h : Good D) (hk : Ok D n) (c : CallP) : Good (askD D c) := by
  unfold askD
  split
  · refine h.call hk _ _ _ _ fun E full hE hO => ?_
    have ht := hE.tree.write_ hO hE.names full c.path c.data c.mode; unfold PDisk.write_ at ht ⊢
    cases hat : E.at_ c.path with
    | none => rw [hat] at ht; exact hE.lay ht
    | some o =>
      rw [hat] at ht; dsimp only at ht ⊢
      split
      · exact hE
      rename_i he
      rw [if_neg he] at ht; exact hE.of ht rfl rfl rfl
  split
  · refine h.call hk _ _ _ _ fun E full hE hO => hE.lay (hE.tree.lay hO hE.names _ _ _ _ ?_ (by simp) (by simp) (.inr (by simp)))
    intro y hy
    simp only [List.mem_cons, List.not_mem_nil, or_false] at hy
    rcases hy with rfl | rfl | rfl <;> simp [PDisk.no, PDisk.parentE, PDisk.there]
  split
  · refine h.call hk _ _ _ _ fun E full hE hO => hE.lay (hE.tree.lay hO hE.names _ _ _ _ ?_ (by simp) (by simp) (.inr (by simp)))
    intro y hy
    simp only [List.mem_cons, List.not_mem_nil, or_false] at hy
    rcases hy with rfl | rfl | rfl | rfl <;> simp [PDisk.no, PDisk.parentE, PDisk.there]
  split
  · refine h.call hk _ _ _ _ fun E full hE hO => ?_
    have ht := hE.tree.remove_ c.path; unfold PDisk.remove_ at ht ⊢; dsimp only at ht ⊢
    split
    · exact hE
    rename_i he
    rw [if_neg he] at ht; exact hE.change ht (hE.names.del _)
  split
  · refine h.call hk _ _ _ _ fun E full hE hO => ?_
    have ht := hE.tree.move_ hO hE.names c.path c.to_; unfold PDisk.move_ at ht ⊢; dsimp only at ht ⊢
    split
    · exact hE
    rename_i he
    rw [if_neg he] at ht
    split
    · exact hE
    rename_i hb
    rw [if_neg hb] at ht; have he2 : firstE (E.mvE c.path c.to_) = 0 := by simpa using he
    have h5 : ∀ y ∈ E.mvE c.path c.to_, y.2 ≠ 0 := by
      intro y hy
      unfold PDisk.mvE at hy; simp only [List.mem_cons, List.not_mem_nil, or_false] at hy
      rcases hy with rfl | rfl | rfl | rfl | rfl | rfl <;> simp [PDisk.no, PDisk.gone, PDisk.there, PDisk.parentE]
    have k1 : okPath (str c.path) = true := by simpa [PDisk.no] using firstE_zero h5 he2 (PDisk.no c.path) (by simp [PDisk.mvE])
    exact hE.change ht (moved_apart hE.names k1 (hE.tree.names.mv hO hE.names he2))
  split
  · refine h.call hk _ _ _ _ fun E full hE hO => ?_
    have ht := hE.tree.replace_ c.path c.to_; unfold PDisk.replace_ at ht ⊢; dsimp only at ht ⊢
    split
    · exact hE
    rename_i he
    rw [if_neg he] at ht; exact hE.change ht ((hE.names.put _ _).del _)
  split
  · refine h.call hk _ _ _ _ fun E full hE hO => ?_
    have ht := hE.tree.sync_ c.path; unfold PDisk.sync_ at ht ⊢; dsimp only at ht ⊢
    split
    · exact hE
    rename_i he
    rw [if_neg he] at ht; dsimp only at ht
    cases hat : E.at_ c.path with
    | none => exact hE
    | some o => rw [hat] at ht; exact hE.of ht rfl rfl rfl
  split
  · exact h.call hk _ _ _ _ fun E full hE hO => ⟨⟨hE.tree.names.mono (KS.of_inos rfl), hE.tree.names.mono (KS.of_inos rfl), fun l hl => by cases hl⟩, hE.names, hE.names, fun l hl => by cases hl⟩
  split
  · have h1 := h.step ⟨#[71, 101, 116]⟩ c.path ⟨#[]⟩
    unfold PDisk.get; generalize D.step ⟨#[71, 101, 116]⟩ c.path ⟨#[]⟩ = st at h1; obtain ⟨full, e, E⟩ := st; dsimp only at h1 ⊢
    split <;> exact h1
  split
  · have h1 := h.step ⟨#[78, 97, 109, 101, 115]⟩ c.path ⟨#[]⟩
    unfold PDisk.namesC; generalize D.step ⟨#[78, 97, 109, 101, 115]⟩ c.path ⟨#[]⟩ = st at h1; obtain ⟨full, e, E⟩ := st; dsimp only at h1 ⊢
    split <;> exact h1
  split
  · exact h.of (h.tree.of rfl rfl rfl (KS.of_inos rfl)) rfl rfl rfl
  exact h
end
section
open Go.RowKit Go.Op Go.Maps
theorem nmOf_mem : ∀ (t : List Node) (i j : Nat) (m : Node), t[j]? = some m → (m.path, i + j + 1) ∈ nmOf t i
  | [], _, _, _, h => by simp at h
  | n :: t, i, 0, m, h => by
    simp at h
    subst h; unfold nmOf; exact List.mem_cons_self ..
  | n :: t, i, j + 1, m, h => by
    unfold nmOf; have := nmOf_mem t (i + 1) j m (by simpa using h); rw [show i + 1 + j + 1 = i + (j + 1) + 1 by omega] at this; exact List.mem_cons_of_mem _ this
theorem nmOf_apart {t : List Node} (hs : Sorted t) : Apart (nmOf t 0) := (nmOf_pair t 0 hs).imp fun {x y} h e => by
  rw [e, order_self] at h; omega
theorem new_inode {t : List Node} (hs : Sorted t) {m : Node} (hm : m ∈ t) : (newD t).inode (lookN (nmOf t 0) m.path) = some ⟨m, 0, false⟩ := by
  obtain ⟨j, hj, rfl⟩ := List.getElem_of_mem hm; have h1 := nmOf_mem t 0 j _ (List.getElem?_eq_getElem hj); have h2 := lookN_mem (nmOf_apart hs) h1; dsimp only at h2; rw [h2]; unfold PDisk.inode; rw [if_neg (by omega), show 0 + j + 1 - 1 = j by omega]
  show (t.map fun n => (⟨n, 0, false⟩ : Ino))[j]? = _
  rw [List.getElem?_map, List.getElem?_eq_getElem hj]
  rfl
theorem okTree_up {t : List Node} (hok : okTree t = true) {n : Node} (hn : n ∈ t) (hp : parent n.p ≠ []) : ∃ m ∈ t, m.p = parent n.p ∧ m.kind = 2 := by
  obtain ⟨i, hi, rfl⟩ := List.getElem_of_mem hn; have h := okTree_next hok i hi; unfold okNext at h; simp only [Bool.and_eq_true] at h; have h2 := h.2; unfold isDir at h2; rw [decide_eq_false hp, Bool.false_or] at h2; obtain ⟨m, hm, hk⟩ := List.any_eq_true.1 h2; simp only [Bool.and_eq_true, decide_eq_true_eq] at hk; exact ⟨m, List.mem_of_mem_take hm, hk.1, hk.2⟩
theorem new_climb {t : List Node} (hok : okTree t = true) {q : ByteArray} (hq : okPath (str q) = true) : ∀ (k : Nat) (n : Node), n ∈ t → (parts n.p).length ≤ k → within n.p (str q) = true → n.path ≠ q → ∃ m ∈ t, m.path = q ∧ m.kind = 2
  | 0, n, _, hk, _, _ => absurd (List.length_eq_zero_iff.1 (Nat.le_zero.1 hk)) (parts_ne n.p)
  | k + 1, n, hn, hk, hw, hne => by
    have hnp := okTree_path hok hn; obtain ⟨h1, h2⟩ := anc_parent hnp hq hw (fun e => hne (str_inj e)); obtain ⟨m, hm, h3, h4⟩ := okTree_up hok hn h1
    by_cases e : m.path = q
    · exact ⟨m, hm, e, h4⟩
    refine new_climb hok hq k m hm ?_ (by rw [h3]; exact h2 (by rw [← h3]; exact okTree_path hok hm)) e
    rw [h3, parent_parts hnp h1, List.length_dropLast]; omega
theorem good_new {t : List Node} (hok : okTree t = true) : Good (newD t) := by
  have hs := okTree_sorted hok; have hT : TreeL (newD t) (nmOf t 0) := fun x hx => by
    obtain ⟨n, hn, e⟩ := (nmOf_has t 0 x.1).1 ((hasN_iff _ _).2 ⟨x, hx, rfl⟩); rw [← e]; refine ⟨okTree_path hok hn, fun q h1 h2 h3 => ?_⟩; obtain ⟨m, hm, h4, h5⟩ := new_climb hok h1 _ n hn (Nat.le_refl _) h2 h3; exact ⟨⟨m, 0, false⟩, by rw [← h4]; exact new_inode hs hm, h5⟩
  exact ⟨⟨hT, hT, fun l hl => by cases hl⟩, nmOf_apart hs, nmOf_apart hs, fun l hl => by cases hl⟩
end
section
open Go.RowKit Go.Op Go.Maps
section
variable {D : PDisk} {n : Nat} {path : ByteArray} {v X : List Node}
theorem tree_node (hk : Ok D n) (ha : Apart D.names) {x : ByteArray × Nat} (hx : x ∈ D.names) : ∃ m, D.inode x.2 = some m ∧ ({ m.node with path := x.1 } : Node) ∈ D.tree := by
  obtain ⟨m, h1, -⟩ := hk.inode ha hx; refine ⟨m, h1, List.mem_filterMap.2 ⟨x, List.mem_mergeSort.2 hx, ?_⟩⟩; rw [h1]
  rfl
theorem node_tree (hk : Ok D n) (ha : Apart D.names) {y : Node} (hy : y ∈ D.tree) : ∃ x ∈ D.names, ∃ m, D.inode x.2 = some m ∧ y = { m.node with path := x.1 } := by
  obtain ⟨x, hx, e⟩ := List.mem_filterMap.1 hy; have hx := List.mem_mergeSort.1 hx; obtain ⟨m, h1, -⟩ := hk.inode ha hx; rw [h1] at e; exact ⟨x, hx, m, h1, (by simpa using e : ({ m.node with path := x.1 } : Node) = y).symm⟩
structure Fine (D : PDisk) (n : Nat) : Prop where
  ok : Ok D n
  good : Good D
  light : Light D
end
end
section
open Go.Lib (decodeL validD)
end
section
open Go.RowKit Go.Op
open Go.Lib (validD decodeL)
end
section
open Go.RowKit Go.Op Go.Maps
section
variable {w w' : World} {b A B i j : Nat} {Bad : Nat → Nat → Prop}
end
end
end Go.Proofs.YtoicjadioiomkaaGreatDoor
namespace Go.Proofs
open Go.Shelf
def Tryz.lays160_ren : Go.Shelf.Ren := ⟨fun | 160 => 232 | 232 => 281 | 231 => 280 | 227 => 282 | 234 => 284 | 233 => 283 | 236 => 286 | 235 => 285 | 228 => 301 | 271 => 318 | 151 => 317 | 197 => 248 | 120 => 330 | 152 => 299 | 260 => 298 | 137 => 325 | 119 => 326 | 224 => 296 | 225 => 295 | 217 => 294 | 266 => 323 | n => n, fun | 9 => 9 | 4 => 4 | 3 => 3 | 5 => 5 | 117 => 335 | 116 => 334 | 0 => 0 | 124 => 338 | 21 => 21 | 105 => 295 | 46 => 231 | 119 => 298 | 139 => 301 | 138 => 300 | n => n, fun | 3 => 1 | 4 => 2 | n => n⟩
theorem Tryz.lays160 : Go.Proofs.Lays.n160 Tryz.prog Tryz.lays160_ren := {
  mixed := by kernel_rfl
  f119 := Tryz.func326.trans (congrArg some (by kernel_rfl))
  f120 := Tryz.func330.trans (congrArg some (by kernel_rfl))
  f137 := Tryz.func325.trans (congrArg some (by kernel_rfl))
  f151 := Tryz.func317.trans (congrArg some (by kernel_rfl))
  f152 := Tryz.func299.trans (congrArg some (by kernel_rfl))
  f160 := Tryz.func232.trans (congrArg some (by kernel_rfl))
  f197 := Tryz.func248.trans (congrArg some (by kernel_rfl))
  f217 := Tryz.func294.trans (congrArg some (by kernel_rfl))
  f224 := Tryz.func296.trans (congrArg some (by kernel_rfl))
  f225 := Tryz.func295.trans (congrArg some (by kernel_rfl))
  f227 := Tryz.func282.trans (congrArg some (by kernel_rfl))
  f228 := Tryz.func301.trans (congrArg some (by kernel_rfl))
  f231 := Tryz.func280.trans (congrArg some (by kernel_rfl))
  f232 := Tryz.func281.trans (congrArg some (by kernel_rfl))
  f233 := Tryz.func283.trans (congrArg some (by kernel_rfl))
  f234 := Tryz.func284.trans (congrArg some (by kernel_rfl))
  f235 := Tryz.func285.trans (congrArg some (by kernel_rfl))
  f236 := Tryz.func286.trans (congrArg some (by kernel_rfl))
  f260 := Tryz.func298.trans (congrArg some (by kernel_rfl))
  f266 := Tryz.func323.trans (congrArg some (by kernel_rfl))
  f271 := Tryz.func318.trans (congrArg some (by kernel_rfl))
  t0 := Tryz.underlying0
  a0 := Tryz.isAgg0
  z0 := Tryz.sizeOf0
  v0 := Tryz.zeroValue0
  t3 := Tryz.underlying3
  a3 := Tryz.isAgg3
  z3 := Tryz.sizeOf3
  v3 := Tryz.zeroValue3
  t4 := Tryz.underlying4
  a4 := Tryz.isAgg4
  z4 := Tryz.sizeOf4
  v4 := Tryz.zeroValue4
  t5 := Tryz.underlying5
  a5 := Tryz.isAgg5
  z5 := Tryz.sizeOf5
  v5 := Tryz.zeroValue5
  t9 := Tryz.underlying9
  a9 := Tryz.isAgg9
  z9 := Tryz.sizeOf9
  v9 := Tryz.zeroValue9
  t21 := Tryz.underlying21
  a21 := Tryz.isAgg21
  z21 := Tryz.sizeOf21
  v21 := Tryz.zeroValue21
  t46 := Tryz.underlying231
  a46 := Tryz.isAgg231
  z46 := Tryz.sizeOf231
  v46 := Tryz.zeroValue231
  t105 := Tryz.underlying295
  a105 := Tryz.isAgg295
  z105 := Tryz.sizeOf295
  v105 := Tryz.zeroValue295
  t116 := Tryz.underlying334
  a116 := Tryz.isAgg334
  z116 := Tryz.sizeOf334
  t117 := Tryz.underlying335
  a117 := Tryz.isAgg335
  z117 := Tryz.sizeOf335
  v117 := Tryz.zeroValue335
  t119 := Tryz.underlying298
  a119 := Tryz.isAgg298
  z119 := Tryz.sizeOf298
  t124 := Tryz.underlying338
  a124 := Tryz.isAgg338
  z124 := Tryz.sizeOf338
  v124 := Tryz.zeroValue338
  t138 := Tryz.underlying300
  a138 := Tryz.isAgg300
  z138 := Tryz.sizeOf300
  v138 := Tryz.zeroValue300
  t139 := Tryz.underlying301
  a139 := Tryz.isAgg301
  z139 := Tryz.sizeOf301
  v139 := Tryz.zeroValue301
  g3 := by kernel_rfl
  g4 := by kernel_rfl }
end Go.Proofs
