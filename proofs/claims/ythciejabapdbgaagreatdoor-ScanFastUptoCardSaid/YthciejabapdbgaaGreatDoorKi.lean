/- Texts of this claim, one behind the other: Off OffAsk Off2 DOff AskOn Light TreeInv TreeKeep TreeKeep2 TreeMove Good GoodNew EditLaw GlobP GlobI GlobK Shelf2. Conditions: what each lemma states. -/
import Derived.Test.YthciejabapdbgaaGreatDoorKh
import Derived.Test.YthciejabapdbgaaGreatDoorKg
import Derived.Test.YthciejabapdbgaaGreatDoorKa
import Derived.Lib.ValidLaws
import Derived.Lib.TrimU
import Derived.Lib.TrimUEq
import Derived.Test.YthciejabapdbgaaGreatDoorKb
import Derived.Lib.OthersKept
import Derived.Test.YthciejabapdbgaaGreatDoorKe
import Derived.DeepKeys4
import Derived.Shelf.Small.Wraps
import Derived.Shelf.Strings.Trim
import Derived.Shelf.Strings.Split
set_option linter.unusedVariables false
set_option linter.unusedSimpArgs false
namespace Go.Proofs.YthciejabapdbgaaGreatDoor
section
open Go.RowKit Go.Op Go.Maps
end
section
open Go.RowKit Go.Op Go.Maps
structure CallP where
  what : Int
  path : ByteArray
  to_ : ByteArray
  data : ByteArray
  mode : Int
end
section
open Go.RowKit Go.Op Go.Maps
theorem dnew_bad (fp : Option Addr) (t : List Node) (n c : Nat) (w : World) (hR : Row w fp t) (hn : t.length = n) (hc : n ≤ c) (hcm : n ≤ maxLen) (hok : okTree t = false) (hF : Fits t) (hT : Tabs w) :
    Calls Tryz.prog 10 #[.slice fp n c] w fun e w' => e = .returned (.tuple #[.pointer none, .int .i64 60]) ∧ Off [] w w' := by
  have HCK := Lib.hid (check_any fp t n c w hR hn hc hcm hF hT); have hck : chkV t = 60 := by unfold chkV; rw [hok]; rfl
  rw [hck] at HCK; clear hR hn hok hF hT hck
  go_enter Tryz.func10, Tryz.ntmps10
  go_wp2_with fail
  refine HCK.out.mono ?_
  rintro e w1 ⟨rfl, ho1⟩
  go_wp2_with fail
  refine bodyPost_ret (v := .tuple #[.pointer none, .int .i64 60]) ?_ rfl ⟨rfl, ho1⟩
  have hres : Tryz.f10.results = #[.tmp 2, .tmp 3] := rfl
  simp only [results, hres]
  go_simp
theorem nmOf_pair : ∀ (t : List Node) (i : Nat), Sorted t → (nmOf t i).Pairwise fun x y => order (str x.1) (str y.1) < 0
  | [], _, _ => List.Pairwise.nil
  | n :: t, i, h => by
    unfold nmOf; obtain ⟨h1, h2⟩ := List.pairwise_cons.1 h; refine List.pairwise_cons.2 ⟨fun x hx => ?_, nmOf_pair t (i + 1) h2⟩; have hh : hasN (nmOf t (i + 1)) x.1 = true := by
      have : ∀ l : NameL, x ∈ l → hasN l x.1 = true := fun l => by
        induction l with
        | nil => intro h; cases h
        | cons y l ih =>
          intro h
          rcases List.mem_cons.1 h with rfl | h
          · simp [hasN]
          simp [hasN, ih h]
      exact this _ hx
    obtain ⟨m, hm, e⟩ := (nmOf_has _ _ _).1 hh; rw [← e]; exact h1 m hm
theorem sortN_new {t : List Node} (hs : Sorted t) : PDisk.sortN (nmOf t 0) = nmOf t 0 := by
  unfold PDisk.sortN; refine List.mergeSort_of_pairwise ((nmOf_pair t 0 hs).imp fun {x y} h => ?_); have := order_swap (str x.1) (str y.1); have h2 : ¬ order (str y.1) (str x.1) < 0 := by omega
  rw [decide_eq_false h2]
  rfl
theorem nmOf_tree (I : List Ino) : ∀ (t : List Node) (i : Nat), (∀ (j : Nat) (n : Node), t[j]? = some n → (I[i + j]?).map (·.node) = some n) → (nmOf t i).filterMap (fun x => ((if x.2 = 0 then none else I[x.2 - 1]?) : Option Ino).map fun n => ({ n.node with path := x.1 } : Node)) = t
  | [], _, _ => rfl
  | n :: t, i, h => by
    unfold nmOf; have h0 := h 0 n rfl; rw [Nat.add_zero] at h0; obtain ⟨m, hm, he⟩ := Option.map_eq_some_iff.1 h0; rw [List.filterMap_cons]; simp only [Nat.add_sub_cancel, Nat.succ_ne_zero, if_false, hm, Option.map_some, he]; rw [nmOf_tree I t (i + 1) (fun j k hj => by rw [show i + 1 + j = i + (j + 1) by omega]; exact h (j + 1) k hj)]
theorem tree_new {D : PDisk} {t : List Node} (hs : Sorted t) (hn : D.names = nmOf t 0) (hi : D.inos.map (·.node) = t) : D.tree = t := by
  unfold PDisk.tree; rw [hn, sortN_new hs]; refine nmOf_tree D.inos t 0 (fun j n hj => ?_); rw [Nat.zero_add, ← List.getElem?_map, hi]; exact hj
end
section
open Go.RowKit Go.Op Go.Maps
end
section
open Go.RowKit Go.Op Go.Maps
def askD (D : PDisk) (c : CallP) : PDisk :=
  if c.what = 0 then (D.write c.path c.data c.mode).2 else if c.what = 1 then (D.mkdir c.path).2 else if c.what = 2 then (D.link c.path c.to_).2 else if c.what = 3 then (D.remove c.path).2
  else if c.what = 4 then (D.move c.path c.to_).2 else if c.what = 5 then (D.replace c.path c.to_).2 else if c.what = 6 then (D.sync c.path).2 else if c.what = 7 then D.flush.2
  else if c.what = 8 then (D.get c.path).2 else if c.what = 9 then (D.namesC c.path).2 else if c.what = 10 then D.boot [] else D
end
section
open Go.RowKit Go.Op Go.Maps
theorem Light.call {D : PDisk} (h : Light D) (c p q : ByteArray) (k : PDisk → Bool → Int × PDisk) (hk : ∀ E full, Light E → Light (k E full).2) : Light (D.call c p q k).2 := by
  have h1 := h.step c p q; unfold PDisk.call; generalize D.step c p q = st at h1; obtain ⟨full, e, E⟩ := st; dsimp only at h1 ⊢
  split
  · exact h1
  exact hk E full h1
theorem Light.same {D E : PDisk} (h : Light D) (e : E.inos = D.inos) : Light E := fun m hm => h m (by rw [← e]; exact hm)
theorem Light.lay {D : PDisk} (h : Light D) (p : ByteArray) (n : Node) (full : Bool) (l : List (Bool × Int)) (hn : n.data.size ≤ maxLen) : Light (D.lay p n full l).2 := by
  unfold PDisk.lay; dsimp only
  split
  · exact h
  intro m hm
  rcases List.mem_append.1 (show m ∈ D.inos ++ [⟨n, D.clock, decide (n.kind = 1)⟩] from hm) with hm | hm
  · exact h m hm
  simp at hm; subst hm; exact hn
theorem Light.set {D : PDisk} (h : Light D) (i : Nat) (x : Ino) (hx : x.node.data.size ≤ maxLen) : Light { D with inos := D.inos.set i x } := fun m hm => by
  rcases List.mem_or_eq_of_mem_set (show m ∈ D.inos.set i x from hm) with hm | rfl
  · exact h m hm
  exact hx
theorem Light.at_ {D : PDisk} (h : Light D) {p : ByteArray} {m : Ino} (hm : D.at_ p = some m) : m.node.data.size ≤ maxLen := by
  unfold PDisk.at_ PDisk.inode at hm
  split at hm
  · cases hm
  exact h m (List.mem_of_getElem? hm)
theorem Light.ask {D : PDisk} (h : Light D) (c : CallP) (hd : c.data.size ≤ maxLen) (ht : c.to_.size ≤ maxLen) : Light (askD D c) := by
  unfold askD
  split
  · refine h.call _ _ _ _ fun E full hE => ?_
    unfold PDisk.write_
    cases hat : E.at_ c.path with
    | none => exact hE.lay _ _ _ _ hd
    | some o =>
      dsimp only
      split
      · exact hE
      exact Light.set hE _ (⟨⟨⟨#[]⟩, 1, c.data, c.mode⟩, E.clock, true⟩ : Ino) hd
  split
  · exact h.call _ _ _ _ fun E full hE => hE.lay _ _ _ _ (by decide)
  split
  · exact h.call _ _ _ _ fun E full hE => hE.lay _ _ _ _ ht
  split
  · refine h.call _ _ _ _ fun E full hE => ?_
    unfold PDisk.remove_; dsimp only
    split
    · exact hE
    exact hE.same rfl
  split
  · refine h.call _ _ _ _ fun E full hE => ?_
    unfold PDisk.move_; dsimp only
    split
    · exact hE
    split
    · exact hE
    exact hE.same rfl
  split
  · refine h.call _ _ _ _ fun E full hE => ?_
    unfold PDisk.replace_; dsimp only
    split
    · exact hE
    exact hE.same rfl
  split
  · refine h.call _ _ _ _ fun E full hE => ?_
    unfold PDisk.sync_; dsimp only
    split
    · exact hE
    split
    · exact hE
    rename_i m hm
    refine hE.set _ _ ?_
    have := hE.at_ hm; exact this
  split
  · exact h.call _ _ _ _ fun E full hE => hE.same rfl
  split
  · have h1 := h.step ⟨#[71, 101, 116]⟩ c.path ⟨#[]⟩
    unfold PDisk.get; generalize D.step ⟨#[71, 101, 116]⟩ c.path ⟨#[]⟩ = st at h1; obtain ⟨full, e, E⟩ := st; dsimp only at h1 ⊢
    split <;> exact h1
  split
  · have h1 := h.step ⟨#[78, 97, 109, 101, 115]⟩ c.path ⟨#[]⟩
    unfold PDisk.namesC; generalize D.step ⟨#[78, 97, 109, 101, 115]⟩ c.path ⟨#[]⟩ = st at h1; obtain ⟨full, e, E⟩ := st; dsimp only at h1 ⊢
    split <;> exact h1
  split
  · exact h.same rfl
  exact h
end
section
open Go.RowKit Go.Op Go.Maps
def TreeL (D : PDisk) (l : NameL) : Prop :=
  ∀ x ∈ l, okPath (str x.1) = true ∧ ∀ q : ByteArray, okPath (str q) = true → within (str x.1) (str q) = true → x.1 ≠ q → ∃ m, D.inode (lookN l q) = some m ∧ m.node.kind = 2
theorem mvP_within {p q x : ByteArray} (hp : okPath (str p) = true) (hq : okPath (str q) = true) (hx : within (str x) (str p) = true) (hk : okPath (str (mvP p q x)) = true) : within (str (mvP p q x)) (str q) = true := by
  have hxk : okPath (str x) = true := by
    unfold within at hx; simp only [Bool.and_eq_true] at hx; exact hx.1
  have e : str (x.extract p.size x.size) = (str x).drop (str p).length := by
    rw [str_extract, str_size, ← str_size x]; exact List.take_of_length_le (by rw [List.length_drop]; exact Nat.le_refl _)
  have e2 : str (mvP p q x) = str q ++ (str x).drop (str p).length := by unfold mvP; rw [str_append, e]
  refine (within_iff hk hq).2 ?_
  rcases (within_iff hxk hp).1 hx with h | ⟨s, h⟩
  · left; rw [e2, h]; simp
  right; exact ⟨s, by rw [e2, h]; simp⟩
theorem TreeL.free {D : PDisk} {n : Nat} (h : TreeL D D.names) (hk : Ok D n) (ha : Apart D.names) {p q : ByteArray} (hp : okPath (str p) = true) (hq : okPath (str q) = true) (ht : D.at_ q = none) : Free p q D.names := fun x hx hw => by
  cases hh : hasN D.names (mvP p q x.1)
  · rfl
  exfalso
  obtain ⟨y, hy, e⟩ := (hasN_iff _ _).1 hh; obtain ⟨h1, h2⟩ := h y hy
  by_cases e2 : y.1 = q
  · obtain ⟨m, -, hm⟩ := hk.inode ha hy
    rw [e2, ht] at hm
    cases hm
  obtain ⟨m, hm, -⟩ := h2 q hq (by rw [e]; exact mvP_within hp hq hw (by rw [← e]; exact h1)) e2; have h3 : D.at_ q = some m := hm
  rw [ht] at h3
  cases h3
theorem TreeL.mv {D : PDisk} {n : Nat} (h : TreeL D D.names) (hk : Ok D n) (ha : Apart D.names) {p q : ByteArray} (he : firstE (D.mvE p q) = 0) : Free p q D.names := by
  have h5 : ∀ y ∈ D.mvE p q, y.2 ≠ 0 := by
    intro y hy
    unfold PDisk.mvE at hy; simp only [List.mem_cons, List.not_mem_nil, or_false] at hy
    rcases hy with rfl | rfl | rfl | rfl | rfl | rfl <;> simp [PDisk.no, PDisk.gone, PDisk.there, PDisk.parentE]
  have k1 := firstE_zero h5 he (PDisk.no p) (by simp [PDisk.mvE]); have k2 := firstE_zero h5 he (PDisk.no q) (by simp [PDisk.mvE]); have k3 := firstE_zero h5 he (D.there q) (by simp [PDisk.mvE]); exact h.free hk ha (by simpa [PDisk.no] using k1) (by simpa [PDisk.no] using k2) (by simpa [PDisk.there] using k3)
end
section
open Go.RowKit Go.Op Go.Maps
theorem ok_parts {s : Str} (h : okPath s = true) : ∀ x ∈ parts s, okName x = true := by
  unfold okPath at h; simp only [Bool.and_eq_true] at h; exact List.all_eq_true.1 h.2
theorem anc_parent {p q : Str} (hp : okPath p = true) (hq : okPath q = true) (hw : within p q = true) (hne : p ≠ q) : parent p ≠ [] ∧ (okPath (parent p) = true → within (parent p) q = true) := by
  have hq0 : q ≠ [] := fun e => by subst e; exact absurd hq (by decide)
  unfold within at hw; rw [hp, hq, decide_eq_false hq0, Bool.true_and, Bool.false_or, Bool.true_and, List.isPrefixOf_iff_prefix] at hw; obtain ⟨t, ht⟩ := hw; have ht0 : t ≠ [] := fun e => hne (by subst e; rw [List.append_nil] at ht; exact (parts_inj ht).symm)
  have hd : (parts p).dropLast = parts q ++ t.dropLast := by rw [← ht, List.dropLast_append_of_ne_nil ht0]
  have hpn : parent p ≠ [] := by
    rw [parent_eq hp, hd]; refine joinP_ne (by simp [parts_ne q]) (fun x hx => okName_ne (ok_parts hp x ?_)); rw [← hd] at hx; exact List.dropLast_subset _ hx
  refine ⟨hpn, fun hk => ?_⟩
  unfold within; rw [hk, hq, decide_eq_false hq0, Bool.true_and, Bool.false_or, Bool.true_and, List.isPrefixOf_iff_prefix, parent_parts hp hpn, hd]; exact List.prefix_append _ _
def KS (D E : PDisk) : Prop := ∀ i m, D.inode i = some m → m.node.kind = 2 → ∃ m', E.inode i = some m' ∧ m'.node.kind = 2
theorem KS.of_inos {D E : PDisk} (h : E.inos = D.inos) : KS D E := fun i m hm hk => ⟨m, by unfold PDisk.inode at hm ⊢; rw [h]; exact hm, hk⟩
theorem TreeL.mono {D E : PDisk} {l : NameL} (h : TreeL D l) (hk : KS D E) : TreeL E l := fun x hx =>
  ⟨(h x hx).1, fun q h1 h2 h3 => by
    obtain ⟨m, hm, hk2⟩ := (h x hx).2 q h1 h2 h3; exact hk _ m hm hk2⟩
theorem KS.crash (D : PDisk) (f : FateP) : KS D (D.crash f) := fun i m hm hk => ⟨PDisk.tear f.torn m, by rw [crash_inode, hm]; rfl, by rw [tear_kind]; exact hk⟩
theorem KS.make (D : PDisk) (n : Node) (t : Int) (b : Bool) : KS D (D.make n t b) := fun i m hm hk => ⟨m, by
  unfold PDisk.inode PDisk.make at *
  split at hm
  · cases hm
  rename_i h
  rw [if_neg h]
  show (D.inos ++ [_])[i - 1]? = some m
  rw [List.getElem?_append_left (List.getElem?_eq_some_iff.1 hm).1]; exact hm, hk⟩
structure TreeD (D : PDisk) : Prop where
  names : TreeL D D.names
  safe : TreeL D D.safe
  later : ∀ l ∈ D.later, TreeL D l
theorem TreeD.crash {D : PDisk} (h : TreeD D) (f : FateP) : TreeD (D.crash f) := by
  have hk := KS.crash D f; have hn : TreeL (D.crash f) (D.crash f).names := by
    rcases crash_names D f with e | e
    · rw [e]; exact h.safe.mono hk
    exact (h.later _ e).mono hk
  exact ⟨hn, hn, fun l hl => by cases hl⟩
theorem TreeD.of {D E : PDisk} (h : TreeD D) (h1 : E.names = D.names) (h2 : E.safe = D.safe) (h3 : E.later = D.later) (hk : KS D E) : TreeD E :=
  ⟨by rw [h1]; exact h.names.mono hk, by rw [h2]; exact h.safe.mono hk, fun l hl => (h.later l (by rw [← h3]; exact hl)).mono hk⟩
theorem TreeD.change {D : PDisk} {l : NameL} (h : TreeD D) (hl : TreeL D l) : TreeD (D.change l) :=
  ⟨hl.mono (KS.of_inos rfl), h.safe.mono (KS.of_inos rfl), fun x hx => by
    rcases List.mem_append.1 (show x ∈ D.later ++ [l] from hx) with hx | hx
    · exact (h.later x hx).mono (KS.of_inos rfl)
    simp at hx; subst hx; exact hl.mono (KS.of_inos rfl)⟩
theorem at_of_has {D : PDisk} {n : Nat} (hk : Ok D n) (ha : Apart D.names) {p : ByteArray} (h : D.at_ p = none) : hasN D.names p = false := by
  cases hh : hasN D.names p
  · rfl
  obtain ⟨x, hx, rfl⟩ := (hasN_iff _ _).1 hh; obtain ⟨m, -, hm⟩ := hk.inode ha hx; rw [h] at hm
  cases hm
theorem has_of_at {D : PDisk} {p : ByteArray} {m : Ino} (h : D.at_ p = some m) : hasN D.names p = true := by
  cases hh : hasN D.names p
  · unfold PDisk.at_ PDisk.inode at h
    rw [lookN_of_not hh] at h; simp at h
  rfl
theorem TreeL.above {D : PDisk} (h : TreeL D D.names) {p q : ByteArray} (hp : okPath (str p) = true) (hd : D.dir (bs (parent (str p))) = true) (hq : okPath (str q) = true) (hw : within (str p) (str q) = true) (hne : p ≠ q) : ∃ m, D.at_ q = some m ∧ m.node.kind = 2 := by
  obtain ⟨h1, h2⟩ := anc_parent hp hq hw (fun e => hne (str_inj e)); have h3 : bs (parent (str p)) ≠ ⟨#[]⟩ := fun e => h1 (by rw [← str_bs (parent (str p)), e]; rfl)
  unfold PDisk.dir at hd; rw [decide_eq_false h3, Bool.false_or] at hd
  cases hat : D.at_ (bs (parent (str p))) with
  | none => rw [hat] at hd; cases hd
  | some m =>
    rw [hat] at hd; have hk : m.node.kind = 2 := by simpa using hd
    obtain ⟨y, hy, e⟩ := (hasN_iff _ _).1 (has_of_at hat); obtain ⟨k1, k2⟩ := h y hy; rw [e, str_bs] at k1 k2
    by_cases e2 : y.1 = q
    · exact ⟨m, by rw [← e2, e]; exact hat, hk⟩
    obtain ⟨m2, hm2, hk2⟩ := k2 q hq (h2 k1) (fun e3 => e2 (e.trans e3)); exact ⟨m2, hm2, hk2⟩
theorem TreeL.put {D : PDisk} (h : TreeL D D.names) {p : ByteArray} (i : Nat) (hp : okPath (str p) = true) (hd : D.dir (bs (parent (str p))) = true) (hno : hasN D.names p = false) : TreeL D (putN D.names p i) := fun x hx => by
  have hl : ∀ q, q ≠ p → lookN (putN D.names p i) q = lookN D.names q := fun q e => by rw [lookN_putN, if_neg (fun e2 => e e2.symm)]
  unfold putN at hx; rw [if_neg (by rw [hno]; decide)] at hx
  rcases List.mem_append.1 hx with hx | hx
  · refine ⟨(h x hx).1, fun q h1 h2 h3 => ?_⟩
    obtain ⟨m, hm, hk⟩ := (h x hx).2 q h1 h2 h3; refine ⟨m, ?_, hk⟩; rw [hl q (fun e => by
      subst e; unfold PDisk.inode at hm; rw [lookN_of_not hno] at hm; simp at hm)]
    exact hm
  simp at hx
  subst hx; refine ⟨hp, fun q h1 h2 h3 => ?_⟩; obtain ⟨m, hm, hk⟩ := h.above hp hd h1 h2 h3; exact ⟨m, by rw [hl q (fun e => h3 e.symm)]; exact hm, hk⟩
theorem TreeD.lay {D : PDisk} {n : Nat} (h : TreeD D) (hk : Ok D n) (ha : Apart D.names) (p : ByteArray) (x : Node) (full : Bool) (l : List (Bool × Int)) (hz : ∀ y ∈ l, y.2 ≠ 0) (h1 : PDisk.no p ∈ l) (h2 : D.parentE p ∈ l) (h3 : D.at_ p = none ∨ D.there p ∈ l) : TreeD (D.lay p x full l).2 := by
  unfold PDisk.lay; dsimp only
  split
  · exact h
  rename_i he
  have he : firstE (l ++ [(full || decide (1000 ≤ D.names.length), 71)]) = 0 := by simpa using he
  have hz2 : ∀ y ∈ l ++ [(full || decide (1000 ≤ D.names.length), (71 : Int))], y.2 ≠ 0 := fun y hy => by
    rcases List.mem_append.1 hy with hy | hy
    · exact hz y hy
    simp at hy; subst hy; simp
  have k1 := firstE_zero hz2 he _ (List.mem_append_left _ h1); have k2 := firstE_zero hz2 he _ (List.mem_append_left _ h2); have hat : D.at_ p = none := by
    rcases h3 with h3 | h3
    · exact h3
    have k3 := firstE_zero hz2 he _ (List.mem_append_left _ h3)
    simpa [PDisk.there] using k3
  have hm := KS.make D x D.clock (decide (x.kind = 1)); exact (h.of (E := D.make x D.clock (decide (x.kind = 1))) rfl rfl rfl hm).change ((h.names.put (D.inos.length + 1) (by simpa [PDisk.no] using k1) (by simpa [PDisk.parentE] using k2) (at_of_has hk ha hat)).mono hm)
theorem TreeD.remove_ {D : PDisk} (h : TreeD D) (p : ByteArray) : TreeD (D.remove_ p).2 := by
  unfold PDisk.remove_; dsimp only
  split
  · exact h
  rename_i he
  have he : firstE [PDisk.no p, D.gone p, (D.inside p, 72)] = 0 := by simpa using he
  have k := firstE_zero (by intro y hy; simp only [List.mem_cons, List.not_mem_nil, or_false] at hy; rcases hy with rfl | rfl | rfl <;> simp [PDisk.no, PDisk.gone]) he (D.inside p, 72) (by simp); have k : D.inside p = false := k
  refine h.change fun x hx => ?_
  obtain ⟨hx1, hx2⟩ := List.mem_filter.1 hx; refine ⟨(h.names x hx1).1, fun q h1 h2 h3 => ?_⟩; obtain ⟨m, hm, hk⟩ := (h.names x hx1).2 q h1 h2 h3; refine ⟨m, ?_, hk⟩; rw [lookN_delN, if_neg (fun e => by
    subst e; have := List.any_eq_false.1 k x hx1; unfold insP at this; rw [h2, decide_eq_false h3] at this; simp at this)]
  exact hm
end
section
open Go.RowKit Go.Op Go.Maps
theorem KS.set {D : PDisk} {i : Nat} {x : Ino} (h : ∀ o, D.inos[i]? = some o → o.node.kind = 2 → x.node.kind = 2) : KS D { D with inos := D.inos.set i x } := fun j m hm hk => by
  unfold PDisk.inode at hm ⊢
  split at hm
  · cases hm
  rename_i hj
  rw [if_neg hj]
  show ∃ m', (D.inos.set i x)[j - 1]? = some m' ∧ m'.node.kind = 2
  by_cases e : i = j - 1
  · subst e
    exact ⟨x, by rw [List.getElem?_set_self (List.getElem?_eq_some_iff.1 hm).1], h m hm hk⟩
  exact ⟨m, by rw [List.getElem?_set_ne e]; exact hm, hk⟩
theorem at_ino {D : PDisk} {p : ByteArray} {o : Ino} (h : D.at_ p = some o) : D.inos[lookN D.names p - 1]? = some o := by
  unfold PDisk.at_ PDisk.inode at h
  split at h
  · cases h
  exact h
theorem TreeD.write_ {D : PDisk} {n : Nat} (h : TreeD D) (hk : Ok D n) (ha : Apart D.names) (full : Bool) (p data : ByteArray) (mode : Int) : TreeD (D.write_ full p data mode).2 := by
  unfold PDisk.write_
  cases hat : D.at_ p with
  | none =>
    refine h.lay hk ha _ _ _ _ (by intro y hy; simp only [List.mem_cons, List.not_mem_nil, or_false] at hy; rcases hy with rfl | rfl | rfl | rfl <;> simp [PDisk.no, PDisk.parentE]) (by simp) (by simp) (.inl hat)
  | some o =>
    dsimp only
    split
    · exact h
    rename_i he
    have he : firstE ([PDisk.no p, (decide (65536 < data.size) || decide (mode < 0) || decide (511 < mode), 2), D.parentE p, (!decide (o.node.kind = 1), 73)] ++ [(full, 71)]) = 0 := by simpa using he
    have k := firstE_zero (by intro y hy; simp only [List.cons_append, List.nil_append, List.mem_cons, List.not_mem_nil, or_false] at hy; rcases hy with rfl | rfl | rfl | rfl | rfl <;> simp [PDisk.no, PDisk.parentE]) he (!decide (o.node.kind = 1), 73) (by simp); have k : (!decide (o.node.kind = 1)) = false := k
    have k1 : o.node.kind = 1 := by simpa using k
    refine h.of rfl rfl rfl (KS.set fun o2 h2 h3 => ?_)
    rw [at_ino hat] at h2
    cases h2
    rw [k1] at h3
    cases h3
theorem TreeD.sync_ {D : PDisk} (h : TreeD D) (p : ByteArray) : TreeD (D.sync_ p).2 := by
  unfold PDisk.sync_; dsimp only
  split
  · exact h
  cases hat : D.at_ p with
  | none => exact h
  | some o =>
    refine h.of rfl rfl rfl (KS.set fun o2 h2 h3 => ?_)
    rw [at_ino hat] at h2
    cases h2
    exact h3
theorem dir_of {D : PDisk} {p : ByteArray} {m : Ino} (h : D.at_ p = some m) (hk : m.node.kind = 2) : D.dir p = true := by
  unfold PDisk.dir; rw [h]; simp [hk]
theorem TreeD.replace_ {D : PDisk} (h : TreeD D) (p q : ByteArray) : TreeD (D.replace_ p q).2 := by
  unfold PDisk.replace_; dsimp only
  split
  · exact h
  rename_i he
  have he : firstE [PDisk.no p, PDisk.no q, (decide (p = q), 2), D.gone p, (D.dir p || D.dir q, 73), D.parentE q] = 0 := by simpa using he
  have hz : ∀ y ∈ [PDisk.no p, PDisk.no q, (decide (p = q), 2), D.gone p, (D.dir p || D.dir q, 73), D.parentE q], y.2 ≠ 0 := by
    intro y hy
    simp only [List.mem_cons, List.not_mem_nil, or_false] at hy
    rcases hy with rfl | rfl | rfl | rfl | rfl | rfl <;> simp [PDisk.no, PDisk.gone, PDisk.parentE]
  have k1 : okPath (str q) = true := by simpa [PDisk.no] using firstE_zero hz he (PDisk.no q) (by simp)
  have k2 : (D.dir p || D.dir q) = false := firstE_zero hz he (D.dir p || D.dir q, 73) (by simp)
  have k3 : D.dir (bs (parent (str q))) = true := by simpa [PDisk.parentE] using firstE_zero hz he (D.parentE q) (by simp)
  rw [Bool.or_eq_false_iff] at k2; have hl : ∀ a m, D.at_ a = some m → m.node.kind = 2 → lookN (delN (putN D.names q (lookN D.names p)) p) a = lookN D.names a := fun a m h1 h2 => by
    have hd := dir_of h1 h2; rw [lookN_delN, if_neg (fun e => by subst e; rw [hd] at k2; exact absurd k2.1 (by decide)), lookN_putN, if_neg (fun e => by subst e; rw [hd] at k2; exact absurd k2.2 (by decide))]
  refine h.change fun x hx => ?_
  obtain ⟨hx1, hx2⟩ := List.mem_filter.1 hx; have hx3 : x ∈ D.names ∨ x.1 = q := by
    unfold putN at hx1
    split at hx1
    · obtain ⟨y, hy, rfl⟩ := List.mem_map.1 hx1
      split
      · right; rfl
      left; exact hy
    rcases List.mem_append.1 hx1 with hx1 | hx1
    · left; exact hx1
    right; simp at hx1; rw [hx1]
  rcases hx3 with hx3 | hx3
  · refine ⟨(h.names x hx3).1, fun a h1 h2 h3 => ?_⟩
    obtain ⟨m, hm, hk⟩ := (h.names x hx3).2 a h1 h2 h3; exact ⟨m, by rw [hl a m hm hk]; exact hm, hk⟩
  rw [hx3]; refine ⟨k1, fun a h1 h2 h3 => ?_⟩; obtain ⟨m, hm, hk⟩ := h.names.above k1 k3 h1 h2 h3; exact ⟨m, by rw [hl a m hm hk]; exact hm, hk⟩
end
section
open Go.RowKit Go.Op Go.Maps
theorem within_trans {x a p : Str} (h1 : within x a = true) (h2 : within a p = true) : within x p = true := by
  unfold within at *; simp only [Bool.and_eq_true, Bool.or_eq_true, decide_eq_true_eq, List.isPrefixOf_iff_prefix] at *; refine ⟨h1.1, ?_⟩
  rcases h2.2 with h | h
  · exact .inl h
  right
  refine ⟨h.1, ?_⟩
  rcases h1.2 with h3 | h3
  · subst h3
    exact absurd h2.1 (by decide)
  exact h.2.trans h3.2
theorem moved_apart {p q : ByteArray} {l : NameL} (ha : Apart l) (hp : okPath (str p) = true) (hf : Free p q l) : Apart (l.map (mvN p q)) := by
  unfold Apart at *; rw [List.pairwise_map]; refine ha.imp_of_mem fun {x y} hx hy hne => ?_
  have hno : ∀ x y, x ∈ l → y ∈ l → within (str x.1) (str p) = true → mvP p q x.1 ≠ y.1 := fun x y hx hy hw e => by
    have := hf x hx hw; rw [show hasN l (mvP p q x.1) = true from (hasN_iff _ _).2 ⟨y, hy, e.symm⟩] at this
    cases this
  unfold mvN
  split
  · rename_i h1
    split
    · rename_i h2; exact fun e => hne (mvP_inj hp h1 h2 e)
    exact hno x y hx hy h1
  split
  · rename_i h2; exact (hno y x hy hx h2).symm
  exact hne
theorem moved_stay {p q a : ByteArray} {l : NameL} (ha : Apart l) (hp : okPath (str p) = true) (hf : Free p q l) (hh : hasN l a = true) (hw : within (str a) (str p) = false) : lookN (l.map (mvN p q)) a = lookN l a := by
  obtain ⟨x, hx, rfl⟩ := (hasN_iff _ _).1 hh; have h1 : x ∈ l.map (mvN p q) := List.mem_map.2 ⟨x, hx, by unfold mvN; rw [hw]; rfl⟩
  rw [lookN_mem (moved_apart ha hp hf) h1, lookN_mem ha hx]
theorem moved_gone {p q a : ByteArray} {l : NameL} (ha : Apart l) (hp : okPath (str p) = true) (hf : Free p q l) (hh : hasN l a = true) (hw : within (str a) (str p) = true) : lookN (l.map (mvN p q)) (mvP p q a) = lookN l a := by
  obtain ⟨x, hx, rfl⟩ := (hasN_iff _ _).1 hh; have h1 : (mvP p q x.1, x.2) ∈ l.map (mvN p q) := List.mem_map.2 ⟨x, hx, by unfold mvN; rw [hw]; rfl⟩
  rw [lookN_mem (moved_apart ha hp hf) h1, lookN_mem ha hx]
theorem has_of_inode {D : PDisk} {l : NameL} {a : ByteArray} {m : Ino} (h : D.inode (lookN l a) = some m) : hasN l a = true := by
  cases hh : hasN l a
  · unfold PDisk.inode at h
    rw [lookN_of_not hh] at h; simp at h
  rfl
theorem ok_above {a s : Str} (h : okPath (a ++ 47 :: s) = true) : okPath a = true := by
  unfold okPath at *; simp only [Bool.and_eq_true, decide_eq_true_eq, List.all_eq_true] at *; obtain ⟨⟨h1, h2⟩, h3⟩ := h; refine ⟨⟨?_, ?_⟩, fun x hx => h3 x ?_⟩
  · rw [List.length_append] at h1; omega
  · rw [List.count_append] at h2; omega
  rw [parts_append]; exact List.mem_append_left _ hx
theorem mvP_str {p q x : ByteArray} (hp : okPath (str p) = true) (hx : within (str x) (str p) = true) : ∃ tl, str x = str p ++ tl ∧ str (mvP p q x) = str q ++ tl := by
  have e : str (x.extract p.size x.size) = (str x).drop (str p).length := by
    rw [str_extract, str_size, ← str_size x]; exact List.take_of_length_le (by rw [List.length_drop]; exact Nat.le_refl _)
  have hxk : okPath (str x) = true := by
    unfold within at hx; simp only [Bool.and_eq_true] at hx; exact hx.1
  refine ⟨(str x).drop (str p).length, ?_, by unfold mvP; rw [str_append, e]⟩
  rcases (within_iff hxk hp).1 hx with h | ⟨s, h⟩
  · rw [h]; simp
  rw [h]; simp
theorem TreeD.move_ {D : PDisk} {n : Nat} (h : TreeD D) (hk : Ok D n) (ha : Apart D.names) (p q : ByteArray) : TreeD (D.move_ p q).2 := by
  unfold PDisk.move_; dsimp only
  split
  · exact h
  rename_i he
  split
  · exact h
  rename_i hb
  have he : firstE (D.mvE p q) = 0 := by simpa using he
  have hf := h.names.mv hk ha he; have h5 : ∀ y ∈ D.mvE p q, y.2 ≠ 0 := by
    intro y hy
    unfold PDisk.mvE at hy; simp only [List.mem_cons, List.not_mem_nil, or_false] at hy
    rcases hy with rfl | rfl | rfl | rfl | rfl | rfl <;> simp [PDisk.no, PDisk.gone, PDisk.there, PDisk.parentE]
  have k1 : okPath (str p) = true := by simpa [PDisk.no] using firstE_zero h5 he (PDisk.no p) (by simp [PDisk.mvE])
  have k2 : okPath (str q) = true := by simpa [PDisk.no] using firstE_zero h5 he (PDisk.no q) (by simp [PDisk.mvE])
  have k5 : D.dir (bs (parent (str q))) = true := by simpa [PDisk.parentE] using firstE_zero h5 he (D.parentE q) (by simp [PDisk.mvE])
  have k6 : within (str q) (str p) = false := firstE_zero h5 he (within (str q) (str p), 2) (by simp [PDisk.mvE])
  refine h.change fun y hy => ?_
  obtain ⟨x, hx, rfl⟩ := List.mem_map.1 hy; obtain ⟨hx1, hx2⟩ := h.names x hx
  cases hw : within (str x.1) (str p)
  · have e : mvN p q x = x := by unfold mvN; rw [hw]; rfl
    rw [e]; refine ⟨hx1, fun a h1 h2 h3 => ?_⟩; obtain ⟨m, hm, hkd⟩ := hx2 a h1 h2 h3; have hna : within (str a) (str p) = false := by
      cases e2 : within (str a) (str p)
      · rfl
      rw [within_trans h2 e2] at hw; cases hw
    exact ⟨m, by rw [moved_stay ha k1 hf (has_of_inode hm) hna]; exact hm, hkd⟩
  have e : (mvN p q x).1 = mvP p q x.1 := by unfold mvN; rw [hw]; rfl
  rw [e]; have hok : okPath (str (mvP p q x.1)) = true := by
    have hb2 : D.badMv p q = false := by simpa using hb
    have := List.any_eq_false.1 hb2 x hx; unfold badP at this; rw [hw] at this
    simpa using this
  refine ⟨hok, fun a h1 h2 h3 => ?_⟩
  obtain ⟨tl, e1, e2⟩ := mvP_str (q := q) k1 hw; obtain ⟨s2, e3⟩ : ∃ s2, str (mvP p q x.1) = str a ++ 47 :: s2 := by
    rcases (within_iff hok h1).1 h2 with e3 | e3
    · exact absurd (str_inj e3) h3
    exact e3
  have key : ∀ c, str a = str q ++ c → tl = c ++ 47 :: s2 → ∃ m, D.inode (lookN (D.names.map (mvN p q)) a) = some m ∧ m.node.kind = 2 := fun c e4 e5 => by
    have hxa : str x.1 = (str p ++ c) ++ 47 :: s2 := by rw [e1, e5, List.append_assoc]
    have hoa : okPath (str (bs (str p ++ c))) = true := by
      rw [str_bs]; exact ok_above (s := s2) (by rw [← hxa]; exact hx1)
    have hwa : within (str x.1) (str (bs (str p ++ c))) = true := (within_iff hx1 hoa).2 (.inr ⟨s2, by rw [str_bs]; exact hxa⟩)
    obtain ⟨m, hm, hkd⟩ := hx2 (bs (str p ++ c)) hoa hwa (fun e6 => by
      have e7 := congrArg (fun z => (str z).length) e6; rw [hxa, str_bs, List.length_append] at e7; simp at e7)
    have hwp : within (str (bs (str p ++ c))) (str p) = true := by
      refine (within_iff hoa k1).2 ?_
      rw [str_bs]
      cases c with
      | nil => left; simp
      | cons z c =>
        right
        rcases (within_iff hx1 k1).1 hw with e6 | ⟨s, e6⟩
        · rw [e1, e5] at e6
          have := congrArg List.length e6; simp at this
        rw [e1, e5] at e6; have e8 := List.append_cancel_left e6; rw [List.cons_append] at e8; injection e8 with e9 _
        exact ⟨c, by rw [e9]⟩
    have hmv : mvP p q (bs (str p ++ c)) = a := by
      obtain ⟨t2, e6, e7⟩ := mvP_str (q := q) k1 hwp; rw [str_bs] at e6; have e8 := List.append_cancel_left e6
      apply str_inj
      rw [e7, ← e8, e4]
    have := moved_gone ha k1 hf (has_of_inode hm) hwp; rw [hmv] at this; exact ⟨m, by rw [this]; exact hm, hkd⟩
  rw [e2] at e3
  rcases List.append_eq_append_iff.1 e3 with ⟨c, e4, e5⟩ | ⟨c, e4, e5⟩
  · exact key c e4 e5
  cases c with
  | nil => exact key [] (by rw [e4]; simp) (by rw [List.nil_append] at e5; rw [← e5]; rfl)
  | cons z c =>
    have hz : z = 47 := by
      rw [List.cons_append] at e5; injection e5 with e6 _
      exact e6.symm
    subst hz; have hqa : within (str q) (str a) = true := (within_iff k2 h1).2 (.inr ⟨c, e4⟩)
    obtain ⟨m, hm, hkd⟩ := h.names.above k2 k5 h1 hqa (fun e6 => by
      rw [e6] at e4; have := congrArg List.length e4; simp at this)
    have hna : within (str a) (str p) = false := by
      cases e6 : within (str a) (str p)
      · rfl
      rw [within_trans hqa e6] at k6; cases k6
    exact ⟨m, by rw [moved_stay ha k1 hf (has_of_at hm) hna]; exact hm, hkd⟩
end
section
open Go.RowKit Go.Op Go.Maps
structure Good (D : PDisk) : Prop where
  tree : TreeD D
  names : Apart D.names
  safe : Apart D.safe
  later : ∀ l ∈ D.later, Apart l
theorem Good.crash {D : PDisk} (h : Good D) (f : FateP) : Good (D.crash f) := by
  have hn : Apart (D.crash f).names := by
    rcases crash_names D f with e | e
    · rw [e]; exact h.safe
    exact h.later _ e
  exact ⟨h.tree.crash f, hn, hn, fun l hl => by cases hl⟩
theorem Good.of {D E : PDisk} (h : Good D) (ht : TreeD E) (h1 : E.names = D.names) (h2 : E.safe = D.safe) (h3 : E.later = D.later) : Good E :=
  ⟨ht, by rw [h1]; exact h.names, by rw [h2]; exact h.safe, fun l hl => h.later l (by rw [← h3]; exact hl)⟩
theorem Good.step {D : PDisk} (h : Good D) (c p q : ByteArray) : Good (D.step c p q).2.2 := by
  have ht : Good { D with clock := D.clock + 1, trace := D.trace ++ [⟨c, p, q⟩] } := h.of (h.tree.of rfl rfl rfl (KS.of_inos rfl)) rfl rfl rfl
  unfold PDisk.step
  split
  · exact h
  dsimp only
  split
  · exact ht
  split
  · exact ht.crash _
  split <;> exact ht
theorem Good.change {D : PDisk} {l : NameL} (h : Good D) (ht : TreeD (D.change l)) (hl : Apart l) : Good (D.change l) :=
  ⟨ht, hl, h.safe, fun x hx => by
    rcases List.mem_append.1 (show x ∈ D.later ++ [l] from hx) with hx | hx
    · exact h.later x hx
    simp at hx; subst hx; exact hl⟩
theorem Good.lay {D : PDisk} (h : Good D) {p : ByteArray} {x : Node} {full : Bool} {l : List (Bool × Int)} (ht : TreeD (D.lay p x full l).2) : Good (D.lay p x full l).2 := by
  unfold PDisk.lay at ht ⊢; dsimp only at ht ⊢
  split
  · exact h
  rename_i he
  rw [if_neg he] at ht; exact Good.change (D := D.make x D.clock (decide (x.kind = 1))) ⟨h.tree.of rfl rfl rfl (KS.make D x D.clock (decide (x.kind = 1))), h.names, h.safe, h.later⟩ ht (h.names.put _ _)
theorem Good.call {D : PDisk} {n : Nat} (h : Good D) (hk : Ok D n) (c p q : ByteArray) (k : PDisk → Bool → Int × PDisk) (hh : ∀ E full, Good E → Ok E (n + 1) → Good (k E full).2) : Good (D.call c p q k).2 := by
  have h1 := h.step c p q; have h2 := PDisk.step_ok hk c p q; unfold PDisk.call; generalize D.step c p q = st at h1 h2; obtain ⟨full, e, E⟩ := st; dsimp only at h1 h2 ⊢
  split
  · exact h1
  exact hh E full h1 h2
theorem Good.ask {D : PDisk} {n : Nat} (h : Good D) (hk : Ok D n) (c : CallP) : Good (askD D c) := by
  unfold askD
  split
  · refine h.call hk _ _ _ _ fun E full hE hO => ?_
    have ht := hE.tree.write_ hO hE.names full c.path c.data c.mode; unfold PDisk.write_ at ht ⊢
    cases hat : E.at_ c.path with
    | none => rw [hat] at ht; exact hE.lay ht
    | some o =>
      rw [hat] at ht; dsimp only at ht ⊢
      split
      · exact hE
      rename_i he
      rw [if_neg he] at ht; exact hE.of ht rfl rfl rfl
  split
  · refine h.call hk _ _ _ _ fun E full hE hO => hE.lay (hE.tree.lay hO hE.names _ _ _ _ ?_ (by simp) (by simp) (.inr (by simp)))
    intro y hy
    simp only [List.mem_cons, List.not_mem_nil, or_false] at hy
    rcases hy with rfl | rfl | rfl <;> simp [PDisk.no, PDisk.parentE, PDisk.there]
  split
  · refine h.call hk _ _ _ _ fun E full hE hO => hE.lay (hE.tree.lay hO hE.names _ _ _ _ ?_ (by simp) (by simp) (.inr (by simp)))
    intro y hy
    simp only [List.mem_cons, List.not_mem_nil, or_false] at hy
    rcases hy with rfl | rfl | rfl | rfl <;> simp [PDisk.no, PDisk.parentE, PDisk.there]
  split
  · refine h.call hk _ _ _ _ fun E full hE hO => ?_
    have ht := hE.tree.remove_ c.path; unfold PDisk.remove_ at ht ⊢; dsimp only at ht ⊢
    split
    · exact hE
    rename_i he
    rw [if_neg he] at ht; exact hE.change ht (hE.names.del _)
  split
  · refine h.call hk _ _ _ _ fun E full hE hO => ?_
    have ht := hE.tree.move_ hO hE.names c.path c.to_; unfold PDisk.move_ at ht ⊢; dsimp only at ht ⊢
    split
    · exact hE
    rename_i he
    rw [if_neg he] at ht
    split
    · exact hE
    rename_i hb
    rw [if_neg hb] at ht; have he2 : firstE (E.mvE c.path c.to_) = 0 := by simpa using he
    have h5 : ∀ y ∈ E.mvE c.path c.to_, y.2 ≠ 0 := by
      intro y hy
      unfold PDisk.mvE at hy; simp only [List.mem_cons, List.not_mem_nil, or_false] at hy
      rcases hy with rfl | rfl | rfl | rfl | rfl | rfl <;> simp [PDisk.no, PDisk.gone, PDisk.there, PDisk.parentE]
    have k1 : okPath (str c.path) = true := by simpa [PDisk.no] using firstE_zero h5 he2 (PDisk.no c.path) (by simp [PDisk.mvE])
    exact hE.change ht (moved_apart hE.names k1 (hE.tree.names.mv hO hE.names he2))
  split
  · refine h.call hk _ _ _ _ fun E full hE hO => ?_
    have ht := hE.tree.replace_ c.path c.to_; unfold PDisk.replace_ at ht ⊢; dsimp only at ht ⊢
    split
    · exact hE
    rename_i he
    rw [if_neg he] at ht; exact hE.change ht ((hE.names.put _ _).del _)
  split
  · refine h.call hk _ _ _ _ fun E full hE hO => ?_
    have ht := hE.tree.sync_ c.path; unfold PDisk.sync_ at ht ⊢; dsimp only at ht ⊢
    split
    · exact hE
    rename_i he
    rw [if_neg he] at ht; dsimp only at ht
    cases hat : E.at_ c.path with
    | none => exact hE
    | some o => rw [hat] at ht; exact hE.of ht rfl rfl rfl
  split
  · exact h.call hk _ _ _ _ fun E full hE hO => ⟨⟨hE.tree.names.mono (KS.of_inos rfl), hE.tree.names.mono (KS.of_inos rfl), fun l hl => by cases hl⟩, hE.names, hE.names, fun l hl => by cases hl⟩
  split
  · have h1 := h.step ⟨#[71, 101, 116]⟩ c.path ⟨#[]⟩
    unfold PDisk.get; generalize D.step ⟨#[71, 101, 116]⟩ c.path ⟨#[]⟩ = st at h1; obtain ⟨full, e, E⟩ := st; dsimp only at h1 ⊢
    split <;> exact h1
  split
  · have h1 := h.step ⟨#[78, 97, 109, 101, 115]⟩ c.path ⟨#[]⟩
    unfold PDisk.namesC; generalize D.step ⟨#[78, 97, 109, 101, 115]⟩ c.path ⟨#[]⟩ = st at h1; obtain ⟨full, e, E⟩ := st; dsimp only at h1 ⊢
    split <;> exact h1
  split
  · exact h.of (h.tree.of rfl rfl rfl (KS.of_inos rfl)) rfl rfl rfl
  exact h
theorem Good.free {D : PDisk} {n : Nat} (h : Good D) (hk : Ok D n) (p q : ByteArray) : ∀ E, (D.step ⟨#[77, 111, 118, 101]⟩ p q).2.2 = E → firstE (E.mvE p q) = 0 → Free p q E.names := fun E e he => by
  subst e; exact (h.step _ _ _).tree.names.mv (PDisk.step_ok hk _ _ _) (h.step _ _ _).names he
theorem light_new {t : List Node} (hF : Fits t) : Light (newD t) := fun m hm => by
  obtain ⟨n, hn, rfl⟩ := List.mem_map.1 (show m ∈ t.map fun n => (⟨n, 0, false⟩ : Ino) from hm); exact (hF n hn).2
end
section
open Go.RowKit Go.Op Go.Maps
theorem nmOf_mem : ∀ (t : List Node) (i j : Nat) (m : Node), t[j]? = some m → (m.path, i + j + 1) ∈ nmOf t i
  | [], _, _, _, h => by simp at h
  | n :: t, i, 0, m, h => by
    simp at h
    subst h; unfold nmOf; exact List.mem_cons_self ..
  | n :: t, i, j + 1, m, h => by
    unfold nmOf; have := nmOf_mem t (i + 1) j m (by simpa using h); rw [show i + 1 + j + 1 = i + (j + 1) + 1 by omega] at this; exact List.mem_cons_of_mem _ this
theorem nmOf_apart {t : List Node} (hs : Sorted t) : Apart (nmOf t 0) := (nmOf_pair t 0 hs).imp fun {x y} h e => by
  rw [e, order_self] at h; omega
theorem new_inode {t : List Node} (hs : Sorted t) {m : Node} (hm : m ∈ t) : (newD t).inode (lookN (nmOf t 0) m.path) = some ⟨m, 0, false⟩ := by
  obtain ⟨j, hj, rfl⟩ := List.getElem_of_mem hm; have h1 := nmOf_mem t 0 j _ (List.getElem?_eq_getElem hj); have h2 := lookN_mem (nmOf_apart hs) h1; dsimp only at h2; rw [h2]; unfold PDisk.inode; rw [if_neg (by omega), show 0 + j + 1 - 1 = j by omega]
  show (t.map fun n => (⟨n, 0, false⟩ : Ino))[j]? = _
  rw [List.getElem?_map, List.getElem?_eq_getElem hj]
  rfl
theorem okTree_up {t : List Node} (hok : okTree t = true) {n : Node} (hn : n ∈ t) (hp : parent n.p ≠ []) : ∃ m ∈ t, m.p = parent n.p ∧ m.kind = 2 := by
  obtain ⟨i, hi, rfl⟩ := List.getElem_of_mem hn; have h := okTree_next hok i hi; unfold okNext at h; simp only [Bool.and_eq_true] at h; have h2 := h.2; unfold isDir at h2; rw [decide_eq_false hp, Bool.false_or] at h2; obtain ⟨m, hm, hk⟩ := List.any_eq_true.1 h2; simp only [Bool.and_eq_true, decide_eq_true_eq] at hk; exact ⟨m, List.mem_of_mem_take hm, hk.1, hk.2⟩
theorem new_climb {t : List Node} (hok : okTree t = true) {q : ByteArray} (hq : okPath (str q) = true) : ∀ (k : Nat) (n : Node), n ∈ t → (parts n.p).length ≤ k → within n.p (str q) = true → n.path ≠ q → ∃ m ∈ t, m.path = q ∧ m.kind = 2
  | 0, n, _, hk, _, _ => absurd (List.length_eq_zero_iff.1 (Nat.le_zero.1 hk)) (parts_ne n.p)
  | k + 1, n, hn, hk, hw, hne => by
    have hnp := okTree_path hok hn; obtain ⟨h1, h2⟩ := anc_parent hnp hq hw (fun e => hne (str_inj e)); obtain ⟨m, hm, h3, h4⟩ := okTree_up hok hn h1
    by_cases e : m.path = q
    · exact ⟨m, hm, e, h4⟩
    refine new_climb hok hq k m hm ?_ (by rw [h3]; exact h2 (by rw [← h3]; exact okTree_path hok hm)) e
    rw [h3, parent_parts hnp h1, List.length_dropLast]; omega
theorem good_new {t : List Node} (hok : okTree t = true) : Good (newD t) := by
  have hs := okTree_sorted hok; have hT : TreeL (newD t) (nmOf t 0) := fun x hx => by
    obtain ⟨n, hn, e⟩ := (nmOf_has t 0 x.1).1 ((hasN_iff _ _).2 ⟨x, hx, rfl⟩); rw [← e]; refine ⟨okTree_path hok hn, fun q h1 h2 h3 => ?_⟩; obtain ⟨m, hm, h4, h5⟩ := new_climb hok h1 _ n hn (Nat.le_refl _) h2 h3; exact ⟨⟨m, 0, false⟩, by rw [← h4]; exact new_inode hs hm, h5⟩
  exact ⟨⟨hT, hT, fun l hl => by cases hl⟩, nmOf_apart hs, nmOf_apart hs, fun l hl => by cases hl⟩
end
section
open Go.RowKit Go.Op Go.Maps
theorem hasN_app : ∀ (a b : NameL) (p : ByteArray), hasN (a ++ b) p = (hasN a p || hasN b p) ∧ lookN (a ++ b) p = if hasN a p then lookN a p else lookN b p
  | [], b, p => ⟨rfl, rfl⟩
  | x :: a, b, p => by
    obtain ⟨h1, h2⟩ := hasN_app a b p; obtain ⟨k1, k2⟩ := hasN_cons x (a ++ b) p; obtain ⟨k3, k4⟩ := hasN_cons x a p; rw [List.cons_append, k1, k2, k3, k4, h1, h2]
    by_cases e : x.1 = p
    · rw [decide_eq_true e, if_pos e, if_pos e]; simp
    rw [decide_eq_false e, if_neg e, if_neg e]; simp
theorem hasN_false {l : NameL} {p : ByteArray} (h : ∀ x ∈ l, x.1 ≠ p) : hasN l p = false := by
  cases hh : hasN l p
  · rfl
  obtain ⟨x, hx, e⟩ := (hasN_iff _ _).1 hh; exact absurd e (h x hx)
theorem laid_closed (path : ByteArray) : ∀ (t : List Node) (D : PDisk), (t.filter fun x => within x.p (str path)).Pairwise (fun a b => a.path ≠ b.path) → (∀ x ∈ t, within x.p (str path) = true → hasN D.names x.path = false) →
    (t.foldl (PDisk.laid1 path) D).names = D.names ++ nmOf (t.filter fun x => within x.p (str path)) D.inos.length ∧ (t.foldl (PDisk.laid1 path) D).inos = D.inos ++ (t.filter fun x => within x.p (str path)).map fun x => (⟨x, (D.clock : Int) + 1, false⟩ : Ino)
  | [], D, _, _ => by simp [nmOf]
  | x :: t, D, hp, hn => by
    rw [List.foldl_cons]
    cases hw : within x.p (str path)
    · have h1 : PDisk.laid1 path D x = D := by unfold PDisk.laid1; rw [hw]; rfl
      rw [List.filter_cons_of_neg (by simp [hw])] at hp ⊢; rw [h1]; exact laid_closed path t D hp (fun y hy => hn y (List.mem_cons_of_mem _ hy))
    have h1 : PDisk.laid1 path D x = { (D.make x (D.clock + 1) false) with names := putN D.names x.path (D.inos.length + 1) } := by unfold PDisk.laid1; rw [hw]; rfl
    rw [List.filter_cons_of_pos (by simp [hw])] at hp ⊢; obtain ⟨hp1, hp2⟩ := List.pairwise_cons.1 hp; have hx := hn x (List.mem_cons_self ..) hw; have hput : putN D.names x.path (D.inos.length + 1) = D.names ++ [(x.path, D.inos.length + 1)] := by unfold putN; rw [hx]; rfl
    obtain ⟨ih1, ih2⟩ := laid_closed path t (PDisk.laid1 path D x) hp2 (fun y hy hwy => by
      rw [h1]
      show hasN (putN D.names x.path (D.inos.length + 1)) y.path = false
      rw [hput, (hasN_app _ _ _).1, hn y (List.mem_cons_of_mem _ hy) hwy]; have := hp1 y (List.mem_filter.2 ⟨hy, by simp [hwy]⟩); simp [hasN, this])
    have hl : (PDisk.laid1 path D x).inos.length = D.inos.length + 1 := by rw [h1]; show (D.inos ++ [_]).length = _; simp
    have hc : (PDisk.laid1 path D x).clock = D.clock := by rw [h1]; rfl
    have hn1 : (PDisk.laid1 path D x).names = D.names ++ [(x.path, D.inos.length + 1)] := by rw [h1]; exact hput
    have hi1 : (PDisk.laid1 path D x).inos = D.inos ++ [⟨x, (D.clock : Int) + 1, false⟩] := by rw [h1]; rfl
    rw [ih1, ih2, hn1, hi1, hc]
    constructor
    · rw [List.append_assoc]
      show D.names ++ ([(x.path, D.inos.length + 1)] ++ nmOf _ (D.inos ++ [_]).length) = D.names ++ nmOf (x :: _) D.inos.length
      rw [List.length_append]
      rfl
    rw [List.append_assoc]; rfl
theorem nmOf_apart_ {t : List Node} (i : Nat) (hs : Sorted t) : Apart (nmOf t i) := (nmOf_pair t i hs).imp fun {x y} h e => by
  rw [e, order_self] at h; omega
theorem sorted_path {t : List Node} (hs : Sorted t) : t.Pairwise (fun a b => a.path ≠ b.path) := hs.imp fun {a b} h e => by
  have : a.p = b.p := by show str a.path = str b.path; rw [e]
  rw [this, order_self] at h; omega
def keptN (D : PDisk) (path : ByteArray) : NameL := D.names.filter fun y => !within (str y.1) (str path)
def laidL (X : List Node) (path : ByteArray) : List Node := X.filter fun x => within x.p (str path)
section
variable {D : PDisk} {n : Nat} {path : ByteArray} {v X : List Node}
theorem keptN_not {x : ByteArray × Nat} (h : x ∈ keptN D path) : x ∈ D.names ∧ within (str x.1) (str path) = false := by
  obtain ⟨h1, h2⟩ := List.mem_filter.1 h; exact ⟨h1, by simpa using h2⟩
theorem kept_no {y : Node} (hw : within y.p (str path) = true) : hasN (keptN D path) y.path = false := hasN_false fun x hx e => by
  have := (keptN_not hx).2; rw [e] at this; rw [show y.p = str y.path from rfl, this] at hw
  cases hw
theorem edit_closed (h : PutWell D.tree path v X) : (D.editN path X).names = keptN D path ++ nmOf (laidL X path) D.inos.length ∧ (D.editN path X).inos = D.inos ++ (laidL X path).map fun x => (⟨x, (D.clock : Int) + 1, false⟩ : Ino) :=
  laid_closed path X { D with names := D.names.filter fun y => !within (str y.1) (str path) } ((sorted_path (okTree_sorted h.okx)).filter _) (fun _ _ hw => kept_no hw)
theorem laidL_sorted (h : PutWell D.tree path v X) : Sorted (laidL X path) := List.Pairwise.filter _ (okTree_sorted h.okx)
theorem put_mem (h : PutWell D.tree path v X) {y : Node} : (y ∈ X ∧ within y.p (str path) = false) ↔ (y ∈ D.tree ∧ within y.p (str path) = false) := by
  have h3 := (split3 h.okp (okTree_sorted h.tree) (fun n hn => okTree_path h.tree hn)).2; rw [h.out]; unfold putOut
  constructor
  · rintro ⟨h1, h2⟩
    refine ⟨?_, h2⟩
    have : y ∈ lower D.tree (str path) ++ upper D.tree (str path) := by
      rcases List.mem_append.1 h1 with h1 | h1
      · rcases List.mem_append.1 h1 with h1 | h1
        · exact List.mem_append_left _ h1
        rw [moved_in h.okp h.all h1] at h2; cases h2
      exact List.mem_append_right _ h1
    rw [h3] at this; exact (List.mem_filter.1 this).1
  rintro ⟨h1, h2⟩; refine ⟨?_, h2⟩; have : y ∈ lower D.tree (str path) ++ upper D.tree (str path) := by
    rw [h3]; exact List.mem_filter.2 ⟨h1, by simp [h2]⟩
  rcases List.mem_append.1 this with h1 | h1
  · exact List.mem_append_left _ (List.mem_append_left _ h1)
  exact List.mem_append_right _ h1
theorem tree_node (hk : Ok D n) (ha : Apart D.names) {x : ByteArray × Nat} (hx : x ∈ D.names) : ∃ m, D.inode x.2 = some m ∧ ({ m.node with path := x.1 } : Node) ∈ D.tree := by
  obtain ⟨m, h1, -⟩ := hk.inode ha hx; refine ⟨m, h1, List.mem_filterMap.2 ⟨x, List.mem_mergeSort.2 hx, ?_⟩⟩; rw [h1]
  rfl
theorem node_tree (hk : Ok D n) (ha : Apart D.names) {y : Node} (hy : y ∈ D.tree) : ∃ x ∈ D.names, ∃ m, D.inode x.2 = some m ∧ y = { m.node with path := x.1 } := by
  obtain ⟨x, hx, e⟩ := List.mem_filterMap.1 hy; have hx := List.mem_mergeSort.1 hx; obtain ⟨m, h1, -⟩ := hk.inode ha hx; rw [h1] at e; exact ⟨x, hx, m, h1, (by simpa using e : ({ m.node with path := x.1 } : Node) = y).symm⟩
theorem edit_sub (hk : Ok D n) (ha : Apart D.names) (h : PutWell D.tree path v X) {x : ByteArray × Nat} (hx : x ∈ (D.editN path X).names) : ∃ y ∈ X, y.path = x.1 := by
  rw [(edit_closed h).1] at hx
  rcases List.mem_append.1 hx with hx | hx
  · obtain ⟨h1, h2⟩ := keptN_not hx
    obtain ⟨m, -, h3⟩ := tree_node hk ha h1; exact ⟨_, ((put_mem h).2 ⟨h3, h2⟩).1, rfl⟩
  obtain ⟨y, hy, e⟩ := (nmOf_has _ _ _).1 ((hasN_iff _ _).2 ⟨x, hx, rfl⟩); exact ⟨y, (List.mem_filter.1 hy).1, e⟩
theorem inode_app {D : PDisk} {l : List Ino} {i : Nat} {m : Ino} (h : D.inode i = some m) : ({ D with inos := D.inos ++ l } : PDisk).inode i = some m := by
  unfold PDisk.inode at h ⊢
  split at h
  · cases h
  rename_i h0
  rw [if_neg h0]; dsimp only; rw [List.getElem?_append_left (List.getElem?_eq_some_iff.1 h).1]; exact h
theorem inode_of {D E : PDisk} (e : E.inos = D.inos) (i : Nat) : E.inode i = D.inode i := by unfold PDisk.inode; rw [e]
theorem edit_at (hk : Ok D n) (ha : Apart D.names) (h : PutWell D.tree path v X) {y : Node} (hy : y ∈ X) : ∃ m, (D.editN path X).inode (lookN (D.editN path X).names y.path) = some m ∧ m.node.kind = y.kind := by
  obtain ⟨h1, h2⟩ := edit_closed h; have e1 : ∀ i, (D.editN path X).inode i = ({ D with inos := D.inos ++ (laidL X path).map fun x => (⟨x, (D.clock : Int) + 1, false⟩ : Ino) } : PDisk).inode i := fun i => inode_of h2 i
  rw [e1, h1, (hasN_app _ _ _).2]
  cases hw : within y.p (str path)
  · obtain ⟨hyt, -⟩ := (put_mem h).1 ⟨hy, hw⟩
    obtain ⟨z, hz, m, hm, rfl⟩ := node_tree hk ha hyt; have hzk : z ∈ keptN D path := List.mem_filter.2 ⟨hz, by
      have : within (str z.1) (str path) = false := hw
      simp [this]⟩
    have hhas : hasN (keptN D path) z.1 = true := (hasN_iff _ _).2 ⟨z, hzk, rfl⟩
    have hlook : lookN (keptN D path) z.1 = z.2 := lookN_mem (List.Pairwise.filter _ ha) hzk
    show ∃ m', ({ D with inos := D.inos ++ _ } : PDisk).inode (if hasN (keptN D path) z.1 = true then lookN (keptN D path) z.1 else _) = some m' ∧ m'.node.kind = m.node.kind
    rw [if_pos hhas, hlook]; exact ⟨m, inode_app hm, rfl⟩
  rw [kept_no hw, if_neg (by decide)]; have hyl : y ∈ laidL X path := List.mem_filter.2 ⟨hy, by simp [hw]⟩
  obtain ⟨j, hj, e⟩ := List.getElem_of_mem hyl; have hj2 : (laidL X path)[j]? = some y := by rw [List.getElem?_eq_getElem hj, e]
  have hlook := lookN_mem (nmOf_apart_ D.inos.length (laidL_sorted h)) (nmOf_mem (laidL X path) D.inos.length j y hj2); dsimp only at hlook; rw [hlook]; refine ⟨⟨y, (D.clock : Int) + 1, false⟩, ?_, rfl⟩; unfold PDisk.inode; rw [if_neg (by omega)]; dsimp only
  rw [show D.inos.length + j + 1 - 1 = D.inos.length + j by omega, List.getElem?_append_right (by omega), List.getElem?_map, show D.inos.length + j - D.inos.length = j by omega, hj2]
  rfl
theorem nodup_le : ∀ (l m : List ByteArray), l.Nodup → (∀ x ∈ l, x ∈ m) → l.length ≤ m.length
  | [], _, _, _ => Nat.zero_le _
  | x :: l, m, hn, hm => by
    obtain ⟨a, b, rfl⟩ := List.append_of_mem (hm x (List.mem_cons_self ..)); obtain ⟨h1, h2⟩ := List.nodup_cons.1 hn; have := nodup_le l (a ++ b) h2 (fun y hy => by
      have h3 := hm y (List.mem_cons_of_mem _ hy)
      rcases List.mem_append.1 h3 with h | h
      · exact List.mem_append_left _ h
      rcases List.mem_cons.1 h with rfl | h
      · exact absurd hy h1
      exact List.mem_append_right _ h)
    simp only [List.length_append, List.length_cons] at this ⊢
    omega
theorem edit_apart (ha : Apart D.names) (h : PutWell D.tree path v X) : Apart (D.editN path X).names := by
  rw [(edit_closed h).1]; unfold Apart; rw [List.pairwise_append]; refine ⟨List.Pairwise.filter _ ha, nmOf_apart_ _ (laidL_sorted h), fun x hx y hy e => ?_⟩; obtain ⟨z, hz, e2⟩ := (nmOf_has _ _ _).1 ((hasN_iff _ _).2 ⟨y, hy, rfl⟩); have h1 := (List.mem_filter.1 hz).2; have h2 := (keptN_not hx).2; rw [e, ← e2] at h2; rw [show z.p = str z.path from rfl] at h1; rw [h2] at h1
  cases h1
theorem edit_KS (h : PutWell D.tree path v X) : KS D (D.editN path X) := fun i m hm hk2 => by
  rw [inode_of (edit_closed h).2 (E := D.editN path X) (D := { D with inos := D.inos ++ (laidL X path).map fun x => (⟨x, (D.clock : Int) + 1, false⟩ : Ino) }) i]; exact ⟨m, inode_app hm, hk2⟩
theorem edit_names_len (hk : Ok D n) (ha : Apart D.names) (h : PutWell D.tree path v X) : (D.editN path X).names.length ≤ 1000 := by
  have h1 := nodup_le ((D.editN path X).names.map (·.1)) (X.map Node.path) ((apart_iff _).1 (edit_apart ha h)) (fun x hx => by
    obtain ⟨y, hy, rfl⟩ := List.mem_map.1 hx; obtain ⟨z, hz, e⟩ := edit_sub hk ha h hy; exact List.mem_map.2 ⟨z, hz, e⟩)
  rw [List.length_map, List.length_map] at h1; have := okTree_len h.okx; omega
theorem laidL_le (h : PutWell D.tree path v X) : (laidL X path).length ≤ v.length := by
  have h3 := (split3 h.okp (okTree_sorted h.tree) (fun n hn => okTree_path h.tree hn)).2; have hno : ∀ y ∈ lower D.tree (str path) ++ upper D.tree (str path), within y.p (str path) = false := fun y hy => by
    rw [h3] at hy
    simpa using (List.mem_filter.1 hy).2
  have h1 : (lower D.tree (str path)).filter (fun x : Node => within x.p (str path)) = [] := List.filter_eq_nil_iff.2 fun y hy => by
    rw [hno y (List.mem_append_left _ hy)]; decide
  have h2 : (upper D.tree (str path)).filter (fun x : Node => within x.p (str path)) = [] := List.filter_eq_nil_iff.2 fun y hy => by
    rw [hno y (List.mem_append_right _ hy)]; decide
  have h4 : (moved path v).length = v.length := by unfold moved; simp
  unfold laidL; rw [h.out]; unfold putOut; rw [List.filter_append, List.filter_append, h1, h2, List.nil_append, List.append_nil, ← h4]; exact List.length_filter_le _ _
structure Fine (D : PDisk) (n : Nat) : Prop where
  ok : Ok D n
  good : Good D
  light : Light D
theorem Fine.editC {e : EditP} (h : Fine D n) (hv : Fits e.value) : Fine (D.edit e) (n + (e.value.length + 1)) := by
  rcases putR_cases D.tree e.path e.value with ⟨h0, -⟩ | ⟨h0, hw⟩
  · have : D.edit e = D := by unfold PDisk.edit; rw [if_pos h0]
    rw [this]; exact ⟨PDisk.ok_mono h.ok (by omega), h.good, h.light⟩
  have hfit := putR_fits (path := e.path) (h.light.fits h.ok) hv; generalize hX : (putR D.tree e.path e.value).1 = X at hw hfit
  have hE : D.edit e = { D.editN e.path X with later := (D.editN e.path X).later ++ [(D.editN e.path X).names] } := by
    unfold PDisk.edit; rw [if_neg (by rw [h0]; decide), hX]
  have hc := edit_closed hw; have hs := laid_same e.path X { D with names := D.names.filter fun y => !within (str y.1) (str e.path) }; have hclk := (laid_few e.path X { D with names := D.names.filter fun y => !within (str y.1) (str e.path) }).2.2; have e1 : (D.editN e.path X).later = D.later := hs.1
  have e2 : (D.editN e.path X).safe = D.safe := hs.2.1
  have e3 : (D.editN e.path X).trace = D.trace := hs.2.2.1
  have e4 : (D.editN e.path X).fates = D.fates := hs.2.2.2.2.1
  have e5 : (D.editN e.path X).clock = D.clock := hclk
  have hil : (D.editN e.path X).inos.length = D.inos.length + (laidL X e.path).length := by rw [hc.2]; simp
  have hll := laidL_le hw; have hap := edit_apart h.good.names hw; have hnk : NOk (D.editN e.path X).inos.length (D.editN e.path X).names := fun x => by
    rw [hil, hc.1, (hasN_app _ _ _).1, (hasN_app _ _ _).2]; obtain ⟨l1, l2⟩ := nmOf_look (laidL X e.path) D.inos.length x; have hkk : hasN (keptN D e.path) x = true → lookN (keptN D e.path) x = lookN D.names x ∧ hasN D.names x = true := fun hh => by
      obtain ⟨y, hy, rfl⟩ := (hasN_iff _ _).1 hh; have hy2 := (keptN_not hy).1; exact ⟨(show lookN (keptN D e.path) y.1 = y.2 from lookN_mem (List.Pairwise.filter _ h.good.names) hy).trans (lookN_mem h.good.names hy2).symm, (hasN_iff _ _).2 ⟨y, hy2, rfl⟩⟩
    cases hh : hasN (keptN D e.path) x
    · rw [if_neg (by decide), Bool.false_or]
      refine ⟨by omega, fun h5 => ⟨by have := l2 h5; omega, ?_⟩⟩
      obtain ⟨y, hy, rfl⟩ := (nmOf_has _ _ _).1 h5; have := okPath_size (okTree_path hw.okx (List.mem_filter.1 hy).1); rw [show y.p = str y.path from rfl, str_size] at this; exact this
    obtain ⟨h6, h7⟩ := hkk hh; rw [if_pos rfl, h6]; obtain ⟨h8, h9⟩ := h.ok.names x; exact ⟨by omega, fun _ => h9 h7⟩
  have hnl := edit_names_len h.ok h.good.names hw; have hks := edit_KS hw; have hT : TreeL (D.editN e.path X) (D.editN e.path X).names := fun x hx => by
    obtain ⟨y, hy, ey⟩ := edit_sub h.ok h.good.names hw hx; rw [← ey]; refine ⟨okTree_path hw.okx hy, fun q h1 h2 h3 => ?_⟩; obtain ⟨m, hm, h4, h5⟩ := new_climb hw.okx h1 _ y hy (Nat.le_refl _) h2 h3; obtain ⟨m', h6, h7⟩ := edit_at h.ok h.good.names hw hm; rw [h4] at h6; exact ⟨m', h6, h7.trans h5⟩
  rw [hE]; refine ⟨?_, ?_, ?_⟩
  · refine ⟨hnk, ?_, fun l hl => ?_, ?_, ?_, ?_, ?_, ?_, hnl, ?_, fun l hl => ?_⟩
    · show NOk (D.editN e.path X).inos.length (D.editN e.path X).safe
      rw [e2, hil]; exact h.ok.safe.mono (by omega)
    · show NOk (D.editN e.path X).inos.length l
      rcases List.mem_append.1 (show l ∈ (D.editN e.path X).later ++ [(D.editN e.path X).names] from hl) with hl | hl
      · rw [e1] at hl; rw [hil]; exact (h.ok.later l hl).mono (by omega)
      simp at hl; subst hl; exact hnk
    · show ((D.editN e.path X).later ++ [_]).length ≤ _
      rw [e1, List.length_append]; have := h.ok.llen; simp; omega
    · show (D.editN e.path X).inos.length ≤ _
      rw [hil]; have := h.ok.inos; omega
    · show (D.editN e.path X).trace.length ≤ _
      rw [e3]; have := h.ok.tlen; omega
    · show (D.editN e.path X).clock ≤ _
      rw [e5]; have := h.ok.clock; omega
    · show (D.editN e.path X).fates.length ≤ _
      rw [e4]; exact h.ok.fates
    · show (D.editN e.path X).safe.length ≤ _
      rw [e2]; exact h.ok.slen
    rcases List.mem_append.1 (show l ∈ (D.editN e.path X).later ++ [(D.editN e.path X).names] from hl) with hl | hl
    · rw [e1] at hl; exact h.ok.llens l hl
    simp at hl; subst hl; exact hnl
  · refine ⟨⟨hT.mono (KS.of_inos rfl), ?_, fun l hl => ?_⟩, hap, ?_, fun l hl => ?_⟩
    · show TreeL _ (D.editN e.path X).safe
      rw [e2]; exact (h.good.tree.safe.mono hks).mono (KS.of_inos rfl)
    · rcases List.mem_append.1 (show l ∈ (D.editN e.path X).later ++ [(D.editN e.path X).names] from hl) with hl | hl
      · rw [e1] at hl; exact ((h.good.tree.later l hl).mono hks).mono (KS.of_inos rfl)
      simp at hl; subst hl; exact hT.mono (KS.of_inos rfl)
    · show Apart (D.editN e.path X).safe
      rw [e2]; exact h.good.safe
    rcases List.mem_append.1 (show l ∈ (D.editN e.path X).later ++ [(D.editN e.path X).names] from hl) with hl | hl
    · rw [e1] at hl; exact h.good.later l hl
    simp at hl; subst hl; exact hap
  intro m hm
  rw [show ({ D.editN e.path X with later := (D.editN e.path X).later ++ [(D.editN e.path X).names] } : PDisk).inos = D.inos ++ (laidL X e.path).map fun x => (⟨x, (D.clock : Int) + 1, false⟩ : Ino) from hc.2] at hm
  rcases List.mem_append.1 hm with hm | hm
  · exact h.light m hm
  obtain ⟨y, hy, rfl⟩ := List.mem_map.1 hm; exact (hfit y (List.mem_filter.1 hy).1).2
end
def costE (es : List EditP) : Nat := (es.map fun e => e.value.length + 1).sum
theorem Fine.mono {D : PDisk} {n m : Nat} (h : Fine D n) (hm : n ≤ m) : Fine D m := ⟨PDisk.ok_mono h.ok hm, h.good, h.light⟩
theorem Fine.editsC (t : Int) : ∀ (es : List EditP) (D : PDisk) (n : Nat), Fine D n → (∀ e ∈ es, Fits e.value) → Fine (es.foldl (fun E e => if e.at_ = t then E.edit e else E) D) (n + costE es)
  | [], D, n, h, _ => h
  | e :: es, D, n, h, hv => by
    have hc : costE (e :: es) = (e.value.length + 1) + costE es := by unfold costE; simp
    rw [List.foldl_cons, hc]
    by_cases he : e.at_ = t
    · rw [if_pos he]
      exact (Fine.editsC t es _ _ (h.editC (hv e (List.mem_cons_self ..))) (fun x hx => hv x (List.mem_cons_of_mem _ hx))).mono (by omega)
    rw [if_neg he]; exact (Fine.editsC t es _ _ h (fun x hx => hv x (List.mem_cons_of_mem _ hx))).mono (by omega)
theorem costE_take (es : List EditP) : ∀ i, costE (es.take i) ≤ costE es := fun i => by
  have h : costE es = costE (es.take i) + costE (es.drop i) := by
    unfold costE; rw [← List.sum_append, ← List.map_append, List.take_append_drop]
  omega
theorem Fine.editToC {D : PDisk} {n : Nat} (h : Fine D n) (hv : ∀ e ∈ D.edits, Fits e.value) (i : Nat) : Fine (D.editTo i) (n + costE D.edits) := by
  refine (Fine.editsC (D.trace.length : Int) (D.edits.take i) D n h (fun e he => hv e (List.mem_of_mem_take he))).mono ?_
  have := costE_take D.edits i; omega
theorem Fine.eokC {D : PDisk} {n : Nat} (h : Fine D n) (hv : ∀ e ∈ D.edits, Fits e.value) : EditsOk D (n + costE D.edits) := ⟨fun i => (h.editToC hv i).ok, fun i _ => (h.editToC hv i).light⟩
theorem Fine.editedC {D : PDisk} {n : Nat} (h : Fine D n) (hv : ∀ e ∈ D.edits, Fits e.value) : Fine D.edited (n + costE D.edits) := by
  cases ho : D.off
  · rw [edited_eq ho]; exact h.editToC hv _
  rw [edited_off ho]; exact h.mono (by omega)
end
section
open Go.Lib (decodeL validD)
def decS (l : Str) : Nat × Nat := if l = [] then (65533, 0) else decodeL l
def runesF : Nat → Str → List Int
  | 0, _ => []
  | n + 1, l => if l = [] then [] else ((decodeL l).1 : Int) :: runesF n (l.drop (decodeL l).2)
def runesZ (l : Str) : List Int := runesF l.length l
theorem runesF_nil : ∀ n, runesF n [] = []
  | 0 => rfl
  | _ + 1 => by simp [runesF]
theorem runesF_fuel : ∀ (n m : Nat) (l : Str), l.length ≤ n → l.length ≤ m → runesF n l = runesF m l
  | 0, m, l, hn, _ => by
    have : l = [] := List.eq_nil_of_length_eq_zero (by omega)
    subst this; rw [runesF_nil, runesF_nil]
  | n + 1, 0, l, _, hm => by
    have : l = [] := List.eq_nil_of_length_eq_zero (by omega)
    subst this; rw [runesF_nil, runesF_nil]
  | n + 1, m + 1, l, hn, hm => by
    unfold runesF
    by_cases hne : l = []
    · simp [hne]
    have hw := Lib.decodeL_width l; have hl : 0 < l.length := List.length_pos_iff.2 hne
    rw [if_neg hne, if_neg hne, runesF_fuel n m (l.drop (decodeL l).2) (by rw [List.length_drop]; omega) (by rw [List.length_drop]; omega)]
theorem runesZ_nil : runesZ [] = [] := rfl
theorem runesZ_step {l : Str} (hne : l ≠ []) : runesZ l = ((decodeL l).1 : Int) :: runesZ (l.drop (decodeL l).2) := by
  have hl : 0 < l.length := List.length_pos_iff.2 hne
  have hw := Lib.decodeL_width l; obtain ⟨n, hn⟩ : ∃ n, l.length = n + 1 := ⟨l.length - 1, by omega⟩
  unfold runesZ; rw [hn]
  show (if l = [] then [] else _) = _
  rw [if_neg hne, runesF_fuel n (l.drop (decodeL l).2).length _ (by rw [List.length_drop]; omega) (Nat.le_refl _)]
def setGo : Str → Bool → Str → Str × Str × Bool
  | _, _, [] => ([], [], false)
  | acc, f, c :: l =>
    if c = 47 then ([], [], false)
    else if c = 92 then match l with
      | [] => ([], [], false)
      | d :: l => if d = 47 then ([], [], false) else setGo (acc ++ [92, d]) false l
    else if c = 93 then (acc, l, !f)
    else setGo (acc ++ [c]) false l
def setV (s : Str) : Str × Str × Bool := if s.drop 1 |>.head? |>.any (· == 33) then setGo [33] true (s.drop 2) else setGo [] true (s.drop 1)
theorem setGo_rest : ∀ (acc : Str) (f : Bool) (l : Str), (setGo acc f l).2.1.length ≤ l.length - 1
  | _, _, [] => by simp [setGo]
  | acc, f, c :: l => by
    unfold setGo
    split
    · simp
    split
    · split
      · simp
      rename_i d l
      split
      · simp
      have := setGo_rest (acc ++ [92, d]) false l; simp only [List.length_cons]; omega
    split
    · simp
    have := setGo_rest (acc ++ [c]) false l; simp only [List.length_cons]; omega
theorem setV_rest (s : Str) (h : s ≠ []) : (setV s).2.1.length < s.length := by
  have hl : 0 < s.length := List.length_pos_iff.2 h
  unfold setV
  split
  · have := setGo_rest [33] true (s.drop 2)
    simp only [List.length_drop] at this
    omega
  have := setGo_rest [] true (s.drop 1); simp only [List.length_drop] at this; omega
theorem setGo_in : ∀ (acc : Str) (f : Bool) (l : Str), (setGo acc f l).1.length ≤ acc.length + l.length
  | _, _, [] => by simp [setGo]
  | acc, f, c :: l => by
    unfold setGo
    split
    · simp
    split
    · split
      · simp
      rename_i d l
      split
      · simp
      have := setGo_in (acc ++ [92, d]) false l; simp only [List.length_append, List.length_cons, List.length_nil] at this ⊢; omega
    split
    · simp
    have := setGo_in (acc ++ [c]) false l; simp only [List.length_append, List.length_cons, List.length_nil] at this ⊢; omega
theorem setV_in (s : Str) : (setV s).1.length ≤ s.length + 1 := by
  unfold setV
  split
  · have := setGo_in [33] true (s.drop 2)
    simp only [List.length_drop, List.length_cons, List.length_nil] at this
    omega
  have := setGo_in [] true (s.drop 1); simp only [List.length_drop, List.length_nil] at this; omega
def lits : Bool → List Int → List (Int × Bool)
  | _, [] => []
  | esc, x :: l => if x = 92 ∧ esc = false then lits true l else (x, esc) :: lits false l
def heldL (r : Int) : List (Int × Bool) → Bool
  | [] => false
  | [a] => decide (a.1 = r)
  | [a, b] => decide (a.1 = r) || decide (b.1 = r)
  | a :: b :: c :: l => if b = (45, false) then (decide (a.1 ≤ r) && decide (r ≤ c.1)) || heldL r l else decide (a.1 = r) || heldL r (b :: c :: l)
def bangs (s : Str) : Bool := s.head?.any (· == 33)
def holdsV (inner : Str) (r : Int) : Bool := heldL r (lits false (runesZ (if bangs inner then inner.tail else inner))) != bangs inner
inductive GEl where
  | any
  | cls (inner : Str)
  | lit (x : Int)
def GEl.holds : GEl → Int → Bool
  | any, _ => true
  | cls inner, r => holdsV inner r
  | lit x, r => decide (x = r)
def elOf (p : Str) : GEl × Str :=
  if p.head? = some 63 then (.any, p.tail)
  else if p.head? = some 91 then (.cls (setV p).1, (setV p).2.1)
  else
    let q := if p.head? = some 92 then p.tail else p
    (.lit (decS q).1, q.drop (decS q).2)
theorem elOf_rest (p : Str) (h : p ≠ []) : (elOf p).2.length < p.length := by
  have hl : 0 < p.length := List.length_pos_iff.2 h
  unfold elOf
  split
  · simp; omega
  split
  · exact setV_rest p h
  split
  · simp; omega
  rw [List.length_drop]; unfold decS; rw [if_neg h]; have := Lib.decodeL_width p; omega
inductive GPt where
  | star
  | el (e : GEl)
def ptsF : Nat → Str → List GPt
  | 0, _ => []
  | n + 1, p => if p = [] then [] else if p.head? = some 42 then .star :: ptsF n p.tail else .el (elOf p).1 :: ptsF n (elOf p).2
def pts (p : Str) : List GPt := ptsF p.length p
theorem ptsF_nil : ∀ n, ptsF n [] = []
  | 0 => rfl
  | _ + 1 => by simp [ptsF]
theorem ptsF_fuel : ∀ (n m : Nat) (p : Str), p.length ≤ n → p.length ≤ m → ptsF n p = ptsF m p
  | 0, m, p, hn, _ => by
    have : p = [] := List.eq_nil_of_length_eq_zero (by omega)
    subst this; rw [ptsF_nil, ptsF_nil]
  | n + 1, 0, p, _, hm => by
    have : p = [] := List.eq_nil_of_length_eq_zero (by omega)
    subst this; rw [ptsF_nil, ptsF_nil]
  | n + 1, m + 1, p, hn, hm => by
    unfold ptsF
    by_cases hne : p = []
    · simp [hne]
    have h1 := elOf_rest p hne; have hl : 0 < p.length := List.length_pos_iff.2 hne
    rw [if_neg hne, if_neg hne, ptsF_fuel n m p.tail (by simp; omega) (by simp; omega), ptsF_fuel n m (elOf p).2 (by omega) (by omega)]
theorem pts_nil : pts [] = [] := rfl
theorem pts_step {p : Str} (hne : p ≠ []) : pts p = if p.head? = some 42 then .star :: pts p.tail else .el (elOf p).1 :: pts (elOf p).2 := by
  have hl : 0 < p.length := List.length_pos_iff.2 hne
  have h1 := elOf_rest p hne; obtain ⟨n, hn⟩ : ∃ n, p.length = n + 1 := ⟨p.length - 1, by omega⟩
  unfold pts; rw [hn]
  show (if p = [] then [] else _) = _
  rw [if_neg hne, ptsF_fuel n p.tail.length p.tail (by simp; omega) (Nat.le_refl _), ptsF_fuel n (elOf p).2.length (elOf p).2 (by omega) (Nat.le_refl _)]
def matchP : List GPt → List Int → Bool
  | [], n => n.isEmpty
  | .star :: p, [] => matchP p []
  | .star :: p, r :: n => matchP p (r :: n) || matchP (.star :: p) n
  | .el _ :: _, [] => false
  | .el e :: p, r :: n => e.holds r && matchP p n
termination_by p n => p.length + n.length
def gpartV (p n : Str) : Bool := matchP (pts p) (runesZ n)
theorem matchP_star_drop {p : List GPt} : ∀ {n : List Int}, matchP (.star :: p) n = true ↔ ∃ k, k ≤ n.length ∧ matchP p (n.drop k) = true
  | [] => by
    rw [matchP]
    constructor
    · intro h; exact ⟨0, by simp, by simpa using h⟩
    rintro ⟨k, -, h⟩; simpa using h
  | r :: n => by
    have ih := matchP_star_drop (p := p) (n := n); rw [matchP, Bool.or_eq_true, ih]
    constructor
    · rintro (h | ⟨k, hk, h⟩)
      · exact ⟨0, by simp, by simpa using h⟩
      exact ⟨k + 1, by simp; omega, by simpa using h⟩
    rintro ⟨k, hk, h⟩
    cases k with
    | zero => left; simpa using h
    | succ k => right; exact ⟨k, by simp at hk; omega, by simpa using h⟩
theorem matchP_els : ∀ (E : List GEl) {p : List GPt} {x : List Int}, matchP (E.map .el ++ p) x = true → E.length ≤ x.length ∧ matchP p (x.drop E.length) = true
  | [], _, _, h => ⟨by simp, by simpa using h⟩
  | e :: E, p, [], h => by simp [matchP] at h
  | e :: E, p, r :: x, h => by
    rw [List.map_cons, List.cons_append, matchP, Bool.and_eq_true] at h; have := matchP_els E h.2; exact ⟨by simp; exact this.1, by simpa using this.2⟩
def tries (p : List GPt) (n : List Int) (star : Bool) (again : List GPt) (cur : List Int) : Prop :=
  matchP p n = true ∨ (star = true ∧ ∃ k, 1 ≤ k ∧ k ≤ cur.length ∧ matchP again (cur.drop k) = true)
def AtTry (p : List GPt) (n : List Int) (again : List GPt) (cur : List Int) : Prop :=
  ∃ E : List GEl, again = E.map .el ++ p ∧ n = cur.drop E.length ∧ E.length ≤ cur.length
theorem tries_star {p : List GPt} {n : List Int} {star : Bool} {again : List GPt} {cur : List Int} (h : star = true → AtTry (.star :: p) n again cur) :
    tries (.star :: p) n star again cur ↔ tries p n true p n := by
  have key : matchP (.star :: p) n = true ↔ tries p n true p n := by
    rw [matchP_star_drop]
    constructor
    · rintro ⟨k, hk, hm⟩
      cases k with
      | zero => exact .inl (by simpa using hm)
      | succ k => exact .inr ⟨rfl, k + 1, by omega, hk, hm⟩
    rintro (h | ⟨-, k, -, hk, hm⟩)
    · exact ⟨0, by simp, by simpa using h⟩
    exact ⟨k, hk, hm⟩
  rw [← key]
  constructor
  · rintro (h1 | ⟨hs, k, hk1, hk, hm⟩)
    · exact h1
    obtain ⟨E, rfl, rfl, hE⟩ := h hs; obtain ⟨h2, h3⟩ := matchP_els E hm; rw [matchP_star_drop] at h3 ⊢; obtain ⟨j, hj, h4⟩ := h3; simp only [List.length_drop] at h2 hj; refine ⟨k + j, by rw [List.length_drop]; omega, ?_⟩; rw [List.drop_drop, List.drop_drop] at h4; rw [List.drop_drop]; rw [show E.length + (k + j) = k + (E.length + j) by omega]; exact h4
  intro h1; exact .inl h1
theorem tries_el {e : GEl} {p : List GPt} {r : Int} {n : List Int} {star : Bool} {again : List GPt} {cur : List Int} (he : e.holds r = true) :
    tries (.el e :: p) (r :: n) star again cur ↔ tries p n star again cur := by
  unfold tries; rw [matchP, he, Bool.true_and]
theorem AtTry.el {e : GEl} {p : List GPt} {r : Int} {n : List Int} {again : List GPt} {cur : List Int} (h : AtTry (.el e :: p) (r :: n) again cur) : AtTry p n again cur := by
  obtain ⟨E, rfl, hn, hE⟩ := h; have hl : (r :: n).length = cur.length - E.length := by rw [hn, List.length_drop]
  simp only [List.length_cons] at hl
  refine ⟨E ++ [e], by simp, ?_, by simp; omega⟩
  rw [List.length_append, List.length_singleton, ← List.drop_drop, ← hn]
  rfl
theorem tries_none {p : List GPt} {n : List Int} {again : List GPt} {cur : List Int} (hm : matchP p n = false) : ¬ tries p n false again cur := by
  rintro (h | ⟨h, -⟩)
  · rw [hm] at h; cases h
  cases h
theorem tries_again {p : List GPt} {n : List Int} {again : List GPt} {c : Int} {cur : List Int} (hm : matchP p n = false) :
    tries p n true again (c :: cur) ↔ tries again cur true again cur := by
  unfold tries; rw [hm]
  constructor
  · rintro (h | ⟨-, k, h1, h2, h3⟩)
    · cases h
    cases k with
    | zero => omega
    | succ k =>
      simp only [List.length_cons, List.drop_succ_cons] at h2 h3
      cases k with
      | zero => left; simpa using h3
      | succ k => right; exact ⟨rfl, k + 1, by omega, by omega, h3⟩
  rintro (h | ⟨-, k, h1, h2, h3⟩)
  · right; exact ⟨rfl, 1, by omega, by simp, by simpa using h⟩
  right; exact ⟨rfl, k + 1, by omega, by simp; omega, by simpa using h3⟩
theorem AtTry.again (p : List GPt) (n : List Int) : AtTry p n p n := ⟨[], by simp, by simp, by simp⟩
theorem AtTry.some {p : List GPt} {r : Int} {n : List Int} {again : List GPt} {cur : List Int} (h : AtTry p (r :: n) again cur) : cur ≠ [] := by
  obtain ⟨E, -, hn, -⟩ := h; rintro rfl; simp at hn
theorem tries_end {p : List GPt} {star : Bool} {again : List GPt} {cur : List Int} (h : star = true → AtTry p [] again cur) :
    tries p [] star again cur ↔ matchP p [] = true := by
  constructor
  · rintro (h1 | ⟨hs, k, hk1, hk, hm⟩)
    · exact h1
    obtain ⟨E, rfl, hn, hE⟩ := h hs; have hl : cur.length ≤ E.length := by
      have := congrArg List.length hn; simp only [List.length_nil, List.length_drop] at this; omega
    obtain ⟨h2, h3⟩ := matchP_els E hm; rw [List.length_drop] at h2; omega
  intro h1; exact .inl h1
theorem matchP_nil (p : Str) : matchP (pts p) [] = p.all (· == 42) := by
  generalize hn : p.length = n
  induction n using Nat.strongRecOn generalizing p with
  | ind n ih =>
    by_cases hne : p = []
    · subst hne; rw [pts_nil, matchP]; rfl
    obtain ⟨c, l, rfl⟩ := List.exists_cons_of_ne_nil hne; rw [pts_step hne]
    by_cases hc : c = 42
    · subst hc
      simp only [List.head?_cons, if_true, List.tail_cons]
      rw [matchP, ih l.length (by simp at hn; omega) l rfl]; simp
    rw [if_neg (by simpa using hc)]; rw [matchP]; simp [hc]
def checkF : Nat → Bool → Str → Bool
  | 0, _, _ => true
  | n + 1, empty, s => match s with
    | [] => true
    | c :: l =>
      if c = 47 then !empty && !l.isEmpty && checkF n true l
      else if c = 92 then match l with
        | [] => false
        | d :: l => d != 47 && checkF n false l
      else if c = 91 then (setV (c :: l)).2.2 && checkF n false (setV (c :: l)).2.1
      else checkF n false l
def checkV (s : Str) : Bool := decide (s ≠ []) && decide (s.length ≤ 400) && validD s && checkF s.length true s
theorem checkF_nil : ∀ (n : Nat) (e : Bool), checkF n e [] = true
  | 0, _ => rfl
  | _ + 1, _ => rfl
theorem checkF_fuel : ∀ (n m : Nat) (e : Bool) (l : Str), l.length ≤ n → l.length ≤ m → checkF n e l = checkF m e l
  | 0, m, e, l, hn, _ => by
    have : l = [] := List.eq_nil_of_length_eq_zero (by omega)
    subst this; rw [checkF_nil, checkF_nil]
  | n + 1, 0, e, l, _, hm => by
    have : l = [] := List.eq_nil_of_length_eq_zero (by omega)
    subst this; rw [checkF_nil, checkF_nil]
  | n + 1, m + 1, e, [], _, _ => rfl
  | n + 1, m + 1, e, c :: l, hn, hm => by
    simp only [List.length_cons] at hn hm
    unfold checkF; dsimp only
    split
    · rw [checkF_fuel n m true l (by omega) (by omega)]
    split
    · cases l with
      | nil => rfl
      | cons d l =>
        simp only [List.length_cons] at hn hm
        dsimp only
        rw [checkF_fuel n m false l (by omega) (by omega)]
    split
    · have := setV_rest (c :: l) (by simp)
      simp only [List.length_cons] at this
      rw [checkF_fuel n m false (setV (c :: l)).2.1 (by omega) (by omega)]
    rw [checkF_fuel n m false l (by omega) (by omega)]
def checkS (e : Bool) (s : Str) : Bool := checkF s.length e s
theorem checkS_cons (e : Bool) (c : UInt8) (l : Str) : checkS e (c :: l) =
    if c = 47 then !e && !l.isEmpty && checkS true l
      else if c = 92 then match l with
        | [] => false
        | d :: l => d != 47 && checkS false l
      else if c = 91 then (setV (c :: l)).2.2 && checkS false (setV (c :: l)).2.1
      else checkS false l := by
  have hs := setV_rest (c :: l) (by simp); simp only [List.length_cons] at hs; unfold checkS; rw [List.length_cons]
  conv => lhs; unfold checkF
  dsimp only
  rw [checkF_fuel l.length (setV (c :: l)).2.1.length false (setV (c :: l)).2.1 (by omega) (Nat.le_refl _)]
  split
  · rfl
  split
  · cases l with
    | nil => rfl
    | cons d l =>
      dsimp only
      rw [checkF_fuel (d :: l).length l.length false l (by simp) (Nat.le_refl _)]
  rfl
def gpartsV : List Str → List Str → Bool
  | [], n => n.isEmpty
  | q :: p, [] => decide (q = [42, 42]) && gpartsV p []
  | q :: p, x :: n => if q = [42, 42] then gpartsV p (x :: n) || gpartsV (q :: p) n else gpartV q x && gpartsV p n
termination_by p n => p.length + n.length
def globV (pat path : Str) : Bool :=
  checkV pat && okPath path && (if pat = [42, 42] then true else if 47 ∈ pat then gpartsV (parts pat) (parts path) else gpartV pat (base path))
structure RuleP where
  ignore : Bool
  pattern : ByteArray
def lastV (rs : List RuleP) (p : Str) : Bool := match rs.reverse.find? (fun r => globV r.pattern.data.toList p) with
  | some r => r.ignore
  | none => false
def upsF : Nat → Str → List Str
  | 0, _ => []
  | n + 1, p => if p = [] then [] else p :: upsF n (parent p)
def ignoredV (rs : List RuleP) (p : Str) : Bool := okPath p && (upsF 17 p).any (lastV rs)
end
section
open Go.RowKit Go.Op
open Go.Lib (validD decodeL)
theorem dec_at (s : ByteArray) (pos : Nat) : Utf8.decode s pos = decodeL ((str s).drop pos) := (Lib.decodeL_drop s pos).symm
theorem dec_go (s : ByteArray) : Lib.decodeGo s = decS (str s) := by
  unfold Lib.decodeGo decS; have h := dec_at s 0; rw [List.drop_zero] at h; have hl := str_size s
  by_cases h0 : s.size = 0
  · rw [if_pos h0, if_pos (List.length_eq_zero_iff.1 (by omega))]
  rw [if_neg h0, if_neg (fun e => h0 (by rw [← hl, e]; rfl)), h]
theorem decU_any (s : ByteArray) (w : World) (hT : Tabs w) :
    Calls Tryz.prog 322 #[.string s] w fun e w' => e = .returned (.tuple #[.int .i32 (decS (str s)).1, .int .i64 (decS (str s)).2]) ∧ Off [] w w' :=
  (Tryz.utf8_DecodeRuneInString s w hT).mono fun e w' ⟨h1, h2⟩ => ⟨by rw [h1, dec_go], Off.of_below h2⟩
theorem str_drop (s : ByteArray) (i : Nat) : str (s.extract i s.size) = (str s).drop i := by
  rw [str_extract, List.take_of_length_le]; rw [List.length_drop, str_size]; exact Nat.le_refl _
def strLen (v : Value) : Nat := match v with | .string b => b.size | _ => 0
def GInv (s : ByteArray) (v : Int) : Prop := (validD (str s) = true ∧ v = -1) ∨ (validD (str s) = false ∧ 0 ≤ v)
set_option maxRecDepth 100000 in
set_option maxHeartbeats 4000000 in
theorem ginvalid_any (s : ByteArray) (w : World) (_hs : s.size ≤ 1048576) (hT : Tabs w) :
    Calls Tryz.prog 387 #[.string s] w fun e w' => (∃ v : Int, e = .returned (.int .i64 v) ∧ GInv s v) ∧ Off [] w w' := by
  have HT := Lib.hid hT; clear hT
  go_enter Tryz.func387, Tryz.ntmps387
  go_wp2_with fail
  go_loopw [] (fun wr => ∃ pos : Nat, wr.heap[w.heap.size]? = some (.stringIter s pos) ∧ Off [] w wr ∧ Hid (validD (str s) = validD ((str s).drop pos))) (fun wr => s.size - wr.iterPos w.heap.size)
  case atStart => exact ⟨0, World.iter_heap w s 0, (Off.refl _ _).alloc _, Lib.hid rfl⟩
  case round =>
    obtain ⟨pos, hit, ho, HV⟩ := hrel; have HIT := Lib.hid hit; have HO := Lib.hid ho
    by_cases hp : pos < s.size
    · obtain ⟨R, hR⟩ : ∃ R, (Utf8.decode s pos).1 = R := ⟨_, rfl⟩
      obtain ⟨K, hK⟩ : ∃ K, (Utf8.decode s pos).2 = K := ⟨_, rfl⟩
      have hnx : ∀ ty, (Instr.next (.pointer (some ⟨w.heap.size, 0, none⟩)) true ty).run Tryz.prog wr = .ok (.tuple #[.bool true, .int .i64 pos, .int .i32 R]) (wr.iterAt w.heap.size s (pos + K)) := fun ty => by
        rw [Lib.run_next_any_at wr w.heap.size s pos ty hit hp, hR, hK]
      have hne : (str s).drop pos ≠ [] := fun e => by
        have := congrArg List.length e; rw [List.length_drop, str_size, List.length_nil] at this; omega
      have hst := Lib.validD_step _ hne; have hde := dec_at s pos; rw [← hde, hR, hK, List.drop_drop] at hst; have HST := Lib.hid hst; have HKP := Lib.hid (show 1 ≤ K by rw [← hK, hde]; exact Lib.decodeL_width _); have HDS := Lib.hid (show decS (str (s.extract pos s.size)) = (R, K) by
        rw [str_drop]; unfold decS; rw [if_neg hne, ← hde, ← hR, ← hK])
      have hit2 := Lib.iterAt_heap wr w.heap.size s pos (pos + K) hit; have ho2 := ho.iterAt (Nat.le_refl w.heap.size) s (pos + K); have HIT2 := Lib.hid hit2; have HO2 := Lib.hid ho2; have hposI : (pos : Int) ≤ s.size := by omega
      clear hit ho hR hK hst hde hne hit2 ho2
      by_cases hr : R = 65533
      · have hq : ((R : Int) == 65533) = true := by rw [hr]; rfl
        have HR := Lib.hid hr; clear hr
        go_wp2_with fail
        refine (decU_any _ _ (HT.out.off HO2.out)).mono ?_
        rintro e w2 ⟨rfl, ho3⟩; rw [HDS.out]; have HO3 := Lib.hid ho3; clear ho3
        by_cases hk : K = 1
        · have hq1 : ((K : Int) == 1) = true := by rw [hk]; rfl
          have HK := Lib.hid hk; clear hk
          go_wp2_with fail
          go_ret
          refine ⟨⟨_, rfl, .inr ⟨?_, by omega⟩⟩, HO2.out.trans_nil HO3.out⟩
          rw [HV.out, HST.out, if_pos ⟨HR.out, HK.out⟩]
        have hq1 : ((K : Int) == 1) = false := beq_eq_false_iff_ne.2 (by omega)
        have HK := Lib.hid hk; clear hk
        go_wp2_with fail
        have h3 := (HO3.out.block w.heap.size (by rw [Lib.iterAt_size]; exact (Array.getElem?_eq_some_iff.1 HIT.out).1) (by simp)).trans HIT2.out; refine ⟨⟨pos + K, h3, HO2.out.trans_nil HO3.out, Lib.hid ?_⟩, ?_⟩
        · rw [HV.out, HST.out, if_neg (fun h => HK.out h.2)]
        have := HKP.out; simp only [World.iterPos, h3, HIT.out]; omega
      have hq : ((R : Int) == 65533) = false := beq_eq_false_iff_ne.2 (by omega)
      have HR := Lib.hid hr; clear hr
      go_wp2_with fail
      refine ⟨⟨pos + K, HIT2.out, HO2.out, Lib.hid ?_⟩, ?_⟩
      · rw [HV.out, HST.out, if_neg (fun h => HR.out h.1)]
      have := HKP.out; simp only [World.iterPos, HIT2.out, HIT.out]; omega
    have hnx : ∀ ty, (Instr.next (.pointer (some ⟨w.heap.size, 0, none⟩)) true ty).run Tryz.prog wr = .ok (.tuple #[.bool false]) wr := fun ty => Lib.run_next_end_at wr w.heap.size s pos ty hit hp
    have hdn : (str s).drop pos = [] := List.drop_of_length_le (by rw [str_size]; omega)
    have HDN := Lib.hid hdn; clear hit ho hdn
    go_wp2_with fail
    go_ret
    exact ⟨⟨_, rfl, .inl ⟨by rw [HV.out, HDN.out]; rfl, rfl⟩⟩, HO.out⟩
theorem drop_cons {s : Str} {i : Nat} {x : UInt8} (h : s[i]? = some x) : s.drop i = x :: s.drop (i + 1) := by
  obtain ⟨h5, h6⟩ := List.getElem?_eq_some_iff.1 h; rw [List.drop_eq_getElem_cons h5, h6]
theorem take_cons {s : Str} {i : Nat} {x : UInt8} (h : s[i]? = some x) : s.take (i + 1) = s.take i ++ [x] := by
  obtain ⟨h5, h6⟩ := List.getElem?_eq_some_iff.1 h; rw [List.take_succ_eq_append_getElem h5, h6]
theorem get_str (s : ByteArray) (i : Nat) (h : i < s.size) : (str s)[i]? = some (s[i]'h) := Lib.data_getElem? s i h
theorem setGo_cons (acc : Str) (f : Bool) (c : UInt8) (l : Str) : setGo acc f (c :: l) = if c = 47 then ([], [], false)
    else if c = 92 then match l with
      | [] => ([], [], false)
      | d :: l => if d = 47 then ([], [], false) else setGo (acc ++ [92, d]) false l
    else if c = 93 then (acc, l, !f)
    else setGo (acc ++ [c]) false l := by
  conv => lhs; unfold setGo
  cases l <;> rfl
def SetAt (s : Str) (i k : Nat) : Prop := setV s = setGo ((s.take i).drop 1) (decide (i = k)) (s.drop i)
theorem SetAt.end_ {s : Str} {i k : Nat} (h : SetAt s i k) (hi : s.length ≤ i) : setV s = ([], [], false) := by
  rw [h, List.drop_of_length_le hi]; rfl
theorem SetAt.slash {s : Str} {i k : Nat} (h : SetAt s i k) (hx : s[i]? = some 47) : setV s = ([], [], false) := by
  rw [h, drop_cons hx, setGo_cons, if_pos rfl]
theorem SetAt.close {s : Str} {i k : Nat} (h : SetAt s i k) (hx : s[i]? = some 93) : setV s = ((s.take i).drop 1, s.drop (i + 1), !decide (i = k)) := by
  rw [h, drop_cons hx, setGo_cons, if_neg (by decide), if_neg (by decide), if_pos rfl]
theorem SetAt.esc_end {s : Str} {i k : Nat} (h : SetAt s i k) (hx : s[i]? = some 92) (he : s.length ≤ i + 1) : setV s = ([], [], false) := by
  rw [h, drop_cons hx, setGo_cons, if_neg (by decide), if_pos rfl, List.drop_of_length_le he]
theorem SetAt.esc_slash {s : Str} {i k : Nat} (h : SetAt s i k) (hx : s[i]? = some 92) (hy : s[i + 1]? = some 47) : setV s = ([], [], false) := by
  rw [h, drop_cons hx, setGo_cons, if_neg (by decide), if_pos rfl, drop_cons hy]; dsimp only; rw [if_pos rfl]
theorem SetAt.esc {s : Str} {i k : Nat} {y : UInt8} (h : SetAt s i k) (hk : k ≤ i) (h1 : 1 ≤ i) (hx : s[i]? = some 92) (hy : s[i + 1]? = some y) (hn : y ≠ 47) : SetAt s (i + 2) k := by
  unfold SetAt; rw [h, drop_cons hx, setGo_cons, if_neg (by decide), if_pos rfl, drop_cons hy]; dsimp only; rw [if_neg hn, take_cons hy, take_cons hx, decide_eq_false (show ¬ i + 2 = k by omega)]; have hl := (List.getElem?_eq_some_iff.1 hx).1; rw [List.append_assoc, List.drop_append_of_le_length (by rw [List.length_take]; omega)]
  rfl
theorem SetAt.plain {s : Str} {i k : Nat} {x : UInt8} (h : SetAt s i k) (hk : k ≤ i) (h1 : 1 ≤ i) (hx : s[i]? = some x) (n1 : x ≠ 47) (n2 : x ≠ 92) (n3 : x ≠ 93) : SetAt s (i + 1) k := by
  unfold SetAt; rw [h, drop_cons hx, setGo_cons, if_neg n1, if_neg n2, if_neg n3, take_cons hx, decide_eq_false (show ¬ i + 1 = k by omega)]; have hl := (List.getElem?_eq_some_iff.1 hx).1; rw [List.drop_append_of_le_length (by rw [List.length_take]; omega)]
theorem byte_ne {x : UInt8} {n : Nat} (hn : n < 256) (h : ¬ x.toNat = n) : x ≠ n.toUInt8 := fun e => by
  subst e
  apply h
  simp [Nat.mod_eq_of_lt hn]
theorem byte_is {x : UInt8} {n : Nat} (hn : n < 256) (h : x.toNat = n) : x = n.toUInt8 := by
  apply UInt8.toNat_inj.1
  rw [h]; simp [Nat.mod_eq_of_lt hn]
def setRet (s : Str) : Ending := .returned (.tuple #[.string (bs (setV s).1), .string (bs (setV s).2.1), .bool (setV s).2.2])
theorem setRet_none {s : Str} (h : setV s = ([], [], false)) : Ending.returned (.tuple #[.string ⟨#[]⟩, .string ⟨#[]⟩, .bool false]) = setRet s := by
  unfold setRet; rw [h]; rfl
theorem setRet_close {s : ByteArray} {i k : Nat} (h : SetAt (str s) i k) (hx : (str s)[i]? = some 93) (v : Bool) (hv : v = !decide (i = k)) : Ending.returned (.tuple #[.string (s.extract 1 i), .string (s.extract (i + 1) s.size), .bool v]) = setRet (str s) := by
  have e1 : s.extract 1 i = bs (((str s).take i).drop 1) := str_inj (by rw [str_bs, str_extract, List.drop_take])
  have e2 : s.extract (i + 1) s.size = bs ((str s).drop (i + 1)) := str_inj (by rw [str_bs, str_drop])
  unfold setRet; rw [h.close hx, hv, e1, e2]
theorem head_bang (s : ByteArray) : Lib.hasPrefix (s.extract 1 s.size).data.toList [33] = ((str s).drop 1).head?.any (· == 33) := by
  show Lib.hasPrefix (str (s.extract 1 s.size)) [33] = _
  rw [str_drop]
  cases (str s).drop 1 with
  | nil => rfl
  | cons c l =>
    show ((33 : UInt8) == c && true) = (c == 33)
    rw [Bool.and_true, Bool.eq_iff_iff, beq_iff_eq, beq_iff_eq, eq_comm]
set_option maxRecDepth 100000 in
set_option maxHeartbeats 4000000 in
theorem gset_any (s : ByteArray) (w : World) (h1 : 1 ≤ s.size) (hs : s.size ≤ 1048576) :
    Calls Tryz.prog 388 #[.string s] w fun e w' => e = setRet (str s) ∧ Off [] w w' := by
  have hsl := str_size s; have key : ∃ (b : Bool) (k : Nat), Lib.hasPrefix (s.extract 1 s.size).data.toList [33] = b ∧ k = (if b then 2 else 1) ∧ k ≤ s.size ∧ SetAt (str s) k k := by
    refine ⟨_, _, rfl, rfl, ?_, ?_⟩
    · rw [head_bang]
      split
      · rename_i h
        cases hd : (str s).drop 1 with
        | nil => rw [hd] at h; cases h
        | cons c l =>
          have := congrArg List.length hd; simp at this; omega
      exact h1
    rw [head_bang]; unfold SetAt setV
    cases hb : ((str s).drop 1).head?.any (· == 33)
    · rw [if_neg (by simp), if_neg (by simp), decide_eq_true rfl, List.drop_of_length_le (l := (str s).take 1) (by rw [List.length_take]; omega)]
    rw [if_pos rfl, if_pos rfl, decide_eq_true rfl]
    cases hd : (str s).drop 1 with
    | nil => rw [hd] at hb; cases hb
    | cons c l =>
      rw [hd] at hb; have hc : c = 33 := by simpa using hb
      have : (str s).take 2 = (str s).take 1 ++ [33] := by
        refine take_cons ?_
        have := congrArg (fun l => l[0]?) hd; simp only [List.getElem?_drop, List.getElem?_cons_zero] at this; rw [this, hc]
      rw [this, List.drop_append_of_le_length (by rw [List.length_take]; omega), List.drop_of_length_le (l := (str s).take 1) (by rw [List.length_take]; omega)]
      rfl
  obtain ⟨b, k, hb, hkb, hks, hat⟩ := key; have HB := Lib.hid hb; have HAT := Lib.hid hat; have h1I : (1 : Int) ≤ s.size := by omega
  clear hb hat; have hk1 : 1 ≤ k := by cases b <;> simp at hkb <;> omega
  have HSL := Lib.hid hsl; clear hsl
  cases b
  all_goals
    simp only [Bool.false_eq_true, if_false, if_true] at hkb
    subst hkb
    go_enter Tryz.func388, Tryz.ntmps388
    go_wp2_with fail
    refine (Tryz.strings_HasPrefix _ _ _).mono ?_
    rintro e w1 ⟨rfl, ew⟩; rw [ew]; clear ew; rw [show (⟨#[33]⟩ : ByteArray).data.toList = [33] from rfl, HB.out]
    go_wp2_with fail
    go_loopw [6] (fun x wr => ∃ i : Nat, x = .int .i64 i ∧ 1 ≤ i ∧ i ≤ s.size ∧ wr = w ∧ _ ≤ i ∧ Hid (SetAt (str s) i _)) (fun x _ => s.size - (intOf x).toNat)
    case atStart => exact ⟨_, rfl, hk1, hks, rfl, Nat.le_refl _, HAT⟩
    case round =>
      obtain ⟨i, rfl, hi1, hi, rfl, hki, HI⟩ := hrel
      by_cases hlt : i < s.size
      · obtain ⟨x, hx⟩ : ∃ x : UInt8, s[i]'hlt = x := ⟨_, rfl⟩
        have HX := Lib.hid (show (str s)[i]? = some x by rw [← hx]; exact get_str s i hlt); have hxb := x.toNat_lt
        by_cases c1 : x.toNat = 47
        · have f1 : ((x.toNat : Int) == 47) = true := by rw [c1]; rfl
          have HC := Lib.hid (byte_is (n := 47) (by omega) c1); clear c1
          go_wp2_with fail
          go_ret3
          exact ⟨setRet_none (HI.out.slash (by rw [HX.out, HC.out]; rfl)), Off.refl _ _⟩
        have f1 : ((x.toNat : Int) == 47) = false := beq_eq_false_iff_ne.2 (by omega)
        have HC1 := Lib.hid (byte_ne (n := 47) (by omega) c1)
        by_cases c2 : x.toNat = 92
        · have f2 : ((x.toNat : Int) == 92) = true := by rw [c2]; rfl
          have HC := Lib.hid (byte_is (n := 92) (by omega) c2); clear c1 c2
          by_cases he : i + 1 = s.size
          · have f3 : ((i : Int) + 1 == s.size) = true := by simp; omega
            have HE := Lib.hid he; clear he
            go_wp2_with fail
            go_ret3
            exact ⟨setRet_none (HI.out.esc_end (by rw [HX.out, HC.out]; rfl) (by rw [HSL.out, HE.out]; exact Nat.le_refl _)), Off.refl _ _⟩
          have f3 : ((i : Int) + 1 == s.size) = false := beq_eq_false_iff_ne.2 (by omega)
          have hlt2 : i + 1 < s.size := by omega
          have hltI : (i : Int) + 1 < s.size := by omega
          obtain ⟨y, hy⟩ : ∃ y : UInt8, s[i + 1]'hlt2 = y := ⟨_, rfl⟩
          have HY := Lib.hid (show (str s)[i + 1]? = some y by rw [← hy]; exact get_str s (i + 1) hlt2); have hyb := y.toNat_lt; have hnn : ((i : Int) + 1).toNat = i + 1 := by omega
          by_cases d1 : y.toNat = 47
          · have f4 : ((y.toNat : Int) == 47) = true := by rw [d1]; rfl
            have HD := Lib.hid (byte_is (n := 47) (by omega) d1); clear d1
            go_wp2_with fail
            go_ret3
            exact ⟨setRet_none (HI.out.esc_slash (by rw [HX.out, HC.out]; rfl) (by rw [HY.out, HD.out]; rfl)), Off.refl _ _⟩
          have f4 : ((y.toNat : Int) == 47) = false := beq_eq_false_iff_ne.2 (by omega)
          have HD := Lib.hid (byte_ne (n := 47) (by omega) d1); clear d1
          go_wp2_with fail
          exact ⟨⟨i + 2, by congr 1, by omega, by omega, by trivial, by omega, Lib.hid (HI.out.esc hki hi1 (by rw [HX.out, HC.out]; rfl) HY.out HD.out)⟩, by simp only [intOf]; omega⟩
        have f2 : ((x.toNat : Int) == 92) = false := beq_eq_false_iff_ne.2 (by omega)
        have HC2 := Lib.hid (byte_ne (n := 92) (by omega) c2)
        by_cases c3 : x.toNat = 93
        · have f3 : ((x.toNat : Int) == 93) = true := by rw [c3]; rfl
          have HC := Lib.hid (byte_is (n := 93) (by omega) c3); have hi0 : (0 : Int) ≤ (i : Int) + 1 := by omega
          have hi2 : (i : Int) + 1 ≤ s.size := by omega
          have hi3 : (1 : Int) ≤ i := by omega
          have hi4 : (i : Int) ≤ s.size := by omega
          clear c1 c2 c3
          go_wp2_with fail
          go_quiet (fail)
          go_wp2_with fail
          go_ret3
          refine ⟨setRet_close HI.out (by rw [HX.out, HC.out]; rfl) _ ?_, (Off.refl _ _).drewN _⟩
          show decide _ = !decide _
          rw [Bool.eq_iff_iff]; simp; omega
        have f3 : ((x.toNat : Int) == 93) = false := beq_eq_false_iff_ne.2 (by omega)
        have HC3 := Lib.hid (byte_ne (n := 93) (by omega) c3); clear c1 c2 c3
        go_wp2_with fail
        exact ⟨⟨i + 1, by congr 1, by omega, by omega, by trivial, by omega, Lib.hid (HI.out.plain hki hi1 HX.out HC1.out HC2.out HC3.out)⟩, by simp only [intOf]; omega⟩
      obtain rfl : i = s.size := by omega
      go_wp2_with fail
      go_ret3
      exact ⟨setRet_none (HI.out.end_ (by rw [HSL.out]; exact Nat.le_refl _)), Off.refl _ _⟩
end
section
open Go.RowKit Go.Op Go.Maps
theorem laidOutG : laidOutB Tryz.prog = true := by kernel_rfl
theorem pairK : Keyed Tryz.prog 103 := Keyed.of_law (deep_law_laid laidOutG (m := 3) (by omega) (of_decide_eq_true (by kernel_rfl)) (by kernel_rfl) (by kernel_rfl))
def pairV (i j : Nat) : Value := .agg #[.int .i64 i, .int .i64 j]
theorem pairV_inj {i j k l : Nat} (h : pairV i j = pairV k l) : i = k ∧ j = l := by
  unfold pairV at h; simp at h; exact ⟨by omega, by omega⟩
set_option maxRecDepth 100000 in
theorem pair_some (i j : Nat) (hi : i ≤ 1000000) (hj : j ≤ 1000000) : ∃ l, keyOf Tryz.prog 103 (pairV i j) = some l := by
  have u1 := Tryz.underlying103; have u2 := Tryz.underlying3; have k1 : Tryz.prog.keyType 103 = true := by kernel_rfl
  have c1 : Tryz.prog.cellsOf 103 = 2 := by kernel_rfl
  have c2 : Tryz.prog.cellsOf 3 = 1 := by kernel_rfl
  have hp : 0 < Tryz.prog.types.size := of_decide_eq_true (by kernel_rfl)
  obtain ⟨s, hs⟩ : ∃ s, Tryz.prog.types.size = s + 1 := ⟨Tryz.prog.types.size - 1, by omega⟩
  have w1 : (Lit.int .i64 (i : Int)).wf = true := WalkArith.wf_i64 (by omega)
  have w2 : (Lit.int .i64 (j : Int)).wf = true := WalkArith.wf_i64 (by omega)
  have hf : (pairV i j).formed Tryz.prog 103 = true := by simp [pairV, Value.formed, u1, c1]
  unfold keyOf; rw [u1, k1, hf, hs]; simp only [Bool.and_self, if_true]; have e : Tryz.prog.keyLits (s + 1 + 1) 103 (pairV i j).cells.toList = some [.int .i64 i, .int .i64 j] := by
    have e2 : ∀ x : Int, (Lit.int .i64 x).wf = true → Tryz.prog.keyLits (s + 1) 3 [.int .i64 x] = some [.int .i64 x] := fun x hx => by
      unfold Program.keyLits; simp only [u2, hx]
      rfl
    unfold Program.keyLits; simp only [u1, pairV, Value.cells, c1, c2]; rw [if_pos (show [Value.int .i64 (i : Int), Value.int .i64 (j : Int)].length = 2 from rfl), show List.range 2 = [0, 1] from rfl]; simp [e2, w1, w2]
  rw [e]; exact ⟨_, rfl⟩
noncomputable def keyLP (i j : Nat) : Lit := (keyOf Tryz.prog 103 (pairV i j)).getD (.bool false)
theorem pair_key {i j : Nat} (hi : i ≤ 1000000) (hj : j ≤ 1000000) : keyOf Tryz.prog 103 (pairV i j) = some (keyLP i j) := by
  obtain ⟨l, h⟩ := pair_some i j hi hj; unfold keyLP; rw [h]
  rfl
theorem keyLP_inj {i j k l : Nat} (hi : i ≤ 1000000) (hj : j ≤ 1000000) (hk : k ≤ 1000000) (hl : l ≤ 1000000) (h : keyLP i j = keyLP k l) : i = k ∧ j = l := by
  have h1 := pair_key hi hj; rw [h] at h1; exact pairV_inj (pairK.inj h1 (pair_key hk hl))
theorem nodup_lt : ∀ (M : Nat) (l : List Nat), l.Nodup → (∀ x ∈ l, x < M) → l.length ≤ M
  | 0, l, _, h => by
    cases l with
    | nil => exact Nat.le_refl _
    | cons x l => have := h x (by simp); omega
  | M + 1, l, hn, h => by
    have h1 := nodup_lt M (l.filter fun x => decide (x ≠ M)) (hn.filter _) (fun x hx => by
      have := h x (List.mem_filter.1 hx).1; have h2 := (List.mem_filter.1 hx).2; simp at h2; omega)
    have h3 : l.length ≤ (l.filter fun x => decide (x ≠ M)).length + 1 := by
      clear h h1
      induction l with
      | nil => simp
      | cons x l ih =>
        rw [List.nodup_cons] at hn
        by_cases e : x = M
        · subst e
          rw [List.filter_cons_of_neg (by simp), List.filter_eq_self.2 (fun y hy => by
            simp
            rintro rfl; exact hn.1 hy)]
          simp
        rw [List.filter_cons_of_pos (by simpa using e)]; have := ih hn.2; simp only [List.length_cons]; omega
    omega
set_option maxRecDepth 100000 in
theorem plainElem_bool_inv {v : Value} {z : DataW Unit × List MemPlace} (h : plainElem Tryz.prog 4 v = some z) : ∃ x, v = .bool x ∧ z = (.lit (.bool x), []) := by
  unfold plainElem at h; rw [Tryz.underlying4] at h
  cases v <;> simp at h
  exact ⟨_, rfl, h.symm⟩
def SMat (w : World) (b A B : Nat) (Bad : Nat → Nat → Prop) : Prop :=
  ∃ (L : List Nat) (D : DataW Unit), w.ownsMap Tryz.prog 103 (plainElem Tryz.prog 4) b L.length D ∧ Maps.size D = L.length ∧ L.Nodup ∧ (∀ x ∈ L, x < (A + 1) * (B + 1)) ∧
    (∀ i j, i ≤ A → j ≤ B → has D (keyLP i j) = decide (i * (B + 1) + j ∈ L)) ∧ ∀ i j, i ≤ A → j ≤ B → D.atKey (keyLP i j) (.lit (.bool false)) = .lit (.bool true) → Bad i j
theorem code_inj {B i j k l : Nat} (hj : j ≤ B) (hl : l ≤ B) (h : i * (B + 1) + j = k * (B + 1) + l) : i = k ∧ j = l := by
  have h1 : (i * (B + 1) + j) / (B + 1) = i := by rw [Nat.mul_comm, Nat.mul_add_div (by omega), Nat.div_eq_of_lt (by omega), Nat.add_zero]
  have h2 : (k * (B + 1) + l) / (B + 1) = k := by rw [Nat.mul_comm, Nat.mul_add_div (by omega), Nat.div_eq_of_lt (by omega), Nat.add_zero]
  have h3 : i = k := by rw [← h1, h, h2]
  subst h3; exact ⟨rfl, by omega⟩
theorem code_lt {A B i j : Nat} (hi : i ≤ A) (hj : j ≤ B) : i * (B + 1) + j < (A + 1) * (B + 1) := by
  have := Nat.mul_le_mul_right (B + 1) hi; rw [Nat.add_mul]; omega
section
variable {w w' : World} {b A B i j : Nat} {Bad : Nat → Nat → Prop}
theorem SMat.new (w : World) (A B : Nat) (Bad : Nat → Nat → Prop) : SMat (w.alloc (.map #[] 0)) w.heap.size A B Bad :=
  ⟨[], .map [], World.ownsMap_made w _ _ _, rfl, List.nodup_nil, fun x hx => (by cases hx), fun i j _ _ => (by simp [has]), fun i j _ _ h => (by simp [DataW.atKey] at h)⟩
theorem SMat.off {k : List Nat} (h : SMat w b A B Bad) (ho : Off k w w') (hb : b ∉ k) : SMat w' b A B Bad := by
  obtain ⟨L, D, hD, hr⟩ := h; exact ⟨L, D, ownsMap_off hD ho hb, hr⟩
set_option maxRecDepth 100000 in
theorem SMat.look (h : SMat w b A B Bad) (hi : i ≤ A) (hj : j ≤ B) (hA : A ≤ 1000000) (hB : B ≤ 1000000) :
    ∃ x, (Instr.lookup 441 (.map (some b)) (pairV i j) false).run Tryz.prog w = .ok (.bool x) w ∧ (x = true → Bad i j) := by
  obtain ⟨L, D, hD, hs, hn, hL, hh, ha⟩ := h; obtain ⟨v, ps, hrun, hv⟩ := hD.lookup pairK Tryz.underlying441 (z := .bool false) (by kernel_rfl) (plainElem_bool Tryz.underlying4 false) (pair_key (show i ≤ 1000000 by omega) (show j ≤ 1000000 by omega)); obtain ⟨x, rfl, hx⟩ := plainElem_bool_inv hv; refine ⟨x, hrun, fun e => ha i j hi hj ?_⟩; subst e; exact (Prod.mk.inj hx).1
set_option maxRecDepth 100000 in
theorem SMat.put {D : DataW Unit} {L : List Nat} (hs : Maps.size D = L.length) (hD : w.ownsMap Tryz.prog 103 (plainElem Tryz.prog 4) b L.length D) (hn : L.Nodup) (hL : ∀ x ∈ L, x < (A + 1) * (B + 1))
    (hh : ∀ i j, i ≤ A → j ≤ B → has D (keyLP i j) = decide (i * (B + 1) + j ∈ L)) (ha : ∀ i j, i ≤ A → j ≤ B → D.atKey (keyLP i j) (.lit (.bool false)) = .lit (.bool true) → Bad i j)
    (hi : i ≤ A) (hj : j ≤ B) (hA : A ≤ 1000000) (hB : B ≤ 1000000) (x : Bool) (hx : x = true → Bad i j) (h' : w'.ownsMap Tryz.prog 103 (plainElem Tryz.prog 4) b (L.length + 1) (D.put (keyLP i j) (.lit (.bool x)))) : SMat w' b A B Bad := by
  have hik := pairK.key (pair_key (show i ≤ 1000000 by omega) (show j ≤ 1000000 by omega)); have hat : ∀ k l, k ≤ A → l ≤ B → (D.put (keyLP i j) (.lit (.bool x))).atKey (keyLP k l) (.lit (.bool false)) = .lit (.bool true) → Bad k l := by
    intro k l hk hl h
    by_cases e : k = i ∧ l = j
    · obtain ⟨rfl, rfl⟩ := e
      rw [atKey_put_same hD.isMap hik] at h; injection h with h
      injection h with h
      exact hx h
    rw [atKey_put_other (fun e2 => e (keyLP_inj (by omega) (by omega) (by omega) (by omega) e2))] at h; exact ha k l hk hl h
  have hex := ownsMap_exact h'; have hsz : Maps.size (D.put (keyLP i j) (.lit (.bool x))) = L.length + if i * (B + 1) + j ∈ L then 0 else 1 := by
    rw [size_put (hD.tidy pairK), hh i j hi hj, hs]
    by_cases e : i * (B + 1) + j ∈ L <;> simp [e]
  by_cases e : i * (B + 1) + j ∈ L
  · rw [if_pos e, Nat.add_zero] at hsz
    rw [hsz] at hex; refine ⟨L, _, hex, hsz, hn, hL, fun k l hk hl => ?_, hat⟩
    by_cases e2 : k = i ∧ l = j
    · obtain ⟨rfl, rfl⟩ := e2
      rw [has_put_same hD.isMap hik, decide_eq_true e]
    rw [has_put_other (fun e3 => e2 (keyLP_inj (by omega) (by omega) (by omega) (by omega) e3)), hh k l hk hl]
  rw [if_neg e] at hsz; rw [hsz] at hex; refine ⟨L ++ [i * (B + 1) + j], _, by simpa using hex, by simpa using hsz, ?_, ?_, fun k l hk hl => ?_, hat⟩
  · rw [List.nodup_append]
    refine ⟨hn, by simp, fun y hy z hz => ?_⟩
    rw [List.mem_singleton] at hz; subst hz; rintro rfl; exact e hy
  · intro y hy
    rcases List.mem_append.1 hy with hy | hy
    · exact hL y hy
    rw [List.mem_singleton] at hy; subst hy; exact code_lt hi hj
  by_cases e2 : k = i ∧ l = j
  · obtain ⟨rfl, rfl⟩ := e2
    rw [has_put_same hD.isMap hik]; simp
  rw [has_put_other (fun e3 => e2 (keyLP_inj (by omega) (by omega) (by omega) (by omega) e3)), hh k l hk hl, decide_eq_decide, List.mem_append, List.mem_singleton]
  constructor
  · exact .inl
  rintro (h | h)
  · exact h
  exact absurd (code_inj hl hj h) e2
end
end
end Go.Proofs.YthciejabapdbgaaGreatDoor
namespace Go.Proofs
open Go.Shelf
def Tryz.lays103_ren : Go.Shelf.Ren := ⟨fun | 103 => 411 | 210 => 416 | 206 => 241 | n => n, fun | 9 => 9 | 4 => 4 | 24 => 273 | 3 => 3 | n => n, fun | n => n⟩
theorem Tryz.lays103 : Go.Proofs.Lays.n103 Tryz.prog Tryz.lays103_ren := {
  mixed := by kernel_rfl
  f103 := Tryz.func411.trans (congrArg some (by kernel_rfl))
  f206 := Tryz.func241.trans (congrArg some (by kernel_rfl))
  f210 := Tryz.func416.trans (congrArg some (by kernel_rfl))
  t3 := Tryz.underlying3
  a3 := Tryz.isAgg3
  z3 := Tryz.sizeOf3
  v3 := Tryz.zeroValue3
  t4 := Tryz.underlying4
  a4 := Tryz.isAgg4
  z4 := Tryz.sizeOf4
  v4 := Tryz.zeroValue4
  t9 := Tryz.underlying9
  a9 := Tryz.isAgg9
  z9 := Tryz.sizeOf9
  v9 := Tryz.zeroValue9
  t24 := Tryz.underlying273
  a24 := Tryz.isAgg273
  z24 := Tryz.sizeOf273
  v24 := Tryz.zeroValue273 }
open Go.RowKit in
theorem Tryz.strings_CutPrefix (s p : ByteArray) (w : World) :
    Calls Tryz.prog 411 #[.string s, .string p] w fun e w' => e = .returned (.tuple #[.string ⟨(Lib.trimPrefix s.data.toList p.data.toList).toArray⟩, .bool (Lib.hasPrefix s.data.toList p.data.toList)]) ∧ w' = w := Any.strings_CutPrefix Tryz.lays103 s p w
def Tryz.lays160_ren : Go.Shelf.Ren := ⟨fun | 160 => 183 | 232 => 259 | 231 => 258 | 227 => 260 | 234 => 262 | 233 => 261 | 236 => 264 | 235 => 263 | 228 => 334 | 271 => 336 | 151 => 335 | 197 => 322 | 120 => 381 | 152 => 377 | 260 => 376 | 137 => 401 | 119 => 402 | 224 => 374 | 225 => 373 | 217 => 372 | 266 => 399 | n => n, fun | 9 => 9 | 4 => 4 | 3 => 3 | 5 => 5 | 117 => 309 | 116 => 308 | 0 => 0 | 124 => 312 | 21 => 21 | 105 => 381 | 46 => 253 | 119 => 384 | 139 => 387 | 138 => 386 | n => n, fun | 3 => 1 | 4 => 2 | n => n⟩
theorem Tryz.lays160 : Go.Proofs.Lays.n160 Tryz.prog Tryz.lays160_ren := {
  mixed := by kernel_rfl
  f119 := Tryz.func402.trans (congrArg some (by kernel_rfl))
  f120 := Tryz.func381.trans (congrArg some (by kernel_rfl))
  f137 := Tryz.func401.trans (congrArg some (by kernel_rfl))
  f151 := Tryz.func335.trans (congrArg some (by kernel_rfl))
  f152 := Tryz.func377.trans (congrArg some (by kernel_rfl))
  f160 := Tryz.func183.trans (congrArg some (by kernel_rfl))
  f197 := Tryz.func322.trans (congrArg some (by kernel_rfl))
  f217 := Tryz.func372.trans (congrArg some (by kernel_rfl))
  f224 := Tryz.func374.trans (congrArg some (by kernel_rfl))
  f225 := Tryz.func373.trans (congrArg some (by kernel_rfl))
  f227 := Tryz.func260.trans (congrArg some (by kernel_rfl))
  f228 := Tryz.func334.trans (congrArg some (by kernel_rfl))
  f231 := Tryz.func258.trans (congrArg some (by kernel_rfl))
  f232 := Tryz.func259.trans (congrArg some (by kernel_rfl))
  f233 := Tryz.func261.trans (congrArg some (by kernel_rfl))
  f234 := Tryz.func262.trans (congrArg some (by kernel_rfl))
  f235 := Tryz.func263.trans (congrArg some (by kernel_rfl))
  f236 := Tryz.func264.trans (congrArg some (by kernel_rfl))
  f260 := Tryz.func376.trans (congrArg some (by kernel_rfl))
  f266 := Tryz.func399.trans (congrArg some (by kernel_rfl))
  f271 := Tryz.func336.trans (congrArg some (by kernel_rfl))
  t0 := Tryz.underlying0
  a0 := Tryz.isAgg0
  z0 := Tryz.sizeOf0
  v0 := Tryz.zeroValue0
  t3 := Tryz.underlying3
  a3 := Tryz.isAgg3
  z3 := Tryz.sizeOf3
  v3 := Tryz.zeroValue3
  t4 := Tryz.underlying4
  a4 := Tryz.isAgg4
  z4 := Tryz.sizeOf4
  v4 := Tryz.zeroValue4
  t5 := Tryz.underlying5
  a5 := Tryz.isAgg5
  z5 := Tryz.sizeOf5
  v5 := Tryz.zeroValue5
  t9 := Tryz.underlying9
  a9 := Tryz.isAgg9
  z9 := Tryz.sizeOf9
  v9 := Tryz.zeroValue9
  t21 := Tryz.underlying21
  a21 := Tryz.isAgg21
  z21 := Tryz.sizeOf21
  v21 := Tryz.zeroValue21
  t46 := Tryz.underlying253
  a46 := Tryz.isAgg253
  z46 := Tryz.sizeOf253
  v46 := Tryz.zeroValue253
  t105 := Tryz.underlying381
  a105 := Tryz.isAgg381
  z105 := Tryz.sizeOf381
  v105 := Tryz.zeroValue381
  t116 := Tryz.underlying308
  a116 := Tryz.isAgg308
  z116 := Tryz.sizeOf308
  t117 := Tryz.underlying309
  a117 := Tryz.isAgg309
  z117 := Tryz.sizeOf309
  v117 := Tryz.zeroValue309
  t119 := Tryz.underlying384
  a119 := Tryz.isAgg384
  z119 := Tryz.sizeOf384
  t124 := Tryz.underlying312
  a124 := Tryz.isAgg312
  z124 := Tryz.sizeOf312
  v124 := Tryz.zeroValue312
  t138 := Tryz.underlying386
  a138 := Tryz.isAgg386
  z138 := Tryz.sizeOf386
  v138 := Tryz.zeroValue386
  t139 := Tryz.underlying387
  a139 := Tryz.isAgg387
  z139 := Tryz.sizeOf387
  v139 := Tryz.zeroValue387
  g3 := by kernel_rfl
  g4 := by kernel_rfl }
open Go.RowKit in
theorem Tryz.strings_Trim_one (s : ByteArray) (c : UInt8) (hc : c.toNat < 128) (w : World) (hs : s.size ≤ 9223372036854775807) :
    Calls Tryz.prog 183 #[.string s, .string ⟨#[c]⟩] w fun e w' => e = .returned (.string ⟨(Lib.trimB s.data.toList c).toArray⟩) ∧ (w' = w ∨ w' = w.drew) := Any.strings_Trim_one Tryz.lays160 s c hc w hs
def Tryz.lays221_ren : Go.Shelf.Ren := ⟨fun | 221 => 390 | 268 => 404 | 138 => 170 | 143 => 244 | 195 => 242 | 197 => 322 | 218 => 243 | 219 => 320 | 260 => 376 | 217 => 372 | 225 => 373 | 224 => 374 | 267 => 375 | 266 => 399 | 314 => 400 | n => n, fun | 9 => 9 | 3 => 3 | 31 => 45 | 4 => 4 | 0 => 0 | 105 => 381 | 21 => 21 | 5 => 5 | 46 => 253 | 119 => 384 | 139 => 387 | 138 => 386 | 146 => 392 | 51 => 254 | n => n, fun | 1 => 0 | 3 => 1 | 4 => 2 | n => n⟩
theorem Tryz.lays221 : Go.Proofs.Lays.n221 Tryz.prog Tryz.lays221_ren := {
  mixed := by kernel_rfl
  f138 := Tryz.func170.trans (congrArg some (by kernel_rfl))
  f143 := Tryz.func244.trans (congrArg some (by kernel_rfl))
  f195 := Tryz.func242.trans (congrArg some (by kernel_rfl))
  f197 := Tryz.func322.trans (congrArg some (by kernel_rfl))
  f217 := Tryz.func372.trans (congrArg some (by kernel_rfl))
  f218 := Tryz.func243.trans (congrArg some (by kernel_rfl))
  f219 := Tryz.func320.trans (congrArg some (by kernel_rfl))
  f221 := Tryz.func390.trans (congrArg some (by kernel_rfl))
  f224 := Tryz.func374.trans (congrArg some (by kernel_rfl))
  f225 := Tryz.func373.trans (congrArg some (by kernel_rfl))
  f260 := Tryz.func376.trans (congrArg some (by kernel_rfl))
  f266 := Tryz.func399.trans (congrArg some (by kernel_rfl))
  f267 := Tryz.func375.trans (congrArg some (by kernel_rfl))
  f268 := Tryz.func404.trans (congrArg some (by kernel_rfl))
  f314 := Tryz.func400.trans (congrArg some (by kernel_rfl))
  t0 := Tryz.underlying0
  a0 := Tryz.isAgg0
  z0 := Tryz.sizeOf0
  v0 := Tryz.zeroValue0
  t3 := Tryz.underlying3
  a3 := Tryz.isAgg3
  z3 := Tryz.sizeOf3
  v3 := Tryz.zeroValue3
  t4 := Tryz.underlying4
  a4 := Tryz.isAgg4
  z4 := Tryz.sizeOf4
  v4 := Tryz.zeroValue4
  t5 := Tryz.underlying5
  a5 := Tryz.isAgg5
  z5 := Tryz.sizeOf5
  v5 := Tryz.zeroValue5
  t9 := Tryz.underlying9
  a9 := Tryz.isAgg9
  z9 := Tryz.sizeOf9
  v9 := Tryz.zeroValue9
  t21 := Tryz.underlying21
  a21 := Tryz.isAgg21
  z21 := Tryz.sizeOf21
  v21 := Tryz.zeroValue21
  t31 := Tryz.underlying45
  a31 := Tryz.isAgg45
  z31 := Tryz.sizeOf45
  v31 := Tryz.zeroValue45
  t46 := Tryz.underlying253
  a46 := Tryz.isAgg253
  z46 := Tryz.sizeOf253
  v46 := Tryz.zeroValue253
  t51 := Tryz.underlying254
  a51 := Tryz.isAgg254
  z51 := Tryz.sizeOf254
  v51 := Tryz.zeroValue254
  t105 := Tryz.underlying381
  a105 := Tryz.isAgg381
  z105 := Tryz.sizeOf381
  v105 := Tryz.zeroValue381
  t119 := Tryz.underlying384
  a119 := Tryz.isAgg384
  z119 := Tryz.sizeOf384
  t138 := Tryz.underlying386
  a138 := Tryz.isAgg386
  z138 := Tryz.sizeOf386
  v138 := Tryz.zeroValue386
  t139 := Tryz.underlying387
  a139 := Tryz.isAgg387
  z139 := Tryz.sizeOf387
  v139 := Tryz.zeroValue387
  t146 := Tryz.underlying392
  a146 := Tryz.isAgg392
  z146 := Tryz.sizeOf392
  v146 := Tryz.zeroValue392
  g1 := by kernel_rfl
  g3 := by kernel_rfl
  g4 := by kernel_rfl }
end Go.Proofs
