/- Texts of this claim, one behind the other: Par Tree Node Place Ext Check Names TLaw Awake TNames Disk DiskN DiskI DiskM DAt DFirst DMake DChange. Conditions: what each lemma states. -/
import Derived.Test.YtgcfkljooabjjaaGreatDoorGa
import Derived.Lib.LastIndexByte
import Derived.LoopNIn
import Derived.Deep.Quiet
import Derived.BigQuiet
import Derived.Deep.Slices
import Derived.Laws.Concat
import Derived.Laws.AppendOwnNone
import Derived.Maps.OwnSet
import Derived.Maps.OwnOps
import Derived.Maps.RangeWalk
import Derived.StringKeys
import Derived.Shelf.SlMaps.Clone
import Derived.Deep.AppendLies
/- name.Parent and name.Base: the walks. Conditions: the tables of unicode/utf8 are laid; no string is longer than Go's strings can be. -/
namespace Go.Proofs.YtgcfkljooabjjaaGreatDoor
open Go.RowKit Go.Op

/-- a list of bytes as a string -/
def bs (l : Str) : ByteArray := ⟨l.toArray⟩
theorem str_bs (l : Str) : str (bs l) = l := by simp [str, bs]
theorem bs_str (b : ByteArray) : bs (str b) = b := str_inj (str_bs _)
theorem bs_size (l : Str) : (bs l).size = l.length := by rw [← str_size, str_bs]

theorem last_cases (s : ByteArray) : (Lib.lastIndexByte s 47 = -1 ∧ 47 ∉ str s) ∨ ∃ i : Nat, Lib.lastIndexByte s 47 = i ∧ i < s.size ∧ str s = (str s).take i ++ 47 :: (str s).drop (i + 1) ∧ 47 ∉ (str s).drop (i + 1) := by
  have hg : ∀ (j : Nat) (hj : j < (str s).length), s.data[j]! = (str s)[j] := fun j hj => by
    have : j < s.data.size := by rw [str_size] at hj; exact hj
    rw [getElem!_pos s.data j this]; simp [str]
  have hc : ∀ (j : Nat) (hj : j < (str s).length), ((s.data[j]!).toNat : Int) ≠ 47 → (str s)[j] ≠ 47 := fun j hj h e => h (by rw [hg j hj, e]; rfl)
  rcases Lib.lastIndexByte_spec s 47 with ⟨h, hn⟩ | ⟨i, hi, h, he, hn⟩
  · refine .inl ⟨h, fun hm => ?_⟩
    obtain ⟨j, hj, e⟩ := List.getElem_of_mem hm
    exact hc j hj (hn j (by rw [← str_size]; exact hj)) e
  · have hil : i < (str s).length := by rw [str_size]; exact hi
    refine .inr ⟨i, h, hi, ?_, fun hm => ?_⟩
    · have e1 : (str s)[i] = 47 := by
        rw [hg i hil] at he
        apply UInt8.toNat_inj.1
        have : ((47 : UInt8).toNat : Int) = 47 := rfl
        omega
      have := List.take_append_drop i (str s)
      rw [List.drop_eq_getElem_cons hil, e1] at this
      exact this.symm
    · obtain ⟨j, hj, e⟩ := List.getElem_of_mem hm
      rw [List.getElem_drop] at e
      rw [List.length_drop] at hj
      exact hc (i + 1 + j) (by omega) (hn (i + 1 + j) (by omega) (by rw [← str_size]; omega)) e
theorem parts_last {s : Str} {i : Nat} (h1 : s = s.take i ++ 47 :: s.drop (i + 1)) (h2 : 47 ∉ s.drop (i + 1)) : parts s = parts (s.take i) ++ [s.drop (i + 1)] := by
  have := parts_append (s.drop (i + 1)) (s.take i)
  rw [← h1, parts_clean _ h2] at this
  exact this
theorem getLast_eq {l : List Str} (h : l ≠ []) (x : List Str) (y : Str) (e : l = x ++ [y]) : l.getLast h = y := by subst e; simp

theorem lastIdx_any (s : ByteArray) (w : World) (hs : s.size ≤ 1000000) : Calls Tryz.prog 124 #[.string s, .int .u8 47] w fun e w' => e = .returned (.int .i64 (Lib.lastIndexByte s 47)) ∧ w = w' :=
  (Tryz.strings_LastIndexByte s 47 (by omega) w).mono fun _ _ ⟨a, b⟩ => ⟨a, b.symm⟩
set_option maxRecDepth 100000 in
theorem parent_any (s : ByteArray) (w : World) (hs : s.size ≤ 1000000) (hT : Tabs w) :
    Calls Tryz.prog 89 #[.string s] w fun e w' => e = .returned (.string (bs (parent (str s)))) ∧ Off [] w w' := by
  rcases last_cases s with ⟨h, hn⟩ | ⟨i, h, hi, hc, hn⟩
  · have e1 : bs (parent (str s)) = ⟨#[]⟩ := by
      unfold parent; rw [parts_clean _ hn]; split <;> rfl
    have H := Lib.hid h
    have E := Lib.hid e1
    clear h e1
    go_enter Tryz.func89, Tryz.ntmps89
    go_wp2_with fail
    refine (lastIdx_any s _ hs).mono ?_
    rintro e w1 ⟨rfl, e1⟩
    subst e1
    rw [H.out]
    go_wp2_with fail
    go_ret
    exact ⟨by rw [E.out]; rfl, Off.refl _ _⟩
  · have H := Lib.hid h
    have HC := Lib.hid hc
    clear h hc
    have c1 : (0 : Int) ≤ ↑i := by omega
    have c2 : (↑i : Int) ≤ ↑s.size := by omega
    cases hk : okPath (str s)
    · have e1 : bs (parent (str s)) = ⟨#[]⟩ := by unfold parent; rw [hk]; rfl
      have HK := Lib.hid hk
      have E := Lib.hid e1
      clear hk e1
      go_enter Tryz.func89, Tryz.ntmps89
      go_wp2_with fail
      refine (lastIdx_any s _ (by omega)).mono ?_
      rintro e w1 ⟨rfl, e1⟩
      subst e1
      rw [H.out]
      go_wp2_with fail
      refine (path_any s _ hT).mono ?_
      rintro e w2 ⟨rfl, ho⟩
      rw [HK.out]
      go_wp2_with fail
      go_ret
      exact ⟨by rw [E.out]; rfl, ho⟩
    · have e1 : bs (parent (str s)) = s.extract 0 i := by
        apply str_inj
        unfold parent; rw [hk, str_bs, if_pos rfl, parts_last HC.out hn, List.dropLast_concat, joinP_parts, str_extract]; simp
      have HK := Lib.hid hk
      have E := Lib.hid e1
      clear hk e1
      go_enter Tryz.func89, Tryz.ntmps89
      go_wp2_with fail
      refine (lastIdx_any s _ (by omega)).mono ?_
      rintro e w1 ⟨rfl, e1⟩
      subst e1
      rw [H.out]
      go_wp2_with fail
      refine (path_any s _ hT).mono ?_
      rintro e w2 ⟨rfl, ho⟩
      rw [HK.out]
      go_wp2_with fail
      go_ret
      exact ⟨by rw [E.out]; rfl, ho⟩
set_option maxRecDepth 100000 in
theorem base_any (s : ByteArray) (w : World) (hs : s.size ≤ 1000000) (hT : Tabs w) :
    Calls Tryz.prog 110 #[.string s] w fun e w' => e = .returned (.string (bs (base (str s)))) ∧ Off [] w w' := by
  cases hk : okPath (str s)
  · have e1 : bs (base (str s)) = ⟨#[]⟩ := by unfold base; rw [hk]; rfl
    have HK := Lib.hid hk
    have E := Lib.hid e1
    clear hk e1
    go_enter Tryz.func110, Tryz.ntmps110
    go_wp2_with fail
    refine (path_any s _ hT).mono ?_
    rintro e w2 ⟨rfl, ho⟩
    rw [HK.out]
    go_wp2_with fail
    go_ret
    exact ⟨by rw [E.out]; rfl, ho⟩
  · rcases last_cases s with ⟨h, hn⟩ | ⟨i, h, hi, hc, hn⟩
    · have e1 : bs (base (str s)) = s := by
        apply str_inj
        unfold base; rw [str_bs, if_pos hk]
        exact getLast_eq _ [] _ (by rw [parts_clean _ hn]; rfl)
      have HK := Lib.hid hk
      have E := Lib.hid e1
      have H := Lib.hid h
      clear hk e1 h
      have c1 : (0 : Int) ≤ -1 + 1 := by omega
      go_enter Tryz.func110, Tryz.ntmps110
      go_wp2_with fail
      refine (path_any s _ hT).mono ?_
      rintro e w2 ⟨rfl, ho⟩
      rw [HK.out]
      go_wp2_with fail
      refine (lastIdx_any s _ (by omega)).mono ?_
      rintro e w1 ⟨rfl, e1⟩
      subst e1
      rw [H.out]
      go_wp2_with fail
      go_ret
      exact ⟨by rw [E.out]; simp, ho⟩
    · have e1 : bs (base (str s)) = s.extract (i + 1) s.size := by
        apply str_inj
        unfold base; rw [str_bs, if_pos hk, str_extract, List.take_of_length_le (by simp [str_size])]
        exact getLast_eq _ _ _ (parts_last hc hn)
      have HK := Lib.hid hk
      have E := Lib.hid e1
      have H := Lib.hid h
      have HC := Lib.hid hc
      clear hk e1 h hc
      have c3 : (0 : Int) ≤ ↑i + 1 := by omega
      have c4 : (↑i + 1 : Int) ≤ ↑s.size := by omega
      go_enter Tryz.func110, Tryz.ntmps110
      go_wp2_with fail
      refine (path_any s _ hT).mono ?_
      rintro e w2 ⟨rfl, ho⟩
      rw [HK.out]
      go_wp2_with fail
      refine (lastIdx_any s _ (by omega)).mono ?_
      rintro e w1 ⟨rfl, e1⟩
      subst e1
      rw [H.out]
      go_wp2_with fail
      go_ret
      exact ⟨by rw [E.out]; rfl, ho⟩
end Go.Proofs.YtgcfkljooabjjaaGreatDoor

/- Trees in plain words: nodes, what is right, what is a tree. Conditions: none beyond what each lemma states. -/
namespace Go.Proofs.YtgcfkljooabjjaaGreatDoor
open Go.RowKit

structure Node where
  path : ByteArray
  kind : Int
  data : ByteArray
  mode : Int
instance : Inhabited Node := ⟨⟨⟨#[]⟩, 0, ⟨#[]⟩, 0⟩⟩
def Node.p (n : Node) : Str := str n.path
def Node.val (n : Node) : Value := .agg #[.string n.path, .int .i64 n.kind, .string n.data, .int .i64 n.mode]

/-- right by itself -/
def rightN (n : Node) : Bool :=
  if n.kind = 1 then decide (n.data.size ≤ 65536) && (decide (0 ≤ n.mode) && decide (n.mode ≤ 511))
  else if n.kind = 2 then decide (n.data.size = 0) && decide (n.mode = 0)
  else if n.kind = 3 then decide (n.data.size ≠ 0) && (decide (n.data.size ≤ 400) && (!(str n.data).contains 0 && decide (n.mode = 0)))
  else false
/-- the root, or a directory's path -/
def isDir (t : List Node) (p : Str) : Bool := decide (p = []) || t.any fun n => decide (n.p = p) && decide (n.kind = 2)
/-- may n come behind the nodes of done? -/
def okNext (done : List Node) (n : Node) : Bool :=
  okPath n.p && rightN n && (match done.getLast? with | none => true | some m => decide (order m.p n.p < 0)) && isDir done (parent n.p)
def okFrom (done : List Node) : List Node → Bool
  | [] => true
  | n :: t => okNext done n && okFrom (done ++ [n]) t
def okTree (t : List Node) : Bool := decide (t.length ≤ 1000) && okFrom [] t

/-- each is ahead of those behind it -/
def Sorted (t : List Node) : Prop := t.Pairwise fun a b => order a.p b.p < 0

theorem sorted_snoc {done : List Node} {n : Node} (h : Sorted done) (hn : (match done.getLast? with | none => true | some m => decide (order m.p n.p < 0)) = true) : Sorted (done ++ [n]) := by
  unfold Sorted at *
  rw [List.pairwise_append]
  refine ⟨h, by simp, fun a ha b hb => ?_⟩
  rw [List.mem_singleton] at hb
  subst hb
  cases hl : done.getLast? with
  | none => rw [List.getLast?_eq_none_iff] at hl; subst hl; cases ha
  | some m =>
    rw [hl] at hn
    simp only [decide_eq_true_eq] at hn
    obtain ⟨ys, rfl⟩ := List.getLast?_eq_some_iff.1 hl
    rcases List.mem_append.1 ha with h1 | h1
    · rw [List.pairwise_append] at h
      exact order_trans (h.2.2 a h1 m (by simp)) hn
    · rw [List.mem_singleton] at h1; subst h1; exact hn
theorem okFrom_sorted : ∀ {t done : List Node}, Sorted done → okFrom done t = true → Sorted (done ++ t)
  | [], done, h, _ => by simpa using h
  | n :: t, done, h, ho => by
    unfold okFrom at ho
    rw [Bool.and_eq_true] at ho
    have hn := ho.1
    unfold okNext at hn
    simp only [Bool.and_eq_true] at hn
    have := okFrom_sorted (t := t) (sorted_snoc h hn.1.2) ho.2
    simpa using this
theorem okTree_sorted {t : List Node} (h : okTree t = true) : Sorted t := by
  unfold okTree at h
  rw [Bool.and_eq_true] at h
  simpa using okFrom_sorted (t := t) (done := []) List.Pairwise.nil h.2
theorem okFrom_take : ∀ {t done : List Node} (i : Nat) (hi : i < t.length), okFrom done t = true → okNext (done ++ t.take i) t[i] = true
  | n :: t, done, 0, _, h => by
    unfold okFrom at h
    rw [Bool.and_eq_true] at h
    simpa using h.1
  | n :: t, done, i + 1, hi, h => by
    unfold okFrom at h
    rw [Bool.and_eq_true] at h
    have := okFrom_take (t := t) (done := done ++ [n]) i (by simpa using hi) h.2
    simpa using this
theorem okTree_next {t : List Node} (h : okTree t = true) (i : Nat) (hi : i < t.length) : okNext (t.take i) t[i] = true := by
  unfold okTree at h
  rw [Bool.and_eq_true] at h
  simpa using okFrom_take (done := []) i hi h.2
theorem okTree_path {t : List Node} (h : okTree t = true) {n : Node} (hn : n ∈ t) : okPath n.p = true := by
  obtain ⟨i, hi, rfl⟩ := List.getElem_of_mem hn
  have := okTree_next h i hi
  unfold okNext at this
  simp only [Bool.and_eq_true] at this
  exact this.1.1.1
theorem okTree_len {t : List Node} (h : okTree t = true) : t.length ≤ 1000 := by
  unfold okTree at h
  rw [Bool.and_eq_true] at h
  simpa using h.1
theorem okPath_size {s : Str} (h : okPath s = true) : s.length ≤ 400 := by
  unfold okPath at h
  simp only [Bool.and_eq_true, decide_eq_true_eq] at h
  exact h.1.1
theorem okTree_small {t : List Node} (h : okTree t = true) {n : Node} (hn : n ∈ t) : n.path.size ≤ 400 := by
  rw [← str_size]; exact okPath_size (okTree_path h hn)

/-- a row of nodes in memory -/
structure NodeAt (w : World) (a : Addr) (n : Node) : Prop where
  path : w.cell? a = some (.string n.path)
  kind : w.cell? ⟨a.block, a.off + 1, none⟩ = some (.int .i64 n.kind)
  data : w.cell? ⟨a.block, a.off + 2, none⟩ = some (.string n.data)
  mode : w.cell? ⟨a.block, a.off + 3, none⟩ = some (.int .i64 n.mode)
def Row (w : World) (p : Option Addr) (t : List Node) : Prop :=
  t ≠ [] → ∃ a, p = some a ∧ a.block < w.heap.size ∧ ∀ (i : Nat) (n : Node), t[i]? = some n → NodeAt w (a.add (i * 4)) n
theorem add_block (a : Addr) (i : Nat) : (a.add i).block = a.block := by
  unfold Addr.add; split <;> rfl
theorem NodeAt.off {w w' : World} {a : Addr} {n : Node} (h : NodeAt w a n) (ho : Off [] w w') (hb : a.block < w.heap.size) : NodeAt w' a n :=
  ⟨(ho.cell hb (by simp)).trans h.path, (ho.cell (p := ⟨a.block, a.off + 1, none⟩) hb (by simp)).trans h.kind, (ho.cell (p := ⟨a.block, a.off + 2, none⟩) hb (by simp)).trans h.data, (ho.cell (p := ⟨a.block, a.off + 3, none⟩) hb (by simp)).trans h.mode⟩
theorem Row.off {w w' : World} {p : Option Addr} {t : List Node} (h : Row w p t) (ho : Off [] w w') : Row w' p t := fun hne => by
  obtain ⟨a, rfl, hb, hn⟩ := h hne
  exact ⟨a, rfl, Nat.lt_of_lt_of_le hb ho.size, fun i n hi => (hn i n hi).off ho (by rw [add_block]; exact hb)⟩
theorem Row.get {w : World} {p : Option Addr} {t : List Node} (h : Row w p t) (i : Nat) (hi : i < t.length) : ∃ a, p = some a ∧ NodeAt w (a.add (i * 4)) t[i] ∧ a.block < w.heap.size := by
  obtain ⟨a, rfl, hb, hn⟩ := h (by intro e; subst e; simp at hi)
  exact ⟨a, rfl, hn i _ (List.getElem?_eq_getElem hi), hb⟩
theorem Row.take {w : World} {p : Option Addr} {t : List Node} (h : Row w p t) (k : Nat) : Row w p (t.take k) := fun hne => by
  obtain ⟨a, rfl, hb, hn⟩ := h (by intro e; subst e; simp at hne)
  exact ⟨a, rfl, hb, fun i n hi => hn i n (by rw [List.getElem?_take] at hi; split at hi; exact hi; cases hi)⟩
/-- the strings are none longer than Go's can be -/
def Fits (t : List Node) : Prop := ∀ n ∈ t, n.path.size ≤ maxLen ∧ n.data.size ≤ maxLen

/-- the place of a path -/
structure PlaceAt (t : List Node) (p : Str) (i : Nat) (f : Bool) : Prop where
  le : i ≤ t.length
  lo : ∀ (j : Nat) (n : Node), j < i → t[j]? = some n → order n.p p < 0
  hi : ∀ (j : Nat) (n : Node), i ≤ j → t[j]? = some n → 0 ≤ order n.p p
  fd : f = true ↔ ∃ n, t[i]? = some n ∧ n.p = p
theorem PlaceAt.none {t : List Node} {p : Str} {i : Nat} (h : PlaceAt t p i false) {n : Node} (hn : n ∈ t) (hs : Sorted t) : n.p ≠ p := fun e => by
  obtain ⟨j, hj, rfl⟩ := List.getElem_of_mem hn
  have hj' := List.getElem?_eq_getElem hj
  rcases Nat.lt_or_ge j i with hlt | hge
  · have := h.lo j _ hlt hj'
    rw [e, order_self] at this
    omega
  · rcases Nat.lt_or_ge i j with h1 | h1
    · have hi' : i < t.length := by omega
      have h2 := h.hi i _ (Nat.le_refl _) (List.getElem?_eq_getElem hi')
      have h3 := List.pairwise_iff_getElem.1 hs i j hi' hj h1
      rw [e] at h3
      omega
    · obtain rfl : i = j := by omega
      exact Bool.false_ne_true (h.fd.2 ⟨_, hj', e⟩)
end Go.Proofs.YtgcfkljooabjjaaGreatDoor

/- tree.right, and the search for a path: place, dir: the walks. Conditions: the list is in order where a path is searched; no string is longer than Go's can be. -/
namespace Go.Proofs.YtgcfkljooabjjaaGreatDoor
open Go.RowKit Go.Op

theorem Sorted.unique {t : List Node} (hs : Sorted t) {a b : Node} (ha : a ∈ t) (hb : b ∈ t) (he : a.p = b.p) : a = b := by
  obtain ⟨i, hi, rfl⟩ := List.getElem_of_mem ha
  obtain ⟨j, hj, rfl⟩ := List.getElem_of_mem hb
  rcases Nat.lt_trichotomy i j with h | rfl | h
  · have := List.pairwise_iff_getElem.1 hs i j hi hj h
    rw [he, order_self] at this; omega
  · rfl
  · have := List.pairwise_iff_getElem.1 hs j i hj hi h
    rw [he, order_self] at this; omega
theorem place_isDir {t : List Node} {p : Str} {i : Nat} {f : Bool} (h : PlaceAt t p i f) (hs : Sorted t) :
    isDir t p = (decide (p = []) || (f && match t[i]? with | some n => decide (n.kind = 2) | .none => false)) := by
  have key : (t.any fun n => decide (n.p = p) && decide (n.kind = 2)) = (f && match t[i]? with | some n => decide (n.kind = 2) | .none => false) := by
    cases f
    · rw [Bool.false_and, List.any_eq_false]
      intro n hn
      simp [h.none hn hs]
    · obtain ⟨n, hn, hp⟩ := h.fd.1 rfl
      rw [hn, Bool.true_and]
      have hm := List.mem_of_getElem? hn
      by_cases hk : n.kind = 2
      · simp only [hk, decide_true, List.any_eq_true]
        exact ⟨n, hm, by simp [hp, hk]⟩
      · simp only [hk, decide_false, List.any_eq_false]
        intro m hmm
        by_cases hpm : m.p = p
        · have := hs.unique hmm hm (hpm.trans hp.symm)
          subst this
          simp [hk]
        · simp [hpm]
  rw [← key]; rfl
theorem indexByte_mem (c : UInt8) : ∀ l : Str, decide (0 ≤ Lib.indexByte l c) = l.contains c
  | [] => by simp [Lib.indexByte]
  | b :: l => by
    have ih := indexByte_mem c l
    have hge := Lib.indexByte_ge l c
    unfold Lib.indexByte
    by_cases hb : b = c
    · subst hb; simp
    · have hb' : ¬ (b == c) = true := by simpa using hb
      have hb2 : ¬ c = b := fun e => hb e.symm
      rw [if_neg hb', List.contains_cons]
      have : (c == b) = false := by simpa using hb2
      rw [this, Bool.false_or, ← ih]
      by_cases h1 : Lib.indexByte l c = -1
      · simp [h1]
      · have : ¬ ((Lib.indexByte l c == -1) = true) := by simp [h1]
        rw [if_neg this]
        simp only [decide_eq_decide]
        omega
theorem beq0 (m : Int) : (m == 0) = decide (m = 0) := by by_cases h : m = 0 <;> simp [h]
theorem contains0_any (s : ByteArray) (w : World) : Calls Tryz.prog 108 #[.string s, .string ⟨#[0]⟩] w fun e w' => e = .returned (.bool ((str s).contains 0)) ∧ w = w' := by
  refine (Tryz.strings_Contains_one s 0 w).mono fun e w' ⟨a, b⟩ => ⟨?_, b.symm⟩
  rw [a, ← indexByte_mem]; rfl
set_option maxRecDepth 100000 in
theorem right_any (n : Node) (w : World) : Calls Tryz.prog 86 #[n.val] w fun e w' => e = .returned (.bool (rightN n)) ∧ Off [] w w' := by
  obtain ⟨path, kind, data, mode⟩ := n
  have hE : data.toList = [] ↔ data.size = 0 := by rw [toList_str, ← str_size]; simp
  unfold Node.val
  dsimp only
  by_cases h1 : kind = 1
  · subst h1
    clear hE
    by_cases a : data.size ≤ 65536
    · by_cases b : 0 ≤ mode
      · go_enter Tryz.func86, Tryz.ntmps86
        go_wp2_with fail
        go_ret
        exact ⟨by simp [rightN, a, b], (Off.refl _ _).alloc _⟩
      · go_enter Tryz.func86, Tryz.ntmps86
        go_wp2_with fail
        go_ret
        exact ⟨by simp [rightN, a]; omega, (Off.refl _ _).alloc _⟩
    · go_enter Tryz.func86, Tryz.ntmps86
      go_wp2_with fail
      go_ret
      exact ⟨by simp [rightN, a], (Off.refl _ _).alloc _⟩
  by_cases h2 : kind = 2
  · subst h2
    clear h1
    by_cases a : data.size = 0
    · have g := hE.2 a
      have g' : data.toList.isEmpty = true := by simp [g]
      clear hE
      go_enter Tryz.func86, Tryz.ntmps86
      go_wp2_with fail
      go_ret
      exact ⟨by simp [rightN, a, beq0], (Off.refl _ _).alloc _⟩
    · have g : ¬ data.toList = [] := fun e => a (hE.1 e)
      have g' : data.toList.isEmpty = false := by simpa using g
      clear hE
      go_enter Tryz.func86, Tryz.ntmps86
      go_wp2_with fail
      go_ret
      exact ⟨by simp [rightN, a], (Off.refl _ _).alloc _⟩
  by_cases h3 : kind = 3
  · subst h3
    clear h1 h2
    by_cases a : data.size = 0
    · have g := hE.2 a
      have g' : data.toList.isEmpty = true := by simp [g]
      clear hE
      go_enter Tryz.func86, Tryz.ntmps86
      go_wp2_with fail
      go_ret
      exact ⟨by simp [rightN, a], (Off.refl _ _).alloc _⟩
    · have g : ¬ data.toList = [] := fun e => a (hE.1 e)
      have g' : data.toList.isEmpty = false := by simpa using g
      clear hE
      by_cases b : data.size ≤ 400
      · cases hc : (str data).contains 0
        · have HM := Lib.hid (show ¬ 0 ∈ str data by simpa using hc)
          have HC := Lib.hid hc
          clear hc
          go_enter Tryz.func86, Tryz.ntmps86
          go_wp2_with fail
          refine (contains0_any data _).mono ?_
          rintro e w1 ⟨rfl, e1⟩
          subst e1
          rw [HC.out]
          go_wp2_with fail
          go_ret
          exact ⟨by simp [rightN, a, b, HM.out, beq0], (Off.refl _ _).alloc _⟩
        · have HM := Lib.hid (show 0 ∈ str data by simpa using hc)
          have HC := Lib.hid hc
          clear hc
          go_enter Tryz.func86, Tryz.ntmps86
          go_wp2_with fail
          refine (contains0_any data _).mono ?_
          rintro e w1 ⟨rfl, e1⟩
          subst e1
          rw [HC.out]
          go_wp2_with fail
          go_ret
          exact ⟨by simp [rightN, a, b, HM.out], (Off.refl _ _).alloc _⟩
      · go_enter Tryz.func86, Tryz.ntmps86
        go_wp2_with fail
        go_ret
        exact ⟨by simp [rightN, a, b], (Off.refl _ _).alloc _⟩
  · have k1 : (kind == 1) = false := beq_eq_false_iff_ne.2 h1
    have k2 : (kind == 2) = false := beq_eq_false_iff_ne.2 h2
    have k3 : (kind == 3) = false := beq_eq_false_iff_ne.2 h3
    clear hE
    go_enter Tryz.func86, Tryz.ntmps86
    go_wp2_with fail
    go_ret
    exact ⟨by simp [rightN, h1, h2, h3], (Off.refl _ _).alloc _⟩
end Go.Proofs.YtgcfkljooabjjaaGreatDoor

/- The search for a path in a list of nodes that is in order: slices.BinarySearchFunc, place, dir: the walks. Conditions: the list is in order; no string is longer than Go's can be. -/
namespace Go.Proofs.YtgcfkljooabjjaaGreatDoor
open Go.RowKit Go.Op

theorem beq2 (m : Int) : (m == 2) = decide (m = 2) := by by_cases h : m = 2 <;> simp [h]
set_option maxRecDepth 100000 in
theorem clos_any (n : Node) (s : ByteArray) (w : World) (hn : n.path.size ≤ maxLen) (hs : s.size ≤ maxLen) :
    Calls Tryz.prog 146 #[n.val, .string s] w fun e w' => e = .returned (.int .i64 (order n.p (str s))) ∧ Off [] w w' := by
  obtain ⟨path, kind, data, mode⟩ := n
  unfold Node.val Node.p
  dsimp only at hn ⊢
  go_enter Tryz.func146, Tryz.ntmps146
  go_wp2_with fail
  refine (order_any path s _ hn hs).mono ?_
  rintro e w1 ⟨rfl, ho⟩
  go_wp2_with fail
  go_ret
  exact ⟨rfl, ((Off.refl _ _).alloc _).trans_nil ho⟩

def FoundP (t : List Node) (s : ByteArray) (w : World) (e : Ending) (w' : World) : Prop :=
  ∃ i f, e = .returned (.tuple #[.int .i64 (i : Nat), .bool f]) ∧ PlaceAt t (str s) i f ∧ Off [] w w'
/-- what a search knows: how far the nodes ahead and behind go -/
structure Seek (t : List Node) (p : Str) (lo hi : Nat) : Prop where
  lh : lo ≤ hi
  le : hi ≤ t.length
  a : ∀ (j : Nat) (n : Node), j < lo → t[j]? = some n → order n.p p < 0
  b : ∀ (j : Nat) (n : Node), hi ≤ j → t[j]? = some n → 0 ≤ order n.p p
theorem Seek.left {t : List Node} {p : Str} {lo hi : Nat} (h : Seek t p lo hi) (hs : Sorted t) {m : Nat} (h1 : lo ≤ m) (h2 : m < hi) (hm : order (t[m]'(by have := h.le; omega)).p p < 0) : Seek t p (m + 1) hi :=
  ⟨by omega, h.le, fun j n hj hn => by
    obtain ⟨hjl, rfl⟩ := List.getElem?_eq_some_iff.1 hn
    rcases Nat.lt_or_ge j m with h3 | h3
    · exact order_trans (List.pairwise_iff_getElem.1 hs j m hjl (by have := h.le; omega) h3) hm
    · obtain rfl : j = m := by omega
      exact hm, h.b⟩
theorem Seek.right {t : List Node} {p : Str} {lo hi : Nat} (h : Seek t p lo hi) (hs : Sorted t) {m : Nat} (h1 : lo ≤ m) (h2 : m < hi) (hm : 0 ≤ order (t[m]'(by have := h.le; omega)).p p) : Seek t p lo m :=
  ⟨h1, by have := h.le; omega, h.a, fun j n hj hn => by
    obtain ⟨hjl, rfl⟩ := List.getElem?_eq_some_iff.1 hn
    rcases Nat.lt_or_ge m j with h3 | h3
    · have := List.pairwise_iff_getElem.1 hs m j (by have := h.le; omega) hjl h3
      rcases Int.lt_or_le (order (t[j]).p p) 0 with h4 | h4
      · have := order_trans this h4; omega
      · exact h4
    · obtain rfl : j = m := by omega
      exact hm⟩
set_option maxRecDepth 100000 in
set_option maxHeartbeats 4000000 in
theorem bsearch_any (p : Option Addr) (t : List Node) (n cap : Nat) (s : ByteArray) (w : World) (hR : Row w p t) (hn : t.length = n) (hbig : n < 4611686018427387904) (hs : Sorted t) (hF : Fits t) (hsz : s.size ≤ maxLen) :
    Calls Tryz.prog 145 #[.slice p n cap, .string s, .func (.func 146) #[] #[]] w (FoundP t s w) := by
  have hS0 : Seek t (str s) 0 n := ⟨by omega, by omega, fun j _ hj _ => by omega, fun j m hj hm => by have := (List.getElem?_eq_some_iff.1 hm).1; omega⟩
  have HS0 := Lib.hid hS0
  have HN := Lib.hid hn
  have HR := Lib.hid hR
  have HF := Lib.hid hF
  clear hS0 hn hR hF
  go_enter Tryz.func145, Tryz.ntmps145
  go_wp2_with fail
  go_loopw [9, 10] (fun x y wr => ∃ lo hi : Nat, x = .int .i64 lo ∧ y = .int .i64 hi ∧ Hid (Seek t (str s) lo hi) ∧ lo ≤ hi ∧ hi ≤ n ∧ Off [] w wr) (fun x y _ => (intOf y - intOf x).toNat)
  case atStart => exact ⟨0, n, rfl, rfl, HS0, by omega, by omega, Off.refl _ _⟩
  case round =>
    obtain ⟨lo, hi, rfl, rfl, hS, hlh, hin, ho⟩ := hrel
    by_cases hlt : lo < hi
    · have hml : (lo + hi) / 2 < t.length := by rw [HN.out]; omega
      obtain ⟨a, rfl, hna, hab⟩ := (HR.out.off ho).get ((lo + hi) / 2) hml
      have hfit := (HF.out _ (List.getElem_mem hml)).1
      have hL : order (t[(lo + hi) / 2]'hml).p (str s) < 0 → Seek t (str s) ((lo + hi) / 2 + 1) hi := fun h => hS.out.left hs (m := (lo + hi) / 2) (by omega) (by omega) h
      have hR : 0 ≤ order (t[(lo + hi) / 2]'hml).p (str s) → Seek t (str s) lo ((lo + hi) / 2) := fun h => hS.out.right hs (m := (lo + hi) / 2) (by omega) (by omega) h
      generalize t[(lo + hi) / 2] = nd at *
      have c0 := hna.path
      have c1 := hna.kind
      have c2 := hna.data
      have c3 := hna.mode
      have HL := Lib.hid hL
      have HR2 := Lib.hid hR
      clear hna hL hR
      go_wp2_with fail
      refine (clos_any nd s wr hfit hsz).mono ?_
      rintro e w2 ⟨rfl, ho2⟩
      have hoff := ho.trans_nil ho2
      clear c0 c1 c2 c3 ho ho2
      generalize order nd.p (str s) = c at *
      by_cases hc : c < 0
      · have HS := Lib.hid (HL.out hc)
        go_wp2_with fail
        refine ⟨⟨(lo + hi) / 2 + 1, hi, by push_cast; rfl, rfl, HS, by omega, by omega, hoff⟩, ?_⟩
        simp only [intOf]
        omega
      · have HS := Lib.hid (HR2.out (by omega))
        go_wp2_with fail
        refine ⟨⟨lo, (lo + hi) / 2, rfl, by push_cast; rfl, HS, by omega, by omega, hoff⟩, ?_⟩
        simp only [intOf]
        omega
    · obtain rfl : lo = hi := by omega
      by_cases hln : lo < n
      · have hml : lo < t.length := by rw [HN.out]; omega
        obtain ⟨a, rfl, hna, hab⟩ := (HR.out.off ho).get lo hml
        have hfit := (HF.out _ (List.getElem_mem hml)).1
        have HG := Lib.hid (List.getElem?_eq_getElem hml)
        generalize t[lo] = nd at *
        have c0 := hna.path
        have c1 := hna.kind
        have c2 := hna.data
        have c3 := hna.mode
        clear hna
        have hcz := order_range nd.p (str s)
        go_wp2_with fail
        refine (clos_any nd s wr hfit hsz).mono ?_
        rintro e w2 ⟨rfl, ho2⟩
        have hoff := ho.trans_nil ho2
        clear c0 c1 c2 c3 ho ho2
        have HE := Lib.hid (fun h : order nd.p (str s) = 0 => order_eq h)
        have HE2 := Lib.hid (fun h : nd.p = str s => (show order nd.p (str s) = 0 by rw [h, order_self]))
        generalize order nd.p (str s) = c at *
        by_cases hc : c = 0
        · have HQ := Lib.hid (HE.out hc)
          subst hc
          clear HE HE2
          go_wp2_with fail
          go_ret2
          exact ⟨lo, true, rfl, ⟨hS.out.le, hS.out.a, hS.out.b, ⟨fun _ => ⟨nd, HG.out, HQ.out⟩, fun _ => rfl⟩⟩, hoff⟩
        · have hc' : (c == 0) = false := beq_eq_false_iff_ne.2 hc
          go_wp2_with fail
          go_ret2
          refine ⟨lo, false, rfl, ⟨hS.out.le, hS.out.a, hS.out.b, ⟨fun h => (by cases h), fun ⟨m, hm, hp⟩ => ?_⟩⟩, hoff⟩
          rw [HG.out] at hm
          injection hm with hm
          subst hm
          exact absurd (HE2.out hp) hc
      · go_wp2_with fail
        go_ret2
        refine ⟨lo, false, rfl, ⟨hS.out.le, hS.out.a, hS.out.b, ⟨fun h => (by cases h), fun ⟨m, hm, hp⟩ => ?_⟩⟩, ho⟩
        have := (List.getElem?_eq_some_iff.1 hm).1
        rw [HN.out] at this
        omega
set_option maxRecDepth 100000 in
theorem place_any (p : Option Addr) (t : List Node) (n cap : Nat) (s : ByteArray) (w : World) (hR : Row w p t) (hn : t.length = n) (hbig : n < 4611686018427387904) (hs : Sorted t) (hF : Fits t) (hsz : s.size ≤ maxLen) :
    Calls Tryz.prog 123 #[.slice p n cap, .string s] w (FoundP t s w) := by
  have HN := Lib.hid hn
  have HR := Lib.hid hR
  have HF := Lib.hid hF
  clear hn hR hF
  go_enter Tryz.func123, Tryz.ntmps123
  go_wp2_with fail
  refine (bsearch_any p t n cap s w HR.out HN.out hbig hs HF.out hsz).mono ?_
  rintro e w1 ⟨i, f, rfl, hP, ho⟩
  go_wp2_with fail
  go_ret2
  exact ⟨i, f, rfl, hP, ho⟩
set_option maxRecDepth 100000 in
set_option maxHeartbeats 4000000 in
theorem dir_any (p : Option Addr) (t : List Node) (n cap : Nat) (s : ByteArray) (w : World) (hR : Row w p t) (hn : t.length = n) (hbig : n < 4611686018427387904) (hs : Sorted t) (hF : Fits t) (hsz : s.size ≤ maxLen) :
    Calls Tryz.prog 88 #[.slice p n cap, .string s] w fun e w' => e = .returned (.bool (isDir t (str s))) ∧ Off [] w w' := by
  have HN := Lib.hid hn
  have HR := Lib.hid hR
  have HF := Lib.hid hF
  clear hn hR hF
  have hE : (s.toList = []) ↔ str s = [] := by rw [toList_str]
  have HE := Lib.hid hE
  clear hE
  go_enter Tryz.func88, Tryz.ntmps88
  go_wp2_with fail
  refine (place_any p t n cap s w HR.out HN.out hbig hs HF.out hsz).mono ?_
  rintro e w1 ⟨i, f, rfl, hP, ho⟩
  have hD := Lib.hid (place_isDir hP hs)
  by_cases h0 : str s = []
  · have g : s.toList = [] := HE.out.2 h0
    have g' : s.toList.isEmpty = true := by simp [g]
    go_wp2_with fail
    go_ret
    exact ⟨by rw [hD.out]; simp [h0], ho⟩
  · have g : ¬ s.toList = [] := fun e => h0 (HE.out.1 e)
    have g' : s.toList.isEmpty = false := by simpa using g
    cases f
    · go_wp2_with fail
      go_ret
      exact ⟨by rw [hD.out]; simp [h0], ho⟩
    · obtain ⟨m, hm, hp⟩ := hP.fd.1 rfl
      obtain ⟨hi, hmi⟩ := List.getElem?_eq_some_iff.1 hm
      obtain ⟨a, rfl, hna, hab⟩ := (HR.out.off ho).get i hi
      rw [hmi] at hna
      have hin : i < n := by rw [← HN.out]; exact hi
      have c1 := hna.kind
      have HM := Lib.hid hm
      clear hna hm hmi hp
      go_wp2_with fail
      go_ret
      exact ⟨by rw [hD.out, HM.out]; simp [h0, beq2], ho⟩
end Go.Proofs.YtgcfkljooabjjaaGreatDoor

/- A region that draws its order and whose callees make memory: the lexical walk in the class of worlds that extend one world. Conditions: what each lemma states. -/
namespace Go.Proofs.YtgcfkljooabjjaaGreatDoor
open Go.RowKit Go.Op

open Classical in
/-- a world that extends W: x itself if it does, else W -/
noncomputable def ext (W x : World) : World := if Off [] W x then x else W
theorem ext_off (W x : World) : Off [] W (ext W x) := by
  unfold ext
  split
  · assumption
  · exact Off.refl _ _
theorem ext_of {W x : World} (h : Off [] W x) : ext W x = x := by unfold ext; rw [if_pos h]
theorem ext_cell {W : World} {p : Addr} (hp : p.block < W.heap.size) (x : World) : (ext W x).cell? p = W.cell? p := (ext_off W x).cell hp (by simp)
theorem wp_region_ext {P : Program} {id : Nat} {Q : Exit → Act → World → Prop} {a : Act} {W : World} {l : List Oper} (hm : P.follows .mixedOrders = true) (hB : Region.lexB .any l.toArray = true)
    (h : wpQuiet P l.toArray (fun w' => ∃ x, w' = ext W x) (fun a' => ∀ w', (∃ x, w' = ext W x) → Q .normal a' w') l a) : (Code.region id l.toArray true).wp P Q a W :=
  wp_region_quiet (C := fun w' => ∃ x, w' = ext W x) hm hB ⟨W.drew, (ext_of ((Off.refl _ _).drew)).symm⟩ (by simpa using h)
theorem Calls.ext_of {P : Program} {f : FuncId} {args : Array Value} {W x : World} {v : Value} (h : Calls P f args (ext W x) fun e w' => e = .returned v ∧ Off [] (ext W x) w') :
    Calls P f args (ext W x) fun e w'' => e = .returned v ∧ ∃ y, w'' = ext W y :=
  h.mono fun _ w' ⟨he, ho⟩ => ⟨he, w', (Go.Proofs.YtgcfkljooabjjaaGreatDoor.ext_of ((ext_off W x).trans_nil ho)).symm⟩
theorem Calls.ext_same {P : Program} {f : FuncId} {args : Array Value} {W x : World} {v : Value} (h : Calls P f args (ext W x) fun e w' => e = .returned v ∧ ext W x = w') :
    Calls P f args (ext W x) fun e w'' => e = .returned v ∧ ∃ y, w'' = ext W y :=
  h.mono fun _ _ ⟨he, ho⟩ => ⟨he, x, ho.symm⟩
end Go.Proofs.YtgcfkljooabjjaaGreatDoor

/- tree.Check: the walk. Conditions: the tables of unicode/utf8 are laid; no string is longer than Go's can be. -/
namespace Go.Proofs.YtgcfkljooabjjaaGreatDoor
open Go.RowKit Go.Op

theorem okFrom_snoc (n : Node) : ∀ (l done : List Node), okFrom done (l ++ [n]) = (okFrom done l && okNext (done ++ l) n)
  | [], done => by simp [okFrom]
  | m :: l, done => by
    have := okFrom_snoc n l (done ++ [m])
    simp only [List.cons_append, okFrom, this]
    rw [Bool.and_assoc]
    simp
theorem okFrom_take_succ {t : List Node} {k : Nat} (hk : k < t.length) (h : okFrom [] (t.take k) = true) (hn : okNext (t.take k) t[k] = true) : okFrom [] (t.take (k + 1)) = true := by
  rw [List.take_succ_eq_append_getElem hk, okFrom_snoc, h, List.nil_append, hn]; rfl
theorem okTree_bad {t : List Node} {k : Nat} (hk : k < t.length) (hn : okNext (t.take k) t[k] = false) : okTree t = false := by
  cases h : okTree t
  · rfl
  · rw [okTree_next h k hk] at hn; cases hn
def ndCells (n : Node) : Array Value := #[.string n.path, .int .i64 n.kind, .string n.data, .int .i64 n.mode]
/-- what holds while a node is looked at -/
def ChkS (W : World) (b : Nat) (nd : Node) (pa : Addr) (pv : ByteArray) (w : World) : Prop :=
  Off [] W w ∧ (b < w.heap.size ∧ pa.block < w.heap.size) ∧ (∀ i, w.cell? ⟨b, i, none⟩ = (ndCells nd)[i]?) ∧ w.cell? pa = some (.string pv)
theorem chk_keep {W wa wb : World} {b : Nat} {cs : Array Value} {pa : Addr} {v : Value} (ho : Off [] wa wb)
    (h : Off [] W wa ∧ (b < wa.heap.size ∧ pa.block < wa.heap.size) ∧ (∀ i, wa.cell? ⟨b, i, none⟩ = cs[i]?) ∧ wa.cell? pa = some v) :
    Off [] W wb ∧ (b < wb.heap.size ∧ pa.block < wb.heap.size) ∧ (∀ i, wb.cell? ⟨b, i, none⟩ = cs[i]?) ∧ wb.cell? pa = some v :=
  ⟨h.1.trans_nil ho, ⟨Nat.lt_of_lt_of_le h.2.1.1 ho.size, Nat.lt_of_lt_of_le h.2.1.2 ho.size⟩, fun i => (ho.cell (p := ⟨b, i, none⟩) h.2.1.1 (by simp)).trans (h.2.2.1 i), (ho.cell h.2.1.2 (by simp)).trans h.2.2.2⟩

theorem path_v (s : ByteArray) (w : World) (hT : Tabs w) (v : Bool) (hv : okPath (str s) = v) : Calls Tryz.prog 85 #[.string s] w fun e w' => e = .returned (.bool v) ∧ Off [] w w' := hv ▸ path_any s w hT
theorem right_v (n : Node) (w : World) (v : Bool) (hv : rightN n = v) : Calls Tryz.prog 86 #[.agg #[.string n.path, .int .i64 n.kind, .string n.data, .int .i64 n.mode]] w fun e w' => e = .returned (.bool v) ∧ Off [] w w' := hv ▸ right_any n w
theorem order_v (a b : ByteArray) (w : World) (ha : a.size ≤ maxLen) (hb : b.size ≤ maxLen) (c : Int) (hc : order (str a) (str b) = c) : Calls Tryz.prog 87 #[.string a, .string b] w fun e w' => e = .returned (.int .i64 c) ∧ Off [] w w' := hc ▸ order_any a b w ha hb
theorem dir_v (p : Option Addr) (t : List Node) (n cap : Nat) (s : ByteArray) (w : World) (hR : Row w p t) (hn : t.length = n) (hbig : n < 4611686018427387904) (hs : Sorted t) (hF : Fits t) (hsz : s.size ≤ maxLen) (v : Bool) (hv : isDir t (str s) = v) :
    Calls Tryz.prog 88 #[.slice p n cap, .string s] w fun e w' => e = .returned (.bool v) ∧ Off [] w w' := hv ▸ dir_any p t n cap s w hR hn hbig hs hF hsz
theorem Fits.take {t : List Node} (h : Fits t) (k : Nat) : Fits (t.take k) := fun n hn => h n (List.mem_of_mem_take hn)
theorem bs_parent_size (s : ByteArray) : (bs (parent (str s))).size ≤ s.size := by
  rw [bs_size]
  unfold parent
  split
  · rcases last_cases s with ⟨_, hn⟩ | ⟨i, _, hi, hc, hn⟩
    · rw [parts_clean _ hn]; simp [joinP]
    · rw [parts_last hc hn, List.dropLast_concat, joinP_parts]; simp; omega
  · simp
/-- what Check answers -/
def chkV (t : List Node) : Int := if okTree t then 0 else 60
def lastOk (done : List Node) (n : Node) : Bool := match done.getLast? with | none => true | some m => decide (order m.p n.p < 0)
theorem okNext_eq (done : List Node) (n : Node) : okNext done n = (okPath n.p && rightN n && lastOk done n && isDir done (parent n.p)) := rfl
theorem lastOk_some {done : List Node} {n m : Node} (h : done.getLast? = some m) : lastOk done n = decide (order m.p n.p < 0) := by unfold lastOk; rw [h]
theorem lastOk_none {done : List Node} {n : Node} (h : done.getLast? = none) : lastOk done n = true := by unfold lastOk; rw [h]
theorem okNext_of {done : List Node} {n : Node} (v1 v2 v4 : Bool) (h1 : okPath (str n.path) = v1) (h2 : v1 = true → rightN n = v2) (h3 : v1 = true → v2 = true → lastOk done n = true) (h4 : v1 = true → v2 = true → isDir done (parent (str n.path)) = v4) :
    okNext done n = (v1 && v2 && v4) := by
  rw [okNext_eq]
  have e1 : okPath n.p = v1 := h1
  rw [e1]
  cases v1
  · rfl
  · rw [h2 rfl]
    cases v2
    · rfl
    · have e4 : isDir done (parent n.p) = v4 := h4 rfl rfl
      rw [h3 rfl rfl, e4]; rfl
set_option maxRecDepth 100000 in
set_option maxHeartbeats 4000000 in
theorem check_any (p : Option Addr) (t : List Node) (n cap : Nat) (w : World) (hR : Row w p t) (hn : t.length = n) (hcap : n ≤ cap) (hbig : n ≤ maxLen) (hF : Fits t) (hT : Tabs w) :
    Calls Tryz.prog 42 #[.slice p n cap] w fun e w' => e = .returned (.int .i64 (chkV t)) ∧ Off [] w w' := by
  have HN := Lib.hid hn
  have HR := Lib.hid hR
  have HF := Lib.hid hF
  clear hn hR hF
  unfold maxLen at hbig
  by_cases hlen : n ≤ 1000
  · go_enter Tryz.func42, Tryz.ntmps42
    go_wp2_with fail
    go_loopw [10] (fun x wr => ∃ k : Nat, x = .int .i64 k ∧ k ≤ n ∧ Off [] w wr ∧ Hid (okFrom [] (t.take k) = true)) (fun x _ => n - (intOf x).toNat)
    case atStart => exact ⟨0, rfl, by omega, Off.refl _ _, Lib.hid (by simp [okFrom])⟩
    case round =>
      obtain ⟨k, rfl, hk, ho, hok⟩ := hrel
      by_cases hkn : k < n
      · have hkl : k < t.length := by rw [HN.out]; omega
        obtain ⟨a, rfl, hna, hab⟩ := (HR.out.off ho).get k hkl
        have hfit := HF.out _ (List.getElem_mem hkl)
        have HBAD := Lib.hid (fun h => okTree_bad (t := t) hkl h)
        have HGOOD := Lib.hid (fun h => okFrom_take_succ hkl hok.out h)
        have HSO := Lib.hid (show Sorted (t.take k) by simpa using okFrom_sorted (t := t.take k) (done := []) List.Pairwise.nil hok.out)
        have HTL := Lib.hid (show (t.take k).length = k by rw [List.length_take]; omega)
        have HFT := Lib.hid (HF.out.take k)
        have HRT := Lib.hid (HR.out.take k)
        generalize hnd : t[k] = nd at *
        have c0 := hna.path
        have c1 := hna.kind
        have c2 := hna.data
        have c3 := hna.mode
        have hcapk : k ≤ cap := by omega
        clear hna hnd
        have hb0 : Off [] w (wr.alloc (.cells (ndCells nd) 30)) := ho.alloc _
        have hb1 : Blk (wr.alloc (.cells (ndCells nd) 30)) wr.heap.size 30 (ndCells nd) := Blk.new wr 30 (ndCells nd)
        have HB := Lib.hid (And.intro hb0 hb1)
        clear hb0 hb1
        cases hv1 : okPath (str nd.path)
        · have HV1 := Lib.hid hv1
          clear hv1
          go_wp2_with fail
          refine code_gen (fun W => Off [] w W ∧ Blk W wr.heap.size 30 (ndCells nd)) HB.out ?_
          rintro W ⟨hoW, hbW⟩
          unfold ndCells at hbW
          have hcW := hbW.cell
          have hlW := hbW.lt
          clear hbW
          have hx := fun (x : World) (p : Addr) (hp : p.block < W.heap.size) => ext_cell hp x
          refine wp_region_ext (by kernel_rfl) (by kernel_rfl) ?_
          repeat (go_big_quiet_step (first
            | (go_at_call 85; exact Calls.ext_of (path_v nd.path _ (hT.off (hoW.trans_nil (ext_off W _))) false HV1.out))))
          refine wpQuiet_nil ?_
          rintro W2 ⟨x, rfl⟩
          have hoE := hoW.trans_nil (ext_off W x)
          clear hx hcW hlW
          generalize ext W x = W2 at *
          go_wp2_with fail
          go_ret
          exact ⟨by rw [chkV, HBAD.out (okNext_of false true true HV1.out (fun h => by cases h) (fun h => by cases h) (fun h => by cases h))]; rfl, hoE⟩
        · have hsz : nd.path.size ≤ 400 := by rw [← str_size]; exact okPath_size hv1
          have hpsz : (bs (parent (str nd.path))).size ≤ maxLen := by have := bs_parent_size nd.path; unfold maxLen; omega
          have HV1 := Lib.hid hv1
          clear hv1
          cases hv2 : rightN nd
          · have HV2 := Lib.hid hv2
            clear hv2
            go_wp2_with fail
            refine code_gen (fun W => Off [] w W ∧ Blk W wr.heap.size 30 (ndCells nd)) HB.out ?_
            rintro W ⟨hoW, hbW⟩
            unfold ndCells at hbW
            have hcW := hbW.cell
            have hlW := hbW.lt
            clear hbW
            have hx := fun (x : World) (p : Addr) (hp : p.block < W.heap.size) => ext_cell hp x
            refine wp_region_ext (by kernel_rfl) (by kernel_rfl) ?_
            repeat (go_big_quiet_step (first
              | (go_at_call 85; exact Calls.ext_of (path_v nd.path _ (hT.off (hoW.trans_nil (ext_off W _))) true HV1.out))
              | (go_at_call 86; exact Calls.ext_of (right_v nd _ false HV2.out))))
            refine wpQuiet_nil ?_
            rintro W2 ⟨x, rfl⟩
            have hoE := hoW.trans_nil (ext_off W x)
            clear hx hcW hlW
            generalize ext W x = W2 at *
            go_wp2_with fail
            go_ret
            exact ⟨by rw [chkV, HBAD.out (okNext_of true false true HV1.out (fun _ => HV2.out) (fun _ h => by cases h) (fun _ h => by cases h))]; rfl, hoE⟩
          · have HV2 := Lib.hid hv2
            clear hv2
            have hv4' : ∀ v, isDir (t.take k) (parent (str nd.path)) = v → isDir (t.take k) (str (bs (parent (str nd.path)))) = v := fun v h => by rw [str_bs]; exact h
            by_cases hk0 : k = 0
            · have H3 := Lib.hid (show lastOk (t.take k) nd = true from lastOk_none (by rw [hk0]; simp))
              have hkz : ¬ ((0 : Int) < (k : Int)) := by omega
              have hkz' : ¬ (0 < k) := by omega
              have HK0 := Lib.hid hk0
              clear hk0
              cases hv4 : isDir (t.take k) (parent (str nd.path))
              · have HV4 := Lib.hid (hv4' _ hv4)
                have HV4o := Lib.hid hv4
                clear hv4 hv4'
                go_wp2_with fail
                refine code_gen (fun W => Off [] w W ∧ Blk W wr.heap.size 30 (ndCells nd)) HB.out ?_
                rintro W ⟨hoW, hbW⟩
                unfold ndCells at hbW
                have hcW := hbW.cell
                have hlW := hbW.lt
                clear hbW
                have hx := fun (x : World) (p : Addr) (hp : p.block < W.heap.size) => ext_cell hp x
                refine wp_region_ext (by kernel_rfl) (by kernel_rfl) ?_
                repeat (go_big_quiet_step (first
                  | (go_at_call 85; exact Calls.ext_of (path_v nd.path _ (hT.off (hoW.trans_nil (ext_off W _))) true HV1.out))
                  | (go_at_call 86; exact Calls.ext_of (right_v nd _ true HV2.out))
                  | (go_at_call 89; exact Calls.ext_of (parent_any nd.path _ (by omega) (hT.off (hoW.trans_nil (ext_off W _)))))
                  | (go_at_call 88; exact Calls.ext_of (dir_v (some a) (t.take k) k cap (bs (parent (str nd.path))) _ (HRT.out.off (hoW.trans_nil (ext_off W _))) HTL.out (by omega) HSO.out HFT.out hpsz false HV4.out))))
                refine wpQuiet_nil ?_
                rintro W2 ⟨x, rfl⟩
                have hoE := hoW.trans_nil (ext_off W x)
                clear hx hcW hlW
                generalize ext W x = W2 at *
                go_wp2_with fail
                go_ret
                exact ⟨by rw [chkV, HBAD.out (okNext_of true true false HV1.out (fun _ => HV2.out) (fun _ _ => H3.out) (fun _ _ => HV4o.out))]; rfl, hoE⟩
              · have HV4 := Lib.hid (hv4' _ hv4)
                have HV4o := Lib.hid hv4
                clear hv4 hv4'
                go_wp2_with fail
                refine code_gen (fun W => Off [] w W ∧ Blk W wr.heap.size 30 (ndCells nd)) HB.out ?_
                rintro W ⟨hoW, hbW⟩
                unfold ndCells at hbW
                have hcW := hbW.cell
                have hlW := hbW.lt
                clear hbW
                have hx := fun (x : World) (p : Addr) (hp : p.block < W.heap.size) => ext_cell hp x
                refine wp_region_ext (by kernel_rfl) (by kernel_rfl) ?_
                repeat (go_big_quiet_step (first
                  | (go_at_call 85; exact Calls.ext_of (path_v nd.path _ (hT.off (hoW.trans_nil (ext_off W _))) true HV1.out))
                  | (go_at_call 86; exact Calls.ext_of (right_v nd _ true HV2.out))
                  | (go_at_call 89; exact Calls.ext_of (parent_any nd.path _ (by omega) (hT.off (hoW.trans_nil (ext_off W _)))))
                  | (go_at_call 88; exact Calls.ext_of (dir_v (some a) (t.take k) k cap (bs (parent (str nd.path))) _ (HRT.out.off (hoW.trans_nil (ext_off W _))) HTL.out (by omega) HSO.out HFT.out hpsz true HV4.out))))
                refine wpQuiet_nil ?_
                rintro W2 ⟨x, rfl⟩
                have hoE := hoW.trans_nil (ext_off W x)
                clear hx hcW hlW
                generalize ext W x = W2 at *
                go_wp2_with fail
                exact ⟨⟨k + 1, rfl, by omega, hoE, Lib.hid (HGOOD.out (okNext_of true true true HV1.out (fun _ => HV2.out) (fun _ _ => H3.out) (fun _ _ => HV4o.out)))⟩, by simp only [intOf]; omega⟩
            · obtain ⟨j, rfl⟩ : ∃ j, k = j + 1 := ⟨k - 1, by omega⟩
              clear hk0
              have hjl : j < t.length := by omega
              obtain ⟨a', ea, hnp, hblk⟩ := HR.out.get j hjl
              have ea : a' = a := (Option.some.inj ea).symm
              subst ea
              have hpfit := (HF.out _ (List.getElem_mem hjl)).1
              have hlast : (t.take (j + 1)).getLast? = some t[j] := by rw [List.take_succ_eq_append_getElem hjl, List.getLast?_concat]
              have HLAST := Lib.hid hlast
              generalize t[j] = pn at *
              obtain ⟨pv, hpv⟩ : ∃ pv, pn.path = pv := ⟨_, rfl⟩
              have HP0 := Lib.hid hnp.path
              have hblk0 : a'.block < w.heap.size := hblk
              have HPN := Lib.hid hpv
              rw [hpv] at hpfit
              have HP0 := Lib.hid (HPN.out ▸ HP0.out)
              clear ea hnp hlast hpv
              obtain ⟨c, hc⟩ : ∃ c, order (str pv) (str nd.path) = c := ⟨_, rfl⟩
              have HC := Lib.hid hc
              clear hc
              have hwj : IntKind.i64.wrap (j : Int) = j := by rw [IntWalk.i64_in] <;> omega
              have hj0 : (0 : Int) ≤ j := by omega
              have hj1 : (j : Int) < n := by omega
              by_cases hc0 : 0 ≤ c
              · clear hv4'
                go_wp2_with fail
                refine code_gen (fun W => Off [] w W ∧ Blk W wr.heap.size 30 (ndCells nd)) HB.out ?_
                rintro W ⟨hoW, hbW⟩
                unfold ndCells at hbW
                have hcW := hbW.cell
                have hlW := hbW.lt
                clear hbW
                have hpb : (a'.add (j * 4)).block < W.heap.size := by rw [add_block]; exact Nat.lt_of_lt_of_le hblk0 hoW.size
                have hpc := (hoW.cell (p := a'.add (j * 4)) (by rw [add_block]; exact hblk0) (by simp)).trans HP0.out
                have hx := fun (x : World) (p : Addr) (hp : p.block < W.heap.size) => ext_cell hp x
                refine wp_region_ext (by kernel_rfl) (by kernel_rfl) ?_
                repeat (go_big_quiet_step (first
                  | (go_at_call 85; exact Calls.ext_of (path_v nd.path _ (hT.off (hoW.trans_nil (ext_off W _))) true HV1.out))
                  | (go_at_call 86; exact Calls.ext_of (right_v nd _ true HV2.out))
                  | (go_at_call 87; exact Calls.ext_of (order_v pv nd.path _ hpfit hfit.1 c HC.out))))
                refine wpQuiet_nil ?_
                rintro W2 ⟨x, rfl⟩
                have hoE := hoW.trans_nil (ext_off W x)
                clear hx hcW hlW
                clear hpb hpc
                generalize ext W x = W2 at *
                go_wp2_with fail
                go_ret
                refine ⟨?_, hoE⟩
                have hb : okNext (t.take (j + 1)) nd = false := by
                  rw [okNext_eq]
                  have e3 : lastOk (t.take (j + 1)) nd = false := by
                    rw [lastOk_some HLAST.out]
                    have : order pn.p nd.p = c := by unfold Node.p; rw [HPN.out]; exact HC.out
                    rw [this]
                    exact decide_eq_false (by omega)
                  rw [e3]
                  simp
                rw [chkV, HBAD.out hb]; rfl
              · have hcd : decide (0 ≤ c) = false := decide_eq_false hc0
                have h3 : lastOk (t.take (j + 1)) nd = true := by
                  rw [lastOk_some HLAST.out]
                  have : order pn.p nd.p = c := by unfold Node.p; rw [HPN.out]; exact HC.out
                  rw [this]
                  exact decide_eq_true (by omega)
                have H3 := Lib.hid h3
                clear h3
                cases hv4 : isDir (t.take (j + 1)) (parent (str nd.path))
                · have HV4 := Lib.hid (hv4' _ hv4)
                  have HV4o := Lib.hid hv4
                  clear hv4 hv4'
                  go_wp2_with fail
                  refine code_gen (fun W => Off [] w W ∧ Blk W wr.heap.size 30 (ndCells nd)) HB.out ?_
                  rintro W ⟨hoW, hbW⟩
                  unfold ndCells at hbW
                  have hcW := hbW.cell
                  have hlW := hbW.lt
                  clear hbW
                  have hpb : (a'.add (j * 4)).block < W.heap.size := by rw [add_block]; exact Nat.lt_of_lt_of_le hblk0 hoW.size
                  have hpc := (hoW.cell (p := a'.add (j * 4)) (by rw [add_block]; exact hblk0) (by simp)).trans HP0.out
                  have hx := fun (x : World) (p : Addr) (hp : p.block < W.heap.size) => ext_cell hp x
                  refine wp_region_ext (by kernel_rfl) (by kernel_rfl) ?_
                  repeat (go_big_quiet_step (first
                    | (go_at_call 85; exact Calls.ext_of (path_v nd.path _ (hT.off (hoW.trans_nil (ext_off W _))) true HV1.out))
                    | (go_at_call 86; exact Calls.ext_of (right_v nd _ true HV2.out))
                    | (go_at_call 87; exact Calls.ext_of (order_v pv nd.path _ hpfit hfit.1 c HC.out))
                    | (go_at_call 89; exact Calls.ext_of (parent_any nd.path _ (by omega) (hT.off (hoW.trans_nil (ext_off W _)))))
                    | (go_at_call 88; exact Calls.ext_of (dir_v (some a') (t.take (j + 1)) (j + 1) cap (bs (parent (str nd.path))) _ (HRT.out.off (hoW.trans_nil (ext_off W _))) HTL.out (by omega) HSO.out HFT.out hpsz false HV4.out))))
                  refine wpQuiet_nil ?_
                  rintro W2 ⟨x, rfl⟩
                  have hoE := hoW.trans_nil (ext_off W x)
                  clear hx hcW hlW
                  clear hpb hpc
                  generalize ext W x = W2 at *
                  go_wp2_with fail
                  go_ret
                  exact ⟨by rw [chkV, HBAD.out (okNext_of true true false HV1.out (fun _ => HV2.out) (fun _ _ => H3.out) (fun _ _ => HV4o.out))]; rfl, hoE⟩
                · have HV4 := Lib.hid (hv4' _ hv4)
                  have HV4o := Lib.hid hv4
                  clear hv4 hv4'
                  go_wp2_with fail
                  refine code_gen (fun W => Off [] w W ∧ Blk W wr.heap.size 30 (ndCells nd)) HB.out ?_
                  rintro W ⟨hoW, hbW⟩
                  unfold ndCells at hbW
                  have hcW := hbW.cell
                  have hlW := hbW.lt
                  clear hbW
                  have hpb : (a'.add (j * 4)).block < W.heap.size := by rw [add_block]; exact Nat.lt_of_lt_of_le hblk0 hoW.size
                  have hpc := (hoW.cell (p := a'.add (j * 4)) (by rw [add_block]; exact hblk0) (by simp)).trans HP0.out
                  have hx := fun (x : World) (p : Addr) (hp : p.block < W.heap.size) => ext_cell hp x
                  refine wp_region_ext (by kernel_rfl) (by kernel_rfl) ?_
                  repeat (go_big_quiet_step (first
                    | (go_at_call 85; exact Calls.ext_of (path_v nd.path _ (hT.off (hoW.trans_nil (ext_off W _))) true HV1.out))
                    | (go_at_call 86; exact Calls.ext_of (right_v nd _ true HV2.out))
                    | (go_at_call 87; exact Calls.ext_of (order_v pv nd.path _ hpfit hfit.1 c HC.out))
                    | (go_at_call 89; exact Calls.ext_of (parent_any nd.path _ (by omega) (hT.off (hoW.trans_nil (ext_off W _)))))
                    | (go_at_call 88; exact Calls.ext_of (dir_v (some a') (t.take (j + 1)) (j + 1) cap (bs (parent (str nd.path))) _ (HRT.out.off (hoW.trans_nil (ext_off W _))) HTL.out (by omega) HSO.out HFT.out hpsz true HV4.out))))
                  refine wpQuiet_nil ?_
                  rintro W2 ⟨x, rfl⟩
                  have hoE := hoW.trans_nil (ext_off W x)
                  clear hx hcW hlW
                  clear hpb hpc
                  generalize ext W x = W2 at *
                  go_wp2_with fail
                  exact ⟨⟨j + 1 + 1, rfl, by omega, hoE, Lib.hid (HGOOD.out (okNext_of true true true HV1.out (fun _ => HV2.out) (fun _ _ => H3.out) (fun _ _ => HV4o.out)))⟩, by simp only [intOf]; omega⟩
      · obtain rfl : k = n := by omega
        go_wp2_with fail
        go_ret
        have hall : okTree t = true := by
          unfold okTree
          have := hok.out
          rw [List.take_of_length_le (by rw [HN.out]; exact Nat.le_refl _)] at this
          rw [this, HN.out]
          simp [hlen]
        exact ⟨by rw [chkV, hall]; rfl, ho⟩
  · go_enter Tryz.func42, Tryz.ntmps42
    go_wp2_with fail
    go_ret
    have hbad : okTree t = false := by unfold okTree; rw [HN.out]; simp [hlen]
    exact ⟨by rw [chkV, hbad]; rfl, Off.refl _ _⟩
end Go.Proofs.YtgcfkljooabjjaaGreatDoor

/- tree.Names and tree.Get: the walks. Conditions: the tables of unicode/utf8 are laid; no string is longer than Go's can be. -/
namespace Go.Proofs.YtgcfkljooabjjaaGreatDoor
open Go.RowKit Go.Op

/-- what stands right in d -/
def namesOf (t : List Node) (d : Str) : List ByteArray := (t.filter fun n => decide (parent n.p = d)).map fun n => bs (base n.p)
def namesR (t : List Node) (d : Str) : List ByteArray := if okTree t && isDir t d then namesOf t d else []
def NamesP (t : List Node) (d : Str) (w : World) (e : Ending) (w' : World) : Prop :=
  ∃ v, e = .returned v ∧ w'.ownsRow w.heap.size 9 1 v (namesR t d).length ((namesR t d).map Value.string) ∧ Off [] w w'
theorem infoStr : (Tryz.prog.info? 9).map (fun i => (i.zero, i.size, i.bytes)) = some (some (.string ⟨#[]⟩), 1, 16) := by kernel_rfl
theorem namesOf_step {t : List Node} {k : Nat} (hk : k < t.length) (d : Str) : namesOf (t.take (k + 1)) d = if parent t[k].p = d then namesOf (t.take k) d ++ [bs (base t[k].p)] else namesOf (t.take k) d := by
  unfold namesOf
  rw [List.take_succ_eq_append_getElem hk, List.filter_append, List.map_append]
  split
  · rename_i h; simp [h]
  · rename_i h; simp [h]
theorem namesOf_len (t : List Node) (d : Str) : (namesOf t d).length ≤ t.length := by
  unfold namesOf; rw [List.length_map]; exact List.length_filter_le _ _
theorem chkV_ok {t : List Node} (h : okTree t = true) : chkV t = 0 := by unfold chkV; rw [h]; rfl
theorem chkV_bad {t : List Node} (h : okTree t = false) : chkV t = 60 := by unfold chkV; rw [h]; rfl
theorem check_v (p : Option Addr) (t : List Node) (n cap : Nat) (w : World) (hR : Row w p t) (hn : t.length = n) (hcap : n ≤ cap) (hbig : n ≤ maxLen) (hF : Fits t) (hT : Tabs w) (c : Int) (hc : chkV t = c) :
    Calls Tryz.prog 42 #[.slice p n cap] w fun e w' => e = .returned (.int .i64 c) ∧ Off [] w w' := hc ▸ check_any p t n cap w hR hn hcap hbig hF hT
theorem ownsRow_off {w w' : World} {base e sz n : Nat} {v : Value} {xs : List Value} (h : w.ownsRow base e sz v n xs) (ho : Off [] w w') : w'.ownsRow base e sz v n xs := by
  refine ⟨h.1, ?_⟩
  rcases h.2 with h | ⟨g, cap, cur, h1, h2, h3, h4⟩
  · exact .inl h
  · exact .inr ⟨g, cap, cur, h1, h2, (ho.block g (Array.getElem?_eq_some_iff.1 h3).1 (by simp)).trans h3, h4⟩
theorem own_off {w wr w1 : World} {b : Value} {n e sz : Nat} {xs : List Value} {o : Obj} (hoff : Off [] w wr) (hown : wr.ownsRow w.heap.size e sz b n xs) (hg : (wr.alloc o).grownBy w1 b.ownBlock) : Off [] w w1 := by
  refine (hoff.alloc o).grown hg (fun g hg' => .inl ?_)
  rcases hown.2 with ⟨rfl, _⟩ | ⟨g', cap, cur, rfl, hb, _⟩
  · cases hg'
  · cases hg'; exact hb
/-- the names as far as the loop has come -/
def NmRel (w : World) (t : List Node) (d : Str) (k : Nat) (v : Value) (wr : World) : Prop :=
  wr.ownsRow w.heap.size 9 1 v (namesOf (t.take k) d).length ((namesOf (t.take k) d).map Value.string) ∧ Off [] w wr

set_option maxRecDepth 100000 in
set_option maxHeartbeats 4000000 in
theorem names_any (p : Option Addr) (t : List Node) (n cap : Nat) (s : ByteArray) (w : World) (hR : Row w p t) (hn : t.length = n) (hcap : n ≤ cap) (hbig : n ≤ maxLen) (hF : Fits t) (hsz : s.size ≤ maxLen) (hT : Tabs w) :
    Calls Tryz.prog 75 #[.slice p n cap, .string s] w (NamesP t (str s) w) := by
  have HN := Lib.hid hn
  have HR := Lib.hid hR
  have HF := Lib.hid hF
  clear hn hR hF
  cases hok : okTree t
  · have HOK := Lib.hid hok
    clear hok
    go_enter Tryz.func75, Tryz.ntmps75
    go_wp2_with fail
    refine (check_v p t n cap _ HR.out HN.out hcap hbig HF.out hT 60 (chkV_bad HOK.out)).mono ?_
    rintro e w1 ⟨rfl, ho⟩
    go_wp2_with fail
    go_ret
    have e0 : namesR t (str s) = [] := by unfold namesR; rw [HOK.out]; rfl
    exact ⟨_, rfl, by rw [e0]; exact ⟨rfl, .inl ⟨rfl, rfl⟩⟩, ho⟩
  · have hlen : n ≤ 1000 := by rw [← HN.out]; exact okTree_len hok
    have HSO := Lib.hid (okTree_sorted hok)
    have HOK := Lib.hid hok
    clear hok
    cases hd : isDir t (str s)
    · have HD := Lib.hid hd
      clear hd
      go_enter Tryz.func75, Tryz.ntmps75
      go_wp2_with fail
      refine (check_v p t n cap _ HR.out HN.out hcap hbig HF.out hT 0 (chkV_ok HOK.out)).mono ?_
      rintro e w1 ⟨rfl, ho⟩
      go_wp2_with fail
      refine (dir_v p t n cap s _ (HR.out.off ho) HN.out (by omega) HSO.out HF.out hsz false HD.out).mono ?_
      rintro e w2 ⟨rfl, ho2⟩
      go_wp2_with fail
      go_ret
      have e0 : namesR t (str s) = [] := by unfold namesR; rw [HOK.out, HD.out]; rfl
      exact ⟨_, rfl, by rw [e0]; exact ⟨rfl, .inl ⟨rfl, rfl⟩⟩, ho.trans_nil ho2⟩
    · have HD := Lib.hid hd
      clear hd
      obtain ⟨i0, hi, hz0, hz1, hz2⟩ := info_parts infoStr
      go_enter Tryz.func75, Tryz.ntmps75
      go_wp2_with fail
      refine (check_v p t n cap _ HR.out HN.out hcap hbig HF.out hT 0 (chkV_ok HOK.out)).mono ?_
      rintro e w1 ⟨rfl, ho⟩
      go_wp2_with fail
      refine (dir_v p t n cap s _ (HR.out.off ho) HN.out (by omega) HSO.out HF.out hsz true HD.out).mono ?_
      rintro e w2 ⟨rfl, ho2⟩
      have ho3 := ho.trans_nil ho2
      clear ho ho2
      go_wp2_with fail
      go_loopw [19, 5] (fun x l wr => ∃ k : Nat, x = .int .i64 k ∧ k ≤ n ∧ NmRel w t (str s) k l wr) (fun x _ _ => n - (intOf x).toNat)
      case atStart => exact ⟨0, rfl, by omega, ⟨rfl, .inl ⟨rfl, rfl⟩⟩, ho3⟩
      case round =>
        obtain ⟨k, rfl, hk, hrel⟩ := hrel
        have HREL := Lib.hid hrel
        have hoff := hrel.2
        clear hrel ho3
        by_cases hkn : k < n
        · have hkl : k < t.length := by rw [HN.out]; omega
          obtain ⟨a, rfl, hna, hab⟩ := (HR.out.off hoff).get k hkl
          have hfit : t[k].path.size ≤ 400 := okTree_small HOK.out (List.getElem_mem hkl)
          have HST := Lib.hid (namesOf_step hkl (str s))
          generalize t[k] = nd at *
          have c0 := hna.path
          have c1 := hna.kind
          have c2 := hna.data
          have c3 := hna.mode
          clear hna
          have hown := HREL.out.1
          have hnl : (namesOf (t.take k) (str s)).length ≤ 1000 := by have := namesOf_len (t.take k) (str s); rw [List.length_take] at this; omega
          by_cases hp : parent (str nd.path) = str s
          · have hpe : ((bs (parent (str nd.path))).toList == s.toList) = true := by rw [toList_str, toList_str, str_bs]; exact beq_iff_eq.2 hp
            have HP := Lib.hid hp
            clear hp
            go_wp2_with fail
            refine (parent_any nd.path _ (by omega) (hT.off (hoff.alloc _))).mono ?_
            rintro e w4 ⟨rfl, ho4⟩
            have hB4 := (Blk.new wr 30 (ndCells nd)).off ho4 (by simp)
            unfold ndCells at hB4
            have hc4 := hB4.cell
            have hl4 := hB4.lt
            clear c0 c1 c2 c3
            go_wp2_with fail
            refine (base_any nd.path _ (by omega) (hT.off ((hoff.alloc _).trans_nil ho4))).mono ?_
            rintro e w5 ⟨rfl, ho5⟩
            have hoff5 := ((hoff.alloc (.cells (ndCells nd) 30)).trans_nil ho4).trans_nil ho5
            clear hc4 hl4 hB4
            have hown5 := ownsRow_off (ownsRow_off (hown.alloc (.cells (ndCells nd) 30)) ho4) ho5
            go_wp2_with (at_builtin; refine wpList_append_own _ rfl _ _ 47 rfl w.heap.size 9 i0 (.string ⟨#[]⟩) 1 16 Tryz.underlying47 hi hz0 hz1 hz2 rfl (by decide) _ _ _ rfl (hown5.alloc _) ⟨w5.heap.size, 0, none⟩ 1 1 [_] rfl rfl (cell_one_at (Blk.new w5 _ _)) (by simp [Value.oneCell']) (by unfold maxLen; omega) (by omega) (by have := hoff5.size; simp; omega) ?_; intro v' w6 hown' hgrow _)
            refine ⟨⟨k + 1, by push_cast; rfl, by omega, ?_, own_off hoff5 hown5 hgrow⟩, ?_⟩
            · rw [HST.out]
              rw [if_pos (show parent nd.p = str s from HP.out)]
              simpa [Node.p] using hown'
            · simp only [intOf]; omega
          · have hpe : ((bs (parent (str nd.path))).toList == s.toList) = false := by rw [toList_str, toList_str, str_bs]; exact beq_eq_false_iff_ne.2 hp
            have HP := Lib.hid hp
            clear hp hown
            go_wp2_with fail
            refine (parent_any nd.path _ (by omega) (hT.off (hoff.alloc _))).mono ?_
            rintro e w4 ⟨rfl, ho4⟩
            clear c0 c1 c2 c3
            go_wp2_with fail
            refine ⟨⟨k + 1, by push_cast; rfl, by omega, ?_, (hoff.alloc (.cells (ndCells nd) 30)).trans_nil ho4⟩, ?_⟩
            · rw [HST.out, if_neg (show ¬ parent nd.p = str s from HP.out)]
              exact ownsRow_off (HREL.out.1.alloc (.cells (ndCells nd) 30)) ho4
            · simp only [intOf]; omega
        · obtain rfl : k = n := by omega
          go_wp2_with fail
          go_ret
          have e0 : namesR t (str s) = namesOf (t.take k) (str s) := by
            unfold namesR
            rw [HOK.out, HD.out, List.take_of_length_le (by rw [HN.out]; exact Nat.le_refl _)]
            rfl
          exact ⟨_, rfl, by rw [e0]; exact HREL.out.1, HREL.out.2⟩

def node0 : Node := ⟨⟨#[]⟩, 0, ⟨#[]⟩, 0⟩
def GetP (t : List Node) (d : Str) (w : World) (e : Ending) (w' : World) : Prop :=
  ∃ nd f, e = .returned (.tuple #[nd.val, .bool f]) ∧ ((f = true ∧ okTree t = true ∧ nd ∈ t ∧ nd.p = d) ∨ (f = false ∧ nd = node0 ∧ (okTree t = true → ∀ m ∈ t, m.p ≠ d))) ∧ Off [] w w'
end Go.Proofs.YtgcfkljooabjjaaGreatDoor

/- The plain law of TreeNames: in a tree each node is named once, by its parent; the names of a directory rise. Conditions: what each lemma states. -/
namespace Go.Proofs.YtgcfkljooabjjaaGreatDoor
open Go.RowKit

theorem okName_ne {s : Str} (h : okName s = true) : s ≠ [] := by
  unfold okName at h
  simp only [Bool.and_eq_true, decide_eq_true_eq] at h
  exact h.1.1.1.1.1
theorem okPath_names {p : Str} (h : okPath p = true) : ∀ x ∈ parts p, okName x = true := by
  unfold okPath at h
  simp only [Bool.and_eq_true, List.all_eq_true] at h
  exact h.2
theorem okPath_ne {p : Str} (h : okPath p = true) : p ≠ [] := fun e => by
  subst e
  exact okName_ne (okPath_names h [] (by simp [parts])) rfl
theorem joinP_ne {l : List Str} (hl : l ≠ []) (h : ∀ x ∈ l, x ≠ []) : joinP l ≠ [] := by
  match l, hl, h with
  | [x], _, h => exact h x (by simp)
  | x :: y :: l, _, h =>
    rw [joinP_cons x (by simp)]
    simp
theorem joinP_snoc (b : Str) : ∀ {l : List Str}, l ≠ [] → joinP (l ++ [b]) = joinP l ++ 47 :: b
  | [], h => absurd rfl h
  | [x], _ => by simp [joinP]
  | x :: y :: l, _ => by
    have ih := joinP_snoc b (l := y :: l) (by simp)
    rw [List.cons_append, joinP_cons x (by simp), ih, joinP_cons x (by simp)]
    simp
theorem parts_split {p : Str} (h : okPath p = true) : parts p = (parts p).dropLast ++ [base p] := by
  unfold base
  rw [if_pos h]
  exact (List.dropLast_concat_getLast (parts_ne p)).symm
theorem parent_eq {p : Str} (h : okPath p = true) : parent p = joinP (parts p).dropLast := by unfold parent; rw [if_pos h]
theorem drop_names {p : Str} (h : okPath p = true) : ∀ x ∈ (parts p).dropLast, x ≠ [] := fun x hx => okName_ne (okPath_names h x (List.dropLast_subset _ hx))
theorem drop_clean {p : Str} : ∀ x ∈ (parts p).dropLast, 47 ∉ x := fun x hx => parts_mem p x (List.dropLast_subset _ hx)
/-- a path is its parent's, a slash and its last name -/
theorem path_whole {p : Str} (h : okPath p = true) : p = if parent p = [] then base p else parent p ++ 47 :: base p := by
  have h1 := parts_split h
  have h2 := joinP_parts p
  by_cases hd : (parts p).dropLast = []
  · have : parent p = [] := by rw [parent_eq h, hd]; rfl
    rw [if_pos this]
    rw [hd, List.nil_append] at h1
    rw [h1] at h2
    exact h2.symm
  · have hne := joinP_ne hd (drop_names h)
    rw [← parent_eq h] at hne
    rw [if_neg hne, parent_eq h, ← joinP_snoc _ hd, ← h1, h2]
theorem drop_eq {p q : Str} (hp : okPath p = true) (hq : okPath q = true) (h : parent p = parent q) : (parts p).dropLast = (parts q).dropLast := by
  rw [parent_eq hp, parent_eq hq] at h
  by_cases h1 : (parts p).dropLast = []
  · by_cases h2 : (parts q).dropLast = []
    · rw [h1, h2]
    · rw [h1] at h
      exact absurd h.symm (joinP_ne h2 (drop_names hq))
  · by_cases h2 : (parts q).dropLast = []
    · rw [h2] at h
      exact absurd h (joinP_ne h1 (drop_names hp))
    · rw [← parts_joinP _ h1 drop_clean, h, parts_joinP _ h2 drop_clean]
theorem cmpN_last (x y : Str) : ∀ l : List Str, cmpN (l ++ [x]) (l ++ [y]) = Lib.compareBytes x y
  | [] => by
    simp only [List.nil_append, cmpN]
    split
    · rename_i h; exact h.symm
    · rfl
  | a :: l => by
    simp only [List.cons_append, cmpN, cmpB_self, if_true]
    exact cmpN_last x y l
/-- of two that stand in one directory the names stand as the paths do -/
theorem base_order {p q : Str} (hp : okPath p = true) (hq : okPath q = true) (h : parent p = parent q) : order p q = Lib.compareBytes (base p) (base q) := by
  unfold order
  rw [parts_split hp, parts_split hq, drop_eq hp hq h, cmpN_last]

variable {t : List Node}
theorem isDir_mono {done : List Node} {p : Str} (hs : ∀ n ∈ done, n ∈ t) (h : isDir done p = true) : isDir t p = true := by
  unfold isDir at *
  rw [Bool.or_eq_true] at *
  rcases h with h | h
  · exact .inl h
  · rw [List.any_eq_true] at *
    obtain ⟨n, hn, hp⟩ := h
    exact .inr ⟨n, hs n hn, hp⟩
theorem parent_dir (h : okTree t = true) {n : Node} (hn : n ∈ t) : isDir t (parent n.p) = true := by
  obtain ⟨i, hi, rfl⟩ := List.getElem_of_mem hn
  have := okTree_next h i hi
  rw [okNext_eq] at this
  simp only [Bool.and_eq_true] at this
  exact isDir_mono (fun m hm => List.mem_of_mem_take hm) this.2
theorem namesR_eq (h : okTree t = true) (d : Str) : namesR t d = namesOf t d := by
  unfold namesR
  rw [h, Bool.true_and]
  split
  · rfl
  · rename_i hd
    symm
    unfold namesOf
    rw [List.map_eq_nil_iff, List.filter_eq_nil_iff]
    intro n hn hp
    rw [decide_eq_true_eq] at hp
    exact hd (hp ▸ parent_dir h hn)
/-- what is no directory has no names -/
theorem names_file (h : okTree t = true) {d : Node} (hd : d ∈ t) (hk : d.kind ≠ 2) : namesR t d.p = [] := by
  have hf : isDir t d.p = false := by
    unfold isDir
    rw [Bool.or_eq_false_iff]
    refine ⟨decide_eq_false (okPath_ne (okTree_path h hd)), ?_⟩
    rw [List.any_eq_false]
    intro m hm hp
    simp only [Bool.and_eq_true, decide_eq_true_eq] at hp
    have := (okTree_sorted h).unique hm hd hp.1
    subst this
    exact hk hp.2
  unfold namesR
  rw [hf, Bool.and_false]
  rfl
/-- each name is a node's -/
theorem names_found (h : okTree t = true) {d : Str} {x : ByteArray} (hx : x ∈ namesR t d) : ∃ m ∈ t, m.p = if d = [] then str x else d ++ 47 :: str x := by
  rw [namesR_eq h] at hx
  unfold namesOf at hx
  rw [List.mem_map] at hx
  obtain ⟨n, hn, rfl⟩ := hx
  rw [List.mem_filter, decide_eq_true_eq] at hn
  refine ⟨n, hn.1, ?_⟩
  have := path_whole (okTree_path h hn.1)
  rw [hn.2] at this
  rw [str_bs]
  exact this
theorem names_small (h : okTree t = true) {d : Str} {x : ByteArray} (hx : x ∈ namesR t d) : x.size ≤ 400 := by
  obtain ⟨m, hm, e⟩ := names_found h hx
  have := okTree_small h hm
  have hl : m.p.length = m.path.size := str_size _
  rw [← str_size]
  split at e
  · rw [← e, hl]; exact this
  · rw [e] at hl; simp at hl; omega
/-- the names rise -/
theorem names_rise (h : okTree t = true) (d : Str) : (namesR t d).Pairwise fun a b => Lib.compareBytes (str a) (str b) < 0 := by
  rw [namesR_eq h]
  unfold namesOf
  rw [List.pairwise_map]
  have hs : (t.filter fun n => decide (parent n.p = d)).Pairwise fun a b => order a.p b.p < 0 := (okTree_sorted h).sublist List.filter_sublist
  refine hs.imp_of_mem fun {a b} ha hb hab => ?_
  rw [List.mem_filter, decide_eq_true_eq] at ha hb
  rw [str_bs, str_bs, ← base_order (okTree_path h ha.1) (okTree_path h hb.1) (ha.2.trans hb.2.symm)]
  exact hab
/-- the sum over the directories -/
theorem sum_filter {α β : Type} [DecidableEq β] (f : α → β) (P : List β) (hP : P.Nodup) : ∀ (l : List α), (∀ a ∈ l, f a ∈ P) → (P.map fun q => (l.filter fun a => decide (f a = q)).length).sum = l.length
  | [], _ => by
    induction P with
    | nil => rfl
    | cons q P ih => simpa using ih (List.nodup_cons.1 hP).2
  | a :: l, h => by
    have ih := sum_filter f P hP l (fun b hb => h b (List.mem_cons_of_mem _ hb))
    have hm := h a (by simp)
    have key : ∀ (Q : List β), (Q.map fun q => ((a :: l).filter fun a => decide (f a = q)).length).sum = (Q.map fun q => (l.filter fun a => decide (f a = q)).length).sum + Q.count (f a) := by
      intro Q
      induction Q with
      | nil => rfl
      | cons q Q ihQ =>
        simp only [List.map_cons, List.sum_cons, ihQ, List.count_cons]
        by_cases e : f a = q
        · subst e; simp; omega
        · have e' : ¬ q = f a := fun h => e h.symm
          simp [e, e']; omega
    rw [key P, ih, hP.count, if_pos hm, List.length_cons]
def rootN : Node := ⟨⟨#[]⟩, 2, ⟨#[]⟩, 0⟩
theorem names_count (h : okTree t = true) : ((rootN :: t).map fun d => (namesR t d.p).length).sum = t.length := by
  have e : ((rootN :: t).map fun d => (namesR t d.p).length) = (((rootN :: t).map Node.p).map fun q => (t.filter fun a => decide (parent a.p = q)).length) := by
    rw [List.map_map]
    refine List.map_congr_left fun d _ => ?_
    simp only [Function.comp, namesR_eq h]
    unfold namesOf
    rw [List.length_map]
  rw [e]
  refine sum_filter (fun n : Node => parent n.p) _ ?_ t (fun n hn => ?_)
  · rw [List.map_cons, List.nodup_cons]
    refine ⟨fun hm => ?_, ?_⟩
    · obtain ⟨n, hn, hp⟩ := List.mem_map.1 hm
      exact okPath_ne (okTree_path h hn) hp
    · rw [List.nodup_iff_pairwise_ne, List.pairwise_map]
      exact (okTree_sorted h).imp fun {a b} hab e => by rw [e, order_self] at hab; omega
  · have hd := parent_dir h hn
    unfold isDir at hd
    rw [Bool.or_eq_true] at hd
    rcases hd with hd | hd
    · rw [decide_eq_true_eq] at hd
      rw [hd]; exact List.mem_cons_self
    · rw [List.any_eq_true] at hd
      obtain ⟨m, hm, hp⟩ := hd
      simp only [Bool.and_eq_true, decide_eq_true_eq] at hp
      rw [← hp.1]
      exact List.mem_cons_of_mem _ (List.mem_map_of_mem hm)
end Go.Proofs.YtgcfkljooabjjaaGreatDoor

/- hawserlaw06.awake: a closed walk. Conditions: the tables of unicode/utf8 are laid. -/
namespace Go.Proofs.YtgcfkljooabjjaaGreatDoor
open Go.RowKit Go.Op

theorem row_blk {w : World} {g ty : Nat} {cs : Array Value} {t : List Node} (h : Blk w g ty cs)
    (hcs : ∀ (i : Nat) (n : Node), t[i]? = some n → cs[i * 4]? = some (.string n.path) ∧ cs[i * 4 + 1]? = some (.int .i64 n.kind) ∧ cs[i * 4 + 2]? = some (.string n.data) ∧ cs[i * 4 + 3]? = some (.int .i64 n.mode)) :
    Row w (some ⟨g, 0, none⟩) t := fun _ => by
  refine ⟨_, rfl, h.lt, fun i n hi => ?_⟩
  obtain ⟨h0, h1, h2, h3⟩ := hcs i n hi
  rw [addr_add]
  exact ⟨(h.cell _).trans h0, (h.cell _).trans h1, (h.cell _).trans h2, (h.cell _).trans h3⟩
def awT : List Node := [⟨⟨#[97]⟩, 2, ⟨#[]⟩, 0⟩, ⟨⟨#[97, 47, 98]⟩, 1, ⟨#[120]⟩, 0⟩]
theorem awT_ok : okTree awT = true := by decide +kernel
theorem awT_names : namesR awT [97] = [⟨#[98]⟩] := by
  rw [namesR_eq awT_ok]
  have h1 : parent (str ⟨#[97]⟩) = [] := by decide +kernel
  have h2 : parent (str ⟨#[97, 47, 98]⟩) = [97] := by decide +kernel
  have h3 : base (str ⟨#[97, 47, 98]⟩) = [98] := by decide +kernel
  unfold namesOf awT Node.p
  simp [h1, h2, h3, bs]
theorem awT_fits : Fits awT := by
  intro n hn
  unfold awT at hn
  simp at hn
  rcases hn with rfl | rfl <;> exact ⟨by decide, by decide⟩
theorem awT_get {nd : Node} {f : Bool} (h : (f = true ∧ okTree awT = true ∧ nd ∈ awT ∧ nd.p = [97, 47, 98]) ∨ (f = false ∧ nd = node0 ∧ (okTree awT = true → ∀ m ∈ awT, m.p ≠ [97, 47, 98]))) :
    f = true ∧ nd = ⟨⟨#[97, 47, 98]⟩, 1, ⟨#[120]⟩, 0⟩ := by
  rcases h with ⟨h1, _, h2, h3⟩ | ⟨_, _, h⟩
  · refine ⟨h1, ?_⟩
    unfold awT at h2
    simp at h2
    rcases h2 with rfl | rfl
    · exact absurd h3 (by decide)
    · rfl
  · exact absurd rfl (h awT_ok ⟨⟨#[97, 47, 98]⟩, 1, ⟨#[120]⟩, 0⟩ (by unfold awT; simp))

end Go.Proofs.YtgcfkljooabjjaaGreatDoor

/- hawserlaw06.TreeNames: the walk. Conditions: the tables of unicode/utf8 are laid; no string is longer than Go's can be. -/
namespace Go.Proofs.YtgcfkljooabjjaaGreatDoor
open Go.RowKit Go.Op

theorem infoNode : (Tryz.prog.info? 30).map (fun i => (i.zero, i.size, i.bytes)) = some (some node0.val, 4, 48) := by kernel_rfl
def ndL (n : Node) : List Value := [.string n.path, .int .i64 n.kind, .string n.data, .int .i64 n.mode]
theorem flat4 : ∀ (t : List Node) (i : Nat) (r : Nat), r < 4 → (t.flatMap ndL)[i * 4 + r]? = (t[i]?).bind fun n => (ndL n)[r]?
  | [], i, r, _ => by simp
  | n :: t, 0, r, hr => by
    rw [List.flatMap_cons, Nat.zero_mul, Nat.zero_add, List.getElem?_append_left (by simp [ndL]; omega)]
    rfl
  | n :: t, i + 1, r, hr => by
    have ih := flat4 t i r hr
    rw [List.flatMap_cons, List.getElem?_append_right (by simp [ndL]; omega)]
    have : (i + 1) * 4 + r - (ndL n).length = i * 4 + r := by simp [ndL]; omega
    rw [this, ih]
    simp
theorem flat_len (t : List Node) : (t.flatMap ndL).length = t.length * 4 := by
  induction t with
  | nil => rfl
  | cons n t ih => rw [List.flatMap_cons, List.length_append, ih]; simp [ndL]; omega
theorem flat_one (t : List Node) : ∀ u ∈ t.flatMap ndL, u.oneCell' = true := by
  intro u hu
  obtain ⟨n, _, hn⟩ := List.mem_flatMap.1 hu
  simp [ndL] at hn
  rcases hn with rfl | rfl | rfl | rfl <;> rfl
/-- a row's cells, one by one -/
theorem row_cells {w : World} {a : Addr} {t : List Node} (h : Row w (some a) t) : ∀ j u, (t.flatMap ndL)[j]? = some u → w.cell? (a.add j) = some u := by
  intro j u hj
  have hj4 : j = j / 4 * 4 + j % 4 := by omega
  rw [hj4] at hj ⊢
  rw [flat4 t _ _ (Nat.mod_lt _ (by decide))] at hj
  cases hn : t[j / 4]? with
  | none => rw [hn] at hj; cases hj
  | some n =>
    rw [hn] at hj
    obtain ⟨a', e, _, hr⟩ := h (by intro e; subst e; simp at hn)
    cases e
    have hna := hr _ _ hn
    rw [← Go.Deep.add_add]
    have hm := Nat.mod_lt j (show 0 < 4 by decide)
    generalize j % 4 = r at *
    match r, hm, hj with
    | 0, _, hj => cases hj; exact hna.path
    | 1, _, hj => cases hj; exact hna.kind
    | 2, _, hj => cases hj; exact hna.data
    | 3, _, hj => cases hj; exact hna.mode
theorem own_nodes {W : World} {base m : Nat} {v : Value} {t : List Node} (hm : m = t.length) (h : W.ownsRow base 30 4 v m (t.flatMap ndL)) (h0 : 0 < m) :
    ∃ g cap, v = .slice (some ⟨g, 0, none⟩) m cap ∧ base ≤ g ∧ Row W (some ⟨g, 0, none⟩) t := by
  subst hm
  rcases h.2 with ⟨_, h1⟩ | ⟨g, cap, cur, rfl, hb, hh, hc, _, hsz, ht⟩
  · omega
  · refine ⟨g, cap, rfl, hb, row_blk (ty := 30) hh fun i n hi => ?_⟩
    have key : ∀ r, r < 4 → cur[i * 4 + r]? = (ndL n)[r]? := fun r hr => by
      have h2 : (cur.toList.take (t.length * 4))[i * 4 + r]? = (ndL n)[r]? := by rw [ht, flat4 t i r hr, hi]; rfl
      have hil := (List.getElem?_eq_some_iff.1 hi).1
      rw [List.getElem?_take, if_pos (by omega)] at h2
      simpa using h2
    exact ⟨key 0 (by decide), key 1 (by decide), key 2 (by decide), key 3 (by decide)⟩
/-- a row of strings that the call owns -/
theorem own_strs {W : World} {base : Nat} {v : Value} {L : List ByteArray} (h : W.ownsRow base 9 1 v L.length (L.map Value.string)) :
    ∃ pl cap, v = .slice pl L.length cap ∧ ∀ (i : Nat) (x : ByteArray), L[i]? = some x → ∃ g, pl = some ⟨g, 0, none⟩ ∧ g < W.heap.size ∧ W.cell? ⟨g, i, none⟩ = some (.string x) := by
  rcases h.2 with ⟨rfl, h1⟩ | ⟨g, cap, cur, rfl, hb, hh, hc, _, hsz, ht⟩
  · exact ⟨none, 0, by rw [h1], fun i x hi => by rw [List.length_eq_zero_iff.1 h1] at hi; simp at hi⟩
  · refine ⟨some ⟨g, 0, none⟩, cap, rfl, fun i x hi => ⟨g, rfl, (Array.getElem?_eq_some_iff.1 hh).1, ?_⟩⟩
    have hil := (List.getElem?_eq_some_iff.1 hi).1
    rw [cell_of_row W g i cur 9 (0, 0) hh]
    have h2 : (cur.toList.take (L.length * 1))[i]? = some (.string x) := by rw [ht, List.getElem?_map, hi]; rfl
    rw [List.getElem?_take, if_pos (by omega)] at h2
    simpa using h2
def rootC : Array Value := #[.string ⟨#[]⟩, .int .i64 2, .string ⟨#[]⟩, .int .i64 0]
/-- how many names the first k directories have -/
def cntN (t : List Node) (k : Nat) : Nat := (((rootN :: t).take k).map fun d => (namesR t d.p).length).sum
theorem cntN_succ {t : List Node} {k : Nat} (hk : k < (rootN :: t).length) : cntN t (k + 1) = cntN t k + (namesR t (rootN :: t)[k].p).length := by
  unfold cntN; rw [List.take_succ_eq_append_getElem hk, List.map_append, List.sum_append]; simp
theorem cntN_all {t : List Node} (h : okTree t = true) : cntN t (t.length + 1) = t.length := by
  unfold cntN; rw [List.take_of_length_le (by simp)]; exact names_count h
theorem cntN_le {t : List Node} (h : okTree t = true) : ∀ k, k ≤ t.length + 1 → cntN t k ≤ t.length := fun k hk => by
  have hmono : ∀ d k, cntN t k ≤ cntN t (k + d) := fun d => by
    induction d with
    | zero => intro k; exact Nat.le_refl _
    | succ d ih =>
      intro k
      refine Nat.le_trans (ih k) ?_
      rcases Nat.lt_or_ge (k + d) (rootN :: t).length with hl | hl
      · have := cntN_succ (t := t) hl; rw [← Nat.add_assoc, this]; omega
      · unfold cntN
        rw [List.take_of_length_le hl, List.take_of_length_le (by omega)]
        exact Nat.le_refl _
  have := hmono (t.length + 1 - k) k
  rw [show k + (t.length + 1 - k) = t.length + 1 by omega, cntN_all h] at this
  exact this
theorem names_len (t : List Node) (d : Str) : (namesR t d).length ≤ t.length := by
  unfold namesR
  split
  · exact namesOf_len t d
  · simp
theorem getP_found {t : List Node} {d : Str} {nd : Node} {f : Bool} (hok : okTree t = true) (hm : ∃ m ∈ t, m.p = d) (h : (f = true ∧ okTree t = true ∧ nd ∈ t ∧ nd.p = d) ∨ (f = false ∧ nd = node0 ∧ (okTree t = true → ∀ m ∈ t, m.p ≠ d))) : f = true := by
  rcases h with ⟨h, _⟩ | ⟨_, _, h⟩
  · exact h
  · obtain ⟨m, h1, h2⟩ := hm
    exact absurd h2 (h hok m h1)
theorem rise_at {L : List ByteArray} (h : L.Pairwise fun a b => Lib.compareBytes (str a) (str b) < 0) {i : Nat} {x y : ByteArray} (hx : L[i]? = some x) (hy : L[i + 1]? = some y) : bytesLess x.toList y.toList = true := by
  obtain ⟨h1, rfl⟩ := List.getElem?_eq_some_iff.1 hx
  obtain ⟨h2, rfl⟩ := List.getElem?_eq_some_iff.1 hy
  rw [toList_str, toList_str, less_cmp]
  exact decide_eq_true (List.pairwise_iff_getElem.1 h i (i + 1) h1 h2 (by omega))

theorem own_off0 {w w2 W6 : World} {v : Value} {n : Nat} {xs : List Value} {o : Obj} (ho : Off [] w (w2.alloc o)) (hown : (w2.alloc o).ownsRow w2.heap.size 30 4 v n xs) (hg : (w2.alloc o).grownBy W6 v.ownBlock) (hsz : w.heap.size ≤ w2.heap.size) : Off [] w W6 := by
  refine ho.grown hg (fun g hg' => .inl ?_)
  rcases hown.2 with ⟨rfl, _⟩ | ⟨g', cap, cur, rfl, hb, _⟩
  · cases hg'
  · cases hg'; exact Nat.le_trans hsz hb
end Go.Proofs.YtgcfkljooabjjaaGreatDoor

/- A disk in plain words: names that lead to inodes, what is safe, what befalls it. Conditions: none. -/
namespace Go.Proofs.YtgcfkljooabjjaaGreatDoor

/-- what a name leads to -/
structure Ino where
  node : Node
  time : Int
  dirty : Bool
/-- what befalls a disk at a step -/
structure FateP where
  at_ : Int
  what : Int
  keep : Int
  torn : Int
/-- what was asked at a step -/
structure DidP where
  call : ByteArray
  path : ByteArray
  dest : ByteArray
/-- names with the numbers of their inodes: no name twice -/
abbrev NameL := List (ByteArray × Nat)
structure PDisk where
  names : NameL
  safe : NameL
  later : List NameL
  inos : List Ino
  off : Bool
  clock : Nat
  trace : List DidP
  fates : List FateP

/-- the number behind a name; 0: none -/
def lookN : NameL → ByteArray → Nat
  | [], _ => 0
  | x :: l, p => if x.1 = p then x.2 else lookN l p
def hasN : NameL → ByteArray → Bool
  | [], _ => false
  | x :: l, p => decide (x.1 = p) || hasN l p
def delN (l : NameL) (p : ByteArray) : NameL := l.filter fun x => !decide (x.1 = p)
def putN (l : NameL) (p : ByteArray) (i : Nat) : NameL := if hasN l p then l.map fun x => if x.1 = p then (p, i) else x else l ++ [(p, i)]
def Apart (l : NameL) : Prop := l.Pairwise fun x y => x.1 ≠ y.1

namespace PDisk
def inode (D : PDisk) (i : Nat) : Option Ino := if i = 0 then none else D.inos[i - 1]?
def at_ (D : PDisk) (p : ByteArray) : Option Ino := D.inode (lookN D.names p)
def dir (D : PDisk) (p : ByteArray) : Bool := decide (p = ⟨#[]⟩) || match D.at_ p with | none => false | some n => decide (n.node.kind = 2)
def make (D : PDisk) (n : Node) (time : Int) (dirty : Bool) : PDisk := { D with inos := D.inos ++ [⟨n, time, dirty⟩] }
def change (D : PDisk) (l : NameL) : PDisk := { D with names := l, later := D.later ++ [l] }
/-- what is left of an inode that a crash finds -/
def tear (torn : Int) (n : Ino) : Ino :=
  if n.dirty then { n with node := { n.node with data := n.node.data.extract 0 (min torn.toNat n.node.data.size) }, dirty := false } else n
def crash (D : PDisk) (f : FateP) : PDisk :=
  let l := match D.later[(min f.keep D.later.length).toNat - 1]? with
    | some l => if 0 < min f.keep D.later.length then l else D.safe
    | none => D.safe
  { D with names := l, safe := l, later := [], off := true, inos := D.inos.map (tear f.torn) }
/-- one step, without edits: is there no room?, the error, the disk behind it -/
def step (D : PDisk) (call p q : ByteArray) : Bool × Int × PDisk :=
  if D.off then (false, 75, D) else
    let E := { D with clock := D.clock + 1, trace := D.trace ++ [⟨call, p, q⟩] }
    match D.fates.find? fun f => decide (f.at_ = (D.trace.length : Int)) with
    | none => (false, 0, E)
    | some f => if f.what = 3 then (false, 75, E.crash f) else if f.what = 1 then (false, 70, E) else (decide (f.what = 2), 0, E)
end PDisk

/-- the first error whose reason holds -/
def firstE : List (Bool × Int) → Int
  | [] => 0
  | x :: l => if x.1 then x.2 else firstE l
namespace PDisk
def no (p : ByteArray) : Bool × Int := (!okPath (str p), 11)
def parentE (D : PDisk) (p : ByteArray) : Bool × Int := (!D.dir (bs (parent (str p))), 62)
def there (D : PDisk) (p : ByteArray) : Bool × Int := ((D.at_ p).isSome, 72)
def gone (D : PDisk) (p : ByteArray) : Bool × Int := ((D.at_ p).isNone, 74)
/-- a new node at a path -/
def lay (D : PDisk) (p : ByteArray) (n : Node) (full : Bool) (l : List (Bool × Int)) : Int × PDisk :=
  let e := firstE (l ++ [(full || decide (1000 ≤ D.names.length), 71)])
  if e ≠ 0 then (e, D) else (0, (D.make n D.clock (decide (n.kind = 1))).change (putN D.names p (D.inos.length + 1)))
def write_ (D : PDisk) (full : Bool) (p data : ByteArray) (mode : Int) : Int × PDisk :=
  let n : Node := ⟨⟨#[]⟩, 1, data, mode⟩
  let l := [no p, (decide (65536 < data.size) || decide (mode < 0) || decide (511 < mode), 2), D.parentE p, (match D.at_ p with | none => false | some o => !decide (o.node.kind = 1), 73)]
  match D.at_ p with
  | none => D.lay p n full l
  | some _ =>
    let e := firstE (l ++ [(full, 71)])
    if e ≠ 0 then (e, D) else (0, { D with inos := D.inos.set (lookN D.names p - 1) ⟨n, D.clock, true⟩ })
def sync_ (D : PDisk) (p : ByteArray) : Int × PDisk :=
  let e := firstE [no p, D.gone p]
  if e ≠ 0 then (e, D) else (0, match D.at_ p with | none => D | some n => { D with inos := D.inos.set (lookN D.names p - 1) { n with dirty := false } })
def replace_ (D : PDisk) (p q : ByteArray) : Int × PDisk :=
  let e := firstE [no p, no q, (decide (p = q), 2), D.gone p, (D.dir p || D.dir q, 73), D.parentE q]
  if e ≠ 0 then (e, D) else (0, D.change (delN (putN D.names q (lookN D.names p)) p))
def flush_ (D : PDisk) : PDisk := { D with safe := D.names, later := [] }
def boot (D : PDisk) (fates : List FateP) : PDisk := { D with off := false, trace := [], fates := fates }
/-- a call: the step, then what is asked -/
def call (D : PDisk) (nm p q : ByteArray) (k : PDisk → Bool → Int × PDisk) : Int × PDisk :=
  match D.step nm p q with
  | (full, e, E) => if e ≠ 0 then (e, E) else k E full
def write (D : PDisk) (p data : ByteArray) (mode : Int) : Int × PDisk := D.call ⟨#[87, 114, 105, 116, 101]⟩ p ⟨#[]⟩ fun E full => E.write_ full p data mode
def sync (D : PDisk) (p : ByteArray) : Int × PDisk := D.call ⟨#[83, 121, 110, 99]⟩ p ⟨#[]⟩ fun E _ => E.sync_ p
def replace (D : PDisk) (p q : ByteArray) : Int × PDisk := D.call ⟨#[82, 101, 112, 108, 97, 99, 101]⟩ p q fun E _ => E.replace_ p q
/-- a node and its stamp -/
def get_ (D : PDisk) (p : ByteArray) : Int × Node × Int × Int × Int :=
  if p = ⟨#[]⟩ then (0, ⟨⟨#[]⟩, 2, ⟨#[]⟩, 0⟩, 0, 0, 0) else
    let e := firstE [no p, D.gone p]
    if e ≠ 0 then (e, ⟨⟨#[]⟩, 0, ⟨#[]⟩, 0⟩, 0, 0, 0) else
      match D.at_ p with
      | none => (0, ⟨⟨#[]⟩, 0, ⟨#[]⟩, 0⟩, 0, 0, 0)
      | some n => (0, { n.node with path := p }, lookN D.names p, n.node.data.size, n.time)
def get (D : PDisk) (p : ByteArray) : (Int × Node × Int × Int × Int) × PDisk :=
  match D.step ⟨#[71, 101, 116]⟩ p ⟨#[]⟩ with
  | (_, e, E) => if e ≠ 0 then ((e, ⟨⟨#[]⟩, 0, ⟨#[]⟩, 0⟩, 0, 0, 0), E) else (E.get_ p, E)
/-- a disk's tree: the names in their order -/
def sortN (l : NameL) : NameL := l.mergeSort fun x y => !decide (order (str y.1) (str x.1) < 0)
def tree (D : PDisk) : List Node := (sortN D.names).filterMap fun x => (D.inode x.2).map fun n => { n.node with path := x.1 }
def flush (D : PDisk) : Int × PDisk := D.call ⟨#[70, 108, 117, 115, 104]⟩ ⟨#[]⟩ ⟨#[]⟩ fun E _ => (0, E.flush_)
end PDisk
end Go.Proofs.YtgcfkljooabjjaaGreatDoor

/- Maps in memory that read as a disk's names and as a disk's inodes. Conditions: none beyond what each lemma states. -/
namespace Go.Proofs.YtgcfkljooabjjaaGreatDoor
open Go.RowKit Go.Maps

/-! ### plain names -/
theorem lookN_of_not {l : NameL} {p : ByteArray} (h : hasN l p = false) : lookN l p = 0 := by
  induction l with
  | nil => rfl
  | cons x l ih =>
    simp only [hasN, Bool.or_eq_false_iff, decide_eq_false_iff_not] at h
    simp only [lookN, if_neg h.1, ih h.2]
theorem hasN_append (l m : NameL) (p : ByteArray) : hasN (l ++ m) p = (hasN l p || hasN m p) := by
  induction l with
  | nil => simp [hasN]
  | cons x l ih => simp [hasN, ih, Bool.or_assoc]
theorem lookN_append (l m : NameL) (p : ByteArray) : lookN (l ++ m) p = if hasN l p then lookN l p else lookN m p := by
  induction l with
  | nil => simp [hasN]
  | cons x l ih =>
    by_cases h : x.1 = p <;> simp [hasN, lookN, h, ih]
theorem hasN_map (l : NameL) (p q : ByteArray) (i : Nat) : hasN (l.map fun x => if x.1 = p then (p, i) else x) q = hasN l q := by
  induction l with
  | nil => rfl
  | cons x l ih =>
    simp only [List.map_cons, hasN, ih]
    by_cases h : x.1 = p
    · simp [h]
    · simp [h]
theorem lookN_map_same (l : NameL) (p : ByteArray) (i : Nat) (h : hasN l p = true) : lookN (l.map fun x => if x.1 = p then (p, i) else x) p = i := by
  induction l with
  | nil => simp [hasN] at h
  | cons x l ih =>
    simp only [List.map_cons, lookN]
    by_cases hx : x.1 = p
    · simp [hx]
    · simp only [hx, if_false]
      simp only [hasN, hx, decide_false, Bool.false_or] at h
      exact ih h
theorem lookN_map_other (l : NameL) (p q : ByteArray) (i : Nat) (h : q ≠ p) : lookN (l.map fun x => if x.1 = p then (p, i) else x) q = lookN l q := by
  induction l with
  | nil => rfl
  | cons x l ih =>
    simp only [List.map_cons, lookN, ih]
    by_cases hx : x.1 = p
    · rw [if_pos hx, hx, if_neg (Ne.symm h), if_neg (Ne.symm h)]
    · rw [if_neg hx]
theorem hasN_putN (l : NameL) (p q : ByteArray) (i : Nat) : hasN (putN l p i) q = (hasN l q || decide (p = q)) := by
  unfold putN
  split
  · rename_i h
    rw [hasN_map]
    by_cases hq : p = q
    · subst hq; simp [h]
    · simp [hq]
  · rw [hasN_append]; simp [hasN]
theorem lookN_putN (l : NameL) (p q : ByteArray) (i : Nat) : lookN (putN l p i) q = if p = q then i else lookN l q := by
  unfold putN
  split
  · rename_i h
    by_cases hq : p = q
    · subst hq; rw [if_pos rfl, lookN_map_same _ _ _ h]
    · rw [if_neg hq, lookN_map_other _ _ _ _ (Ne.symm hq)]
  · rename_i h
    rw [lookN_append]
    by_cases hq : p = q
    · subst hq; simp [h, lookN]
    · simp only [lookN, if_neg hq]
      split
      · rfl
      · rename_i h2; rw [lookN_of_not (by simpa using h2)]
theorem length_putN (l : NameL) (p : ByteArray) (i : Nat) : (putN l p i).length = if hasN l p then l.length else l.length + 1 := by
  unfold putN; split <;> simp
theorem hasN_delN (l : NameL) (p q : ByteArray) : hasN (delN l p) q = (hasN l q && !decide (p = q)) := by
  induction l with
  | nil => rfl
  | cons x l ih =>
    unfold delN at ih ⊢
    by_cases hx : x.1 = p
    · rw [List.filter_cons_of_neg (by simp [hx]), ih]
      by_cases hq : p = q
      · simp [hq]
      · simp [hasN, hx, hq]
    · rw [List.filter_cons_of_pos (by simp [hx])]
      simp only [hasN, ih]
      by_cases hq : p = q
      · subst hq; simp [hx]
      · simp [hq]
theorem lookN_delN (l : NameL) (p q : ByteArray) : lookN (delN l p) q = if p = q then 0 else lookN l q := by
  induction l with
  | nil => simp [delN, lookN]
  | cons x l ih =>
    unfold delN at ih ⊢
    by_cases hx : x.1 = p
    · rw [List.filter_cons_of_neg (by simp [hx]), ih]
      by_cases hq : p = q
      · simp [hq]
      · simp [hq, lookN, hx]
    · rw [List.filter_cons_of_pos (by simp [hx])]
      simp only [lookN, ih]
      by_cases hq : p = q
      · subst hq; simp [hx]
      · simp [hq]
theorem hasN_iff (l : NameL) (p : ByteArray) : hasN l p = true ↔ ∃ x ∈ l, x.1 = p := by
  induction l with
  | nil => simp [hasN]
  | cons x l ih => simp [hasN, ih]
theorem delN_of_not {l : NameL} {p : ByteArray} (h : hasN l p = false) : delN l p = l := by
  unfold delN
  rw [List.filter_eq_self]
  intro x hx
  have : ¬ ∃ x ∈ l, x.1 = p := fun hh => by rw [(hasN_iff l p).2 hh] at h; cases h
  simpa using fun e => this ⟨x, hx, e⟩
theorem length_delN {l : NameL} (hl : Apart l) (p : ByteArray) : (delN l p).length + (if hasN l p then 1 else 0) = l.length := by
  induction l with
  | nil => rfl
  | cons x l ih =>
    obtain ⟨h1, h2⟩ := List.pairwise_cons.1 hl
    by_cases hx : x.1 = p
    · have hn : hasN l p = false := by
        cases hh : hasN l p
        · rfl
        · obtain ⟨y, hy, e⟩ := (hasN_iff l p).1 hh
          exact absurd (hx.trans e.symm) (h1 y hy)
      have : delN (x :: l) p = delN l p := by unfold delN; rw [List.filter_cons_of_neg (by simp [hx])]
      rw [this, delN_of_not hn]
      simp [hasN, hx]
    · have : delN (x :: l) p = x :: delN l p := by unfold delN; rw [List.filter_cons_of_pos (by simp [hx])]
      rw [this]
      have := ih h2
      simp only [hasN, hx, decide_false, Bool.false_or, List.length_cons]
      omega
theorem Apart.del {l : NameL} (h : Apart l) (p : ByteArray) : Apart (delN l p) := List.Pairwise.filter _ h
theorem map_fst (l : NameL) (p : ByteArray) (i : Nat) : (l.map fun x => if x.1 = p then (p, i) else x).map (·.1) = l.map (·.1) := by
  rw [List.map_map]
  refine List.map_congr_left fun x _ => ?_
  simp only [Function.comp]
  split
  · rename_i h; exact h.symm
  · rfl
theorem apart_iff (l : NameL) : Apart l ↔ (l.map (·.1)).Nodup := by
  unfold Apart List.Nodup
  rw [List.pairwise_map]
theorem Apart.put {l : NameL} (h : Apart l) (p : ByteArray) (i : Nat) : Apart (putN l p i) := by
  unfold putN
  split
  · rw [apart_iff] at h ⊢
    rw [map_fst]; exact h
  · rename_i hn
    unfold Apart
    rw [List.pairwise_append]
    refine ⟨h, by simp, fun a ha b hb => ?_⟩
    rw [List.mem_singleton] at hb
    subst hb
    intro e
    exact hn ((hasN_iff l p).2 ⟨a, ha, e⟩)

/-! ### in memory -/
def strL (p : ByteArray) : Lit := .string p.data.toList
theorem strL_inj {p q : ByteArray} (h : strL p = strL q) : p = q := by
  unfold strL at h
  injection h with h
  exact ByteArray.ext (Array.toList_inj.1 h)
theorem isKey_str (p : ByteArray) : WideAt.IsKeyLit (strL p) := by first | trivial | exact Or.inl trivial | simp [strL, WideAt.IsKeyLit]
theorem strK : Keyed Tryz.prog 9 := string_keyed Tryz.underlying9
theorem intK : Keyed Tryz.prog 3 := int_keyed Tryz.underlying3
/-- block b is a map that reads as these names -/
def NMat (w : World) (b : Nat) (l : NameL) : Prop :=
  Apart l ∧ ∃ D : DataW Unit, w.ownsMap Tryz.prog 9 (plainElem Tryz.prog 3) b l.length D ∧ size D = l.length ∧
    ∀ p, has D (strL p) = hasN l p ∧ D.atKey (strL p) (.lit (.int .i64 0)) = .lit (.int .i64 (lookN l p))
theorem NMat.kept {w w' : World} {b : Nat} {l : NameL} {row : Option Nat} (h : NMat w b l) (hg : w.grownBy w' row) (hne : some b ≠ row) : NMat w' b l := by
  obtain ⟨ha, D, hD, hr⟩ := h
  exact ⟨ha, D, hD.kept hg hne, hr⟩
theorem NMat.lt {w : World} {b : Nat} {l : NameL} (h : NMat w b l) : b < w.heap.size := by
  obtain ⟨_, D, hD, _⟩ := h; exact hD.lt
theorem ownsMap_off {k : TypeId} {R : Value → Option (DataW Unit × List MemPlace)} {D : DataW Unit} {w w' : World} {b n : Nat} {l : List Nat} (h : w.ownsMap Tryz.prog k R b n D) (ho : Off l w w') (hb : b ∉ l) : w'.ownsMap Tryz.prog k R b n D := by
  have hlt := h.lt
  obtain ⟨es, clock, hh, r⟩ := h
  exact ⟨es, clock, (ho.block b hlt hb).trans hh, r⟩
theorem NMat.off {w w' : World} {b : Nat} {l : NameL} {k : List Nat} (h : NMat w b l) (ho : Off k w w') (hb : b ∉ k) : NMat w' b l := by
  obtain ⟨ha, D, hD, hr⟩ := h
  exact ⟨ha, D, ownsMap_off hD ho hb, hr⟩
theorem ownsMap_exact {k : TypeId} {R : Value → Option (DataW Unit × List MemPlace)} {D : DataW Unit} {w : World} {b n : Nat} (h : w.ownsMap Tryz.prog k R b n D) : w.ownsMap Tryz.prog k R b (size D) D := by
  obtain ⟨es, clock, hh, F, _, rfl⟩ := h
  exact ⟨es, clock, hh, F, by simp [Maps.size, length_sorted], rfl⟩
/-- a store of a name -/
theorem NMat.put {w w' : World} {b : Nat} {l : NameL} (hl : Apart l) {D : DataW Unit} (hD : w.ownsMap Tryz.prog 9 (plainElem Tryz.prog 3) b l.length D) (hs : size D = l.length)
    (hr : ∀ p, has D (strL p) = hasN l p ∧ D.atKey (strL p) (.lit (.int .i64 0)) = .lit (.int .i64 (lookN l p))) (p : ByteArray) (i : Nat)
    (h' : w'.ownsMap Tryz.prog 9 (plainElem Tryz.prog 3) b (l.length + 1) (D.put (strL p) (.lit (.int .i64 i)))) : NMat w' b (putN l p i) := by
  refine ⟨hl.put p i, D.put (strL p) (.lit (.int .i64 i)), ?_, ?_, fun q => ?_⟩
  · have := ownsMap_exact h'
    rw [size_put (hD.tidy strK), (hr p).1, hs] at this
    rw [length_putN]
    exact this
  · rw [size_put (hD.tidy strK), (hr p).1, hs, length_putN]
  · by_cases hq : p = q
    · subst hq
      rw [has_put_same hD.isMap (isKey_str p), atKey_put_same hD.isMap (isKey_str p), hasN_putN, lookN_putN]
      simp
    · have hne : strL q ≠ strL p := fun e => hq (strL_inj e).symm
      rw [has_put_other hne, atKey_put_other hne, hasN_putN, lookN_putN, (hr q).1, (hr q).2]
      simp [hq]
/-- a name is struck -/
theorem NMat.del {w w' : World} {b n : Nat} {l : NameL} (hl : Apart l) {D : DataW Unit} (hD : w.ownsMap Tryz.prog 9 (plainElem Tryz.prog 3) b n D) (hs : size D = l.length)
    (hr : ∀ p, has D (strL p) = hasN l p ∧ D.atKey (strL p) (.lit (.int .i64 0)) = .lit (.int .i64 (lookN l p))) (p : ByteArray)
    (h' : w'.ownsMap Tryz.prog 9 (plainElem Tryz.prog 3) b n (D.del (strL p))) : NMat w' b (delN l p) := by
  have hsz : size (D.del (strL p)) = (delN l p).length := by
    have h1 := size_del (k := strL p) (hD.tidy strK)
    have h2 := length_delN hl p
    rw [(hr p).1] at h1
    omega
  refine ⟨hl.del p, D.del (strL p), ?_, hsz, fun q => ?_⟩
  · have := ownsMap_exact h'
    rw [hsz] at this
    exact this
  · by_cases hq : p = q
    · subst hq
      rw [has_del_same, atKey_del_same, hasN_delN, lookN_delN]
      simp
    · have hne : strL q ≠ strL p := fun e => hq (strL_inj e).symm
      rw [has_del_other hne, atKey_del_other hne, hasN_delN, lookN_delN, (hr q).1, (hr q).2]
      simp [hq]
end Go.Proofs.YtgcfkljooabjjaaGreatDoor

/- A map in memory that reads as a disk's inodes: numbers from 1 on lead to blocks. Conditions: none beyond what each lemma states. -/
namespace Go.Proofs.YtgcfkljooabjjaaGreatDoor
open Go.RowKit Go.Maps

/-- how a pointer to the head of a block reads -/
def ptrElem (v : Value) : Option (DataW Unit × List MemPlace) :=
  match v with
  | .pointer none => some (.nil, [])
  | .pointer (some ⟨b, 0, none⟩) => some (.lit (.int .i64 b), [])
  | _ => none
theorem ptrElem_nil : ptrElem (.pointer none) = some (.nil, []) := rfl
theorem ptrElem_some (b : Nat) : ptrElem (.pointer (some ⟨b, 0, none⟩)) = some (.lit (.int .i64 b), []) := rfl
theorem ptrElem_inv_nil {v : Value} {ps : List MemPlace} (h : ptrElem v = some (.nil, ps)) : v = .pointer none := by
  unfold ptrElem at h
  split at h
  · rfl
  · cases h
  · cases h
theorem ptrElem_inv {v : Value} {ps : List MemPlace} {q : Nat} (h : ptrElem v = some (.lit (.int .i64 q), ps)) : v = .pointer (some ⟨q, 0, none⟩) := by
  unfold ptrElem at h
  split at h
  · cases h
  · simp only [Option.some.injEq, Prod.mk.injEq, DataW.lit.injEq, Lit.int.injEq, true_and] at h
    obtain ⟨h, -⟩ := h
    have := Int.ofNat_inj.1 h
    subst this
    rfl
  · cases h
def numL (i : Int) : Lit := .int .i64 i
theorem numL_inj {i j : Int} (h : numL i = numL j) : i = j := by unfold numL at h; injection h
theorem isKey_num (i : Int) : WideAt.IsKeyLit (numL i) := by first | trivial | exact Or.inl trivial | simp [numL, WideAt.IsKeyLit]
/-- where number i leads -/
def ptrV (qs : List Nat) (i : Nat) : Value := match (if i = 0 then none else qs[i - 1]?) with | none => .pointer none | some q => .pointer (some ⟨q, 0, none⟩)
/-- block b is a map in which the numbers from 1 on lead to these blocks -/
def IMat (w : World) (b : Nat) (qs : List Nat) : Prop :=
  ∃ D : DataW Unit, w.ownsMap Tryz.prog 3 ptrElem b qs.length D ∧ size D = qs.length ∧
    (∀ (k q : Nat), qs[k]? = some q → has D (numL (k + 1)) = true ∧ D.atKey (numL (k + 1)) .nil = .lit (.int .i64 q)) ∧
    (∀ i : Int, (i < 1 ∨ (qs.length : Int) < i) → has D (numL i) = false)
theorem IMat.kept {w w' : World} {b : Nat} {qs : List Nat} {row : Option Nat} (h : IMat w b qs) (hg : w.grownBy w' row) (hne : some b ≠ row) : IMat w' b qs := by
  obtain ⟨D, hD, hr⟩ := h
  exact ⟨D, hD.kept hg hne, hr⟩
theorem IMat.lt {w : World} {b : Nat} {qs : List Nat} (h : IMat w b qs) : b < w.heap.size := by
  obtain ⟨D, hD, _⟩ := h; exact hD.lt
theorem IMat.off {w w' : World} {b : Nat} {qs : List Nat} {k : List Nat} (h : IMat w b qs) (ho : Off k w w') (hb : b ∉ k) : IMat w' b qs := by
  obtain ⟨D, hD, hr⟩ := h
  exact ⟨D, ownsMap_off hD ho hb, hr⟩
theorem IMat.put {w w' : World} {b : Nat} {qs : List Nat} {D : DataW Unit} (hD : w.ownsMap Tryz.prog 3 ptrElem b qs.length D) (hs : size D = qs.length)
    (h1 : ∀ (k q : Nat), qs[k]? = some q → has D (numL (k + 1)) = true ∧ D.atKey (numL (k + 1)) .nil = .lit (.int .i64 q)) (h2 : ∀ i : Int, (i < 1 ∨ (qs.length : Int) < i) → has D (numL i) = false) (q : Nat)
    (h' : w'.ownsMap Tryz.prog 3 ptrElem b (qs.length + 1) (D.put (numL (qs.length + 1)) (.lit (.int .i64 q)))) : IMat w' b (qs ++ [q]) := by
  have hn := h2 (qs.length + 1) (.inr (by omega))
  refine ⟨D.put (numL (qs.length + 1)) (.lit (.int .i64 q)), ?_, ?_, fun k r hk => ?_, fun i hi => ?_⟩
  · simpa using h'
  · rw [size_put (hD.tidy intK), hn, hs]; simp
  · rw [List.getElem?_append] at hk
    split at hk
    · rename_i hlt
      have hne : numL ((k : Int) + 1) ≠ numL (qs.length + 1) := fun e => by have := numL_inj e; omega
      rw [has_put_other hne, atKey_put_other hne]
      exact h1 k r hk
    · rename_i hge
      have hk0 : k = qs.length := by
        have := (List.getElem?_eq_some_iff.1 hk).1
        simp at this
        omega
      subst hk0
      simp only [Nat.sub_self, List.getElem?_cons_zero, Option.some.injEq] at hk
      subst hk
      exact ⟨has_put_same hD.isMap (isKey_num _) _, atKey_put_same hD.isMap (isKey_num _) _ _⟩
  · simp only [List.length_append, List.length_cons, List.length_nil] at hi
    have hne : numL i ≠ numL (qs.length + 1) := fun e => by have := numL_inj e; omega
    rw [has_put_other hne]
    exact h2 i (by omega)

set_option maxRecDepth 100000 in
/-- a name is looked up -/
theorem NMat.look {w : World} {b : Nat} {l : NameL} (h : NMat w b l) (p : ByteArray) (hp : p.size ≤ maxLen) :
    (Instr.lookup 95 (.map (some b)) (.string p) false).run Tryz.prog w = .ok (.int .i64 (lookN l p)) w := by
  obtain ⟨ha, D, hD, hs, hr⟩ := h
  obtain ⟨c, hrun, hat, -⟩ := hD.lookup_int strK Tryz.underlying95 Tryz.underlying3 (Tryz.zeroValue3 w) (WideMaps.keyOf_string_mk Tryz.underlying9 hp)
  rw [show Lit.string p.data.toList = strL p from rfl, (hr p).2] at hat
  injection hat with hat
  injection hat with _ hat
  rw [hat]
  exact hrun
theorem NMat.len {w : World} {b : Nat} {l : NameL} (h : NMat w b l) (ty : TypeId) : (Builtin.len_ #[95] ty #[.map (some b)]).run Tryz.prog w = .ok (.int .i64 l.length) w := by
  obtain ⟨ha, D, hD, hs, hr⟩ := h
  rw [← hs]
  exact hD.len Tryz.underlying95 ty
set_option maxRecDepth 100000 in
theorem IMat.look {w : World} {b : Nat} {qs : List Nat} (h : IMat w b qs) (i : Nat) (hi : i ≤ 4611686018427387904) :
    (Instr.lookup 96 (.map (some b)) (.int .i64 i) false).run Tryz.prog w = .ok (ptrV qs i) w := by
  obtain ⟨D, hD, hs, h1, h2⟩ := h
  have hwf : (Lit.int .i64 (i : Int)).wf = true := WalkArith.wf_i64 (by omega)
  obtain ⟨v, ps, hrun, hv⟩ := hD.lookup intK Tryz.underlying96 (Tryz.zeroValue108 w) ptrElem_nil (keyOf_int_mk Tryz.underlying3 hwf)
  rw [hrun]
  congr 1
  unfold ptrV
  by_cases h0 : i = 0
  · subst h0
    simp only [if_true]
    rw [show ((0 : Nat) : Int) = 0 from rfl] at hv
    have := h2 0 (.inl (by omega))
    rw [show Lit.int .i64 0 = numL 0 from rfl, atKey_of_not_has this] at hv
    exact ptrElem_inv_nil hv
  · simp only [if_neg h0]
    cases hq : qs[i - 1]? with
    | none =>
      have hl := List.getElem?_eq_none_iff.1 hq
      have := h2 i (.inr (by omega))
      rw [show Lit.int .i64 (i : Int) = numL i from rfl, atKey_of_not_has this] at hv
      exact ptrElem_inv_nil hv
    | some q =>
      have := (h1 (i - 1) q hq).2
      rw [show ((i - 1 : Nat) : Int) + 1 = i by omega] at this
      rw [show Lit.int .i64 (i : Int) = numL i from rfl, this] at hv
      exact ptrElem_inv hv
end Go.Proofs.YtgcfkljooabjjaaGreatDoor

/- A disk in memory. Conditions: none beyond what each lemma states. -/
namespace Go.Proofs.YtgcfkljooabjjaaGreatDoor
open Go.RowKit Go.Maps

/-- where the parts of a disk lie -/
structure Geo where
  nb : Nat
  sb : Option Nat
  ib : Nat
  lv : Value
  tv : Value
  fv : Value
  fb : List Nat
  lb : List Nat
  qs : List Nat
def inoCells (n : Ino) : Array Value := #[.string n.node.path, .int .i64 n.node.kind, .string n.node.data, .int .i64 n.node.mode, .int .i64 n.time, .bool n.dirty]
def didCells (l : List DidP) : List Value := l.flatMap fun d => [.string d.call, .string d.path, .string d.dest]
def fateCells (f : FateP) : List Value := [.int .i64 f.at_, .int .i64 f.what, .int .i64 f.keep, .int .i64 f.torn]
/-- all blocks of a disk but its own and that of its names -/
def Geo.rest (G : Geo) : List Nat := G.sb.toList ++ (G.ib :: (G.lb ++ (G.qs ++ (G.lv.ownBlock.toList ++ (G.tv.ownBlock.toList ++ G.fb)))))
def Geo.parts (G : Geo) : List Nat := G.nb :: G.rest
def diskCells (G : Geo) (D : PDisk) : Array Value :=
  #[.map (some G.nb), .map G.sb, G.lv, .map (some G.ib), .int .i64 (D.inos.length + 1), .bool D.off, .int .i64 D.clock, G.tv, G.fv, .slice none 0 0]
/-- what befalls the disk, in a row that nobody writes -/
def FatesAt (w : World) (v : Value) (fb : List Nat) (fs : List FateP) : Prop :=
  ∃ p c, v = .slice p fs.length c ∧ fs.length ≤ c ∧ (fs ≠ [] → ∃ g, p = some ⟨g, 0, none⟩ ∧ g ∈ fb ∧ g < w.heap.size ∧ ∀ (j : Nat) (f : FateP), fs[j]? = some f → ∀ (i : Nat) (u : Value), (fateCells f)[i]? = some u → w.cell? ⟨g, j * 4 + i, none⟩ = some u)
def SafeAt (w : World) (b : Option Nat) (l : NameL) : Prop := match b with | none => l = [] | some b => NMat w b l
/-- the parts of a disk in memory -/
structure DiskP (w : World) (G : Geo) (D : PDisk) : Prop where
  names : NMat w G.nb D.names
  safe : SafeAt w G.sb D.safe
  later : w.ownsRow 0 95 1 G.lv D.later.length (G.lb.map fun b => .map (some b))
  lbl : G.lb.length = D.later.length
  laters : ∀ (i : Nat) (b : Nat) (l : NameL), G.lb[i]? = some b → D.later[i]? = some l → NMat w b l
  ino : IMat w G.ib G.qs
  qsl : G.qs.length = D.inos.length
  inos : ∀ (i q : Nat) (n : Ino), G.qs[i]? = some q → D.inos[i]? = some n → Blk w q 114 (inoCells n)
  nodup : G.qs.Nodup
  trace : w.ownsRow 0 73 3 G.tv D.trace.length (didCells D.trace)
  fates : FatesAt w G.fv G.fb D.fates
  fbl : ∀ g ∈ G.fb, ∃ cs, Blk w g 23 cs
  apart : G.ib ≠ G.nb ∧ G.sb ≠ some G.ib ∧ G.ib ∉ G.lb
structure DiskM (w : World) (p : Nat) (G : Geo) (D : PDisk) : Prop where
  blk : Blk w p 99 (diskCells G D)
  parts : DiskP w G D

/-! ### all but some blocks is as it was -/
theorem own_offk {w w' : World} {base e sz n : Nat} {v : Value} {xs : List Value} {k : List Nat} (h : w.ownsRow base e sz v n xs) (ho : Off k w w') (hv : ∀ b ∈ v.ownBlock.toList, b ∉ k) : w'.ownsRow base e sz v n xs := by
  refine ⟨h.1, ?_⟩
  rcases h.2 with h | ⟨g, cap, cur, h1, h2, h3, h4⟩
  · exact .inl h
  · subst h1
    have hlt : g < w.heap.size := (Array.getElem?_eq_some_iff.1 h3).1
    exact .inr ⟨g, cap, cur, rfl, h2, (ho.block g hlt (hv g (by simp [Value.ownBlock]))).trans h3, h4⟩
theorem own_lt {w : World} {base e sz n : Nat} {v : Value} {xs : List Value} (h : w.ownsRow base e sz v n xs) : ∀ b ∈ v.ownBlock.toList, ∃ cs, Blk w b e cs := by
  rcases h.2 with ⟨rfl, _⟩ | ⟨g, cap, cur, rfl, h2, h3, h4⟩
  · intro b hb; simp [Value.ownBlock] at hb
  · intro b hb
    simp [Value.ownBlock] at hb
    subst hb
    exact ⟨_, h3⟩
theorem FatesAt.off {w w' : World} {v : Value} {fb : List Nat} {fs : List FateP} {k : List Nat} (h : FatesAt w v fb fs) (ho : Off k w w') (hb : ∀ b ∈ fb, b ∉ k) : FatesAt w' v fb fs := by
  obtain ⟨p, c, rfl, hc, hf⟩ := h
  refine ⟨p, c, rfl, hc, fun hne => ?_⟩
  obtain ⟨g, rfl, hg, hlt, hcell⟩ := hf hne
  refine ⟨g, rfl, hg, Nat.lt_of_lt_of_le hlt ho.size, fun j f hj i u hu => ?_⟩
  rw [ho.cell (p := ⟨g, j * 4 + i, none⟩) hlt (hb g hg)]
  exact hcell j f hj i u hu
theorem SafeAt.off {w w' : World} {b : Option Nat} {l : NameL} {k : List Nat} (h : SafeAt w b l) (ho : Off k w w') (hb : ∀ x ∈ b.toList, x ∉ k) : SafeAt w' b l := by
  cases b with
  | none => exact h
  | some b => exact NMat.off h ho (hb b (by simp))
section
variable {w w' : World} {p : Nat} {G : Geo} {D : PDisk} {k : List Nat}
theorem mem_rest {b : Nat} : b ∈ G.rest ↔ b ∈ G.sb.toList ∨ b = G.ib ∨ b ∈ G.lb ∨ b ∈ G.qs ∨ b ∈ G.lv.ownBlock.toList ∨ b ∈ G.tv.ownBlock.toList ∨ b ∈ G.fb := by
  unfold Geo.rest
  simp only [List.mem_append, List.mem_cons]
theorem DiskP.off (h : DiskP w G D) (ho : Off k w w') (hb : ∀ b ∈ G.parts, b ∉ k) : DiskP w' G D where
  names := h.names.off ho (hb _ (List.mem_cons_self ..))
  safe := h.safe.off ho (fun x hx => hb x (List.mem_cons_of_mem _ (mem_rest.2 (.inl hx))))
  later := own_offk h.later ho (fun x hx => hb x (List.mem_cons_of_mem _ (mem_rest.2 (.inr (.inr (.inr (.inr (.inl hx))))))))
  lbl := h.lbl
  laters := fun i b l h1 h2 => (h.laters i b l h1 h2).off ho (hb b (List.mem_cons_of_mem _ (mem_rest.2 (.inr (.inr (.inl (List.mem_of_getElem? h1)))))))
  ino := h.ino.off ho (hb _ (List.mem_cons_of_mem _ (mem_rest.2 (.inr (.inl rfl)))))
  qsl := h.qsl
  inos := fun i q n h1 h2 => (h.inos i q n h1 h2).off ho (hb q (List.mem_cons_of_mem _ (mem_rest.2 (.inr (.inr (.inr (.inl (List.mem_of_getElem? h1))))))))
  nodup := h.nodup
  trace := own_offk h.trace ho (fun x hx => hb x (List.mem_cons_of_mem _ (mem_rest.2 (.inr (.inr (.inr (.inr (.inr (.inl hx)))))))))
  fates := h.fates.off ho (fun x hx => hb x (List.mem_cons_of_mem _ (mem_rest.2 (.inr (.inr (.inr (.inr (.inr (.inr hx)))))))))
  fbl := fun g hg => by
    obtain ⟨cs, hB⟩ := h.fbl g hg
    exact ⟨cs, hB.off ho (hb g (List.mem_cons_of_mem _ (mem_rest.2 (.inr (.inr (.inr (.inr (.inr (.inr hg)))))))))⟩
  apart := h.apart
theorem DiskM.off (h : DiskM w p G D) (ho : Off k w w') (hp : p ∉ k) (hb : ∀ b ∈ G.parts, b ∉ k) : DiskM w' p G D := ⟨h.blk.off ho hp, h.parts.off ho hb⟩
/-- a block that is a map -/
def IsMapB (w : World) (b : Nat) : Prop := ∃ es c, w.heap[b]? = some (.map es c)
theorem NMat.isMap {b : Nat} {l : NameL} (h : NMat w b l) : IsMapB w b := by
  obtain ⟨_, D, ⟨es, c, hh, _⟩, _⟩ := h; exact ⟨es, c, hh⟩
theorem IMat.isMap {b : Nat} {l : List Nat} (h : IMat w b l) : IsMapB w b := by
  obtain ⟨D, ⟨es, c, hh, _⟩, _⟩ := h; exact ⟨es, c, hh⟩
theorem IsMapB.ne {b g : Nat} {t : TypeId} {cs : Array Value} (h : IsMapB w b) (hB : Blk w g t cs) : b ≠ g := by
  rintro rfl
  obtain ⟨es, c, hh⟩ := h
  unfold Blk at hB
  rw [hh] at hB
  cases hB
theorem IsMapB.lt {b : Nat} (h : IsMapB w b) : b < w.heap.size := by
  obtain ⟨es, c, hh⟩ := h
  exact (Array.getElem?_eq_some_iff.1 hh).1
/-- what each part is: a map, or a block of inodes, of names, of what was asked, of fates -/
theorem DiskP.kind (h : DiskP w G D) {b : Nat} (hb : b ∈ G.parts) : IsMapB w b ∨ (∃ cs, Blk w b 114 cs) ∨ (∃ cs, Blk w b 95 cs) ∨ (∃ cs, Blk w b 73 cs) ∨ (∃ cs, Blk w b 23 cs) := by
  rcases List.mem_cons.1 hb with rfl | hb
  · exact .inl h.names.isMap
  · rcases mem_rest.1 hb with hb | rfl | hb | hb | hb | hb | hb
    · have := h.safe
      cases hs : G.sb with
      | none => rw [hs] at hb; simp at hb
      | some s =>
        rw [hs] at hb this
        simp at hb
        subst hb
        exact .inl (NMat.isMap this)
    · exact .inl h.ino.isMap
    · obtain ⟨i, hi, rfl⟩ := List.getElem_of_mem hb
      have hl : i < D.later.length := by rw [← h.lbl]; exact hi
      exact .inl (h.laters i _ _ (List.getElem?_eq_getElem hi) (List.getElem?_eq_getElem hl)).isMap
    · obtain ⟨i, hi, rfl⟩ := List.getElem_of_mem hb
      have hl : i < D.inos.length := by rw [← h.qsl]; exact hi
      exact .inr (.inl ⟨_, h.inos i _ _ (List.getElem?_eq_getElem hi) (List.getElem?_eq_getElem hl)⟩)
    · exact .inr (.inr (.inl (own_lt h.later b hb)))
    · exact .inr (.inr (.inr (.inl (own_lt h.trace b hb))))
    · exact .inr (.inr (.inr (.inr (h.fbl b hb))))
theorem DiskP.lt (h : DiskP w G D) {b : Nat} (hb : b ∈ G.parts) : b < w.heap.size := by
  rcases h.kind hb with h | ⟨_, h⟩ | ⟨_, h⟩ | ⟨_, h⟩ | ⟨_, h⟩
  · exact h.lt
  all_goals exact h.lt
/-- a block of a type that no part has is no part -/
theorem DiskP.far (h : DiskP w G D) {g : Nat} {t : TypeId} {cs : Array Value} (hB : Blk w g t cs) (ht : t ≠ 114 ∧ t ≠ 95 ∧ t ≠ 73 ∧ t ≠ 23) : g ∉ G.parts := by
  intro hb
  rcases h.kind hb with h | ⟨_, h⟩ | ⟨_, h⟩ | ⟨_, h⟩ | ⟨_, h⟩
  · exact h.ne hB rfl
  · exact h.ne_ hB (Ne.symm ht.1) rfl
  · exact h.ne_ hB (Ne.symm ht.2.1) rfl
  · exact h.ne_ hB (Ne.symm ht.2.2.1) rfl
  · exact h.ne_ hB (Ne.symm ht.2.2.2) rfl
theorem DiskM.far (h : DiskM w p G D) : p ∉ G.parts := h.parts.far h.blk (by decide)
theorem DiskM.drew (h : DiskM w p G D) : DiskM w.drew p G D := h.off (k := []) ((Off.refl _ _).drew) (by simp) (by simp)
theorem DiskM.alloc (h : DiskM w p G D) (o : Obj) : DiskM (w.alloc o) p G D := h.off (k := []) ((Off.refl _ _).alloc _) (by simp) (by simp)
end
/-- from a disk D at p in w to a disk D' in w' -/
def DiskTo (w : World) (p : Nat) (L : List Nat) (w' : World) (D : PDisk) : Prop := ∃ G, DiskM w' p G D ∧ Off (p :: L) w w' ∧ (∀ b ∈ G.parts, b ∈ L ∨ w.heap.size ≤ b) ∧ G.sb.isSome = true
theorem DiskTo.refl {w : World} {p : Nat} {G : Geo} {D : PDisk} (h : DiskM w p G D) (hs : G.sb.isSome = true) : DiskTo w p G.parts w D := ⟨G, h, Off.refl _ _, fun _ hb => .inl hb, hs⟩
theorem DiskTo.next {w w1 w2 : World} {p : Nat} {L : List Nat} {G : Geo} {D' : PDisk} (ho : Off (p :: L) w w1) (hp : ∀ b ∈ G.parts, b ∈ L ∨ w.heap.size ≤ b) (h : DiskTo w1 p G.parts w2 D') : DiskTo w p L w2 D' := by
  obtain ⟨G2, hM, h2, h3, h4⟩ := h
  refine ⟨G2, hM, ho.trans h2 (fun x hx hm => ?_), fun b hb => ?_, h4⟩
  · rcases List.mem_cons.1 hm with rfl | hm
    · exact List.mem_cons_self ..
    · rcases hp x hm with h | h
      · exact List.mem_cons_of_mem _ h
      · omega
  · rcases h3 b hb with h | h
    · exact hp b h
    · exact .inr (Nat.le_trans ho.size h)
end Go.Proofs.YtgcfkljooabjjaaGreatDoor

/- A disk's at, dir, parent, gone, there; no, first: the walks. Conditions: what each contract states. -/
namespace Go.Proofs.YtgcfkljooabjjaaGreatDoor
open Go.RowKit Go.Op

theorem DiskM.drewN {w : World} {p : Nat} {G : Geo} {D : PDisk} (h : DiskM w p G D) (n : Nat) : DiskM (w.drewN n) p G D := h.off (k := []) ((Off.refl _ _).drewN n) (by simp) (by simp)
set_option maxRecDepth 100000 in
set_option maxHeartbeats 4000000 in
theorem dat_any (p : Nat) (G : Geo) (D : PDisk) (path : ByteArray) (w : World) (hM : DiskM w p G D) (hs : path.size ≤ maxLen) (hi : lookN D.names path ≤ 4611686018427387904) :
    Calls Tryz.prog 48 #[.pointer (some ⟨p, 0, none⟩), .string path] w fun e w' => e = .returned (ptrV G.qs (lookN D.names path)) ∧ Off [] w w' := by
  have h1 : ∀ n, (Instr.lookup 95 (.map (some G.nb)) (.string path) false).run Tryz.prog (w.drewN n) = .ok (.int .i64 (lookN D.names path)) (w.drewN n) := fun n => (hM.drewN n).parts.names.look path hs
  have h2 : ∀ n, (Instr.lookup 96 (.map (some G.ib)) (.int .i64 (lookN D.names path)) false).run Tryz.prog (w.drewN n) = .ok (ptrV G.qs (lookN D.names path)) (w.drewN n) := fun n => (hM.drewN n).parts.ino.look _ hi
  have hc := hM.blk.cell
  generalize ptrV G.qs (lookN D.names path) = v at h2 ⊢
  generalize (lookN D.names path : Int) = i at h1 h2
  unfold diskCells at hc
  clear hM hs hi
  go_enter Tryz.func48, Tryz.ntmps48
  go_wp2_with fail
  go_quiet (fail)
  go_wp2_with fail
  go_ret
  exact ⟨rfl, (Off.refl _ _).drewN _⟩
/-- what a reason is in memory -/
def rsn (x : Bool × Int) : Value := .agg #[.bool x.1, .int .i64 x.2]
theorem at_none {w : World} {p : Nat} {G : Geo} {D : PDisk} {path : ByteArray} (h : DiskM w p G D) (ha : D.at_ path = none) : ptrV G.qs (lookN D.names path) = .pointer none := by
  unfold PDisk.at_ PDisk.inode at ha
  unfold ptrV
  by_cases h0 : lookN D.names path = 0
  · rw [h0]; rfl
  · rw [if_neg h0] at ha ⊢
    have := List.getElem?_eq_none_iff.1 ha
    rw [List.getElem?_eq_none_iff.2 (by rw [h.parts.qsl]; exact this)]
theorem at_some {w : World} {p : Nat} {G : Geo} {D : PDisk} {path : ByteArray} {n : Ino} (h : DiskM w p G D) (ha : D.at_ path = some n) :
    ∃ q, ptrV G.qs (lookN D.names path) = .pointer (some ⟨q, 0, none⟩) ∧ Blk w q 114 (inoCells n) ∧ lookN D.names path ≠ 0 ∧ G.qs[lookN D.names path - 1]? = some q ∧ D.inos[lookN D.names path - 1]? = some n := by
  unfold PDisk.at_ PDisk.inode at ha
  unfold ptrV
  by_cases h0 : lookN D.names path = 0
  · rw [if_pos h0] at ha; cases ha
  · rw [if_neg h0] at ha ⊢
    have hl := (List.getElem?_eq_some_iff.1 ha).1
    have hq : lookN D.names path - 1 < G.qs.length := by rw [h.parts.qsl]; exact hl
    refine ⟨G.qs[lookN D.names path - 1], by rw [List.getElem?_eq_getElem hq], h.parts.inos _ _ n (List.getElem?_eq_getElem hq) ha, h0, List.getElem?_eq_getElem hq, ha⟩
theorem dat_none (p : Nat) (G : Geo) (D : PDisk) (path : ByteArray) (w : World) (hM : DiskM w p G D) (hs : path.size ≤ maxLen) (hi : lookN D.names path ≤ 4611686018427387904) (ha : D.at_ path = none) :
    Calls Tryz.prog 48 #[.pointer (some ⟨p, 0, none⟩), .string path] w fun e w' => e = .returned (.pointer none) ∧ Off [] w w' := by
  have := dat_any p G D path w hM hs hi
  rw [at_none hM ha] at this
  exact this
theorem dat_some (p : Nat) (G : Geo) (D : PDisk) (path : ByteArray) (w : World) (hM : DiskM w p G D) (hs : path.size ≤ maxLen) (hi : lookN D.names path ≤ 4611686018427387904) (q : Nat) (ha : ptrV G.qs (lookN D.names path) = .pointer (some ⟨q, 0, none⟩)) :
    Calls Tryz.prog 48 #[.pointer (some ⟨p, 0, none⟩), .string path] w fun e w' => e = .returned (.pointer (some ⟨q, 0, none⟩)) ∧ Off [] w w' := by
  have := dat_any p G D path w hM hs hi
  rw [ha] at this
  exact this
theorem emp_ne {s : ByteArray} (h : s ≠ ⟨#[]⟩) : s.toList.isEmpty = false ∧ ¬ s.toList = [] := by
  have hn : ¬ s.toList = [] := by
    rw [toList_str]
    intro e
    exact h (str_inj e)
  exact ⟨by rw [List.isEmpty_eq_false_iff]; exact hn, hn⟩
set_option maxRecDepth 100000 in
set_option maxHeartbeats 4000000 in
theorem ddir_v (p : Nat) (G : Geo) (D : PDisk) (path : ByteArray) (w : World) (hM : DiskM w p G D) (hs : path.size ≤ maxLen) (hi : lookN D.names path ≤ 4611686018427387904) (v : Bool) (hv : D.dir path = v) :
    Calls Tryz.prog 54 #[.pointer (some ⟨p, 0, none⟩), .string path] w fun e w' => e = .returned (.bool v) ∧ Off [] w w' := by
  unfold PDisk.dir at hv
  have HC := Lib.hid (dat_any p G D path w hM hs hi)
  by_cases hp : path = ⟨#[]⟩
  · rw [decide_eq_true hp, Bool.true_or] at hv
    subst hv
    subst hp
    have HV : Hid (∃ q, ptrV G.qs (lookN D.names (⟨#[]⟩ : ByteArray)) = q) := Lib.hid ⟨_, rfl⟩
    generalize ptrV G.qs (lookN D.names (⟨#[]⟩ : ByteArray)) = v at HC
    clear hM hs hi HV
    go_enter Tryz.func54, Tryz.ntmps54
    go_wp2_with fail
    refine HC.out.mono ?_
    rintro e w1 ⟨rfl, ho⟩
    go_wp2_with fail
    go_ret
    exact ⟨rfl, ho⟩
  · obtain ⟨hp1, hp2⟩ := emp_ne hp
    rw [decide_eq_false hp, Bool.false_or] at hv
    cases ha : D.at_ path with
    | none =>
      rw [ha] at hv
      subst hv
      rw [at_none hM ha] at HC
      clear ha hM hs hi hp
      go_enter Tryz.func54, Tryz.ntmps54
      go_wp2_with fail
      refine HC.out.mono ?_
      rintro e w1 ⟨rfl, ho⟩
      go_wp2_with fail
      go_ret
      exact ⟨rfl, ho⟩
    | some n =>
      rw [ha] at hv
      obtain ⟨q, hq, hB, -⟩ := at_some hM ha
      rw [hq] at HC
      have HV := Lib.hid hv
      have HB := Lib.hid hB
      clear ha hv hM hs hi hq hB hp
      go_enter Tryz.func54, Tryz.ntmps54
      go_wp2_with fail
      refine HC.out.mono ?_
      rintro e w1 ⟨rfl, ho⟩
      have hB := HB.out.off ho (by simp)
      have hc := hB.cell
      unfold inoCells at hc
      go_wp2_with fail
      go_ret
      refine ⟨?_, ho⟩
      rw [← HV.out]
      rfl
set_option maxRecDepth 100000 in
theorem dno_any (path : ByteArray) (w : World) (hT : Tabs w) :
    Calls Tryz.prog 49 #[.string path] w fun e w' => e = .returned (rsn (PDisk.no path)) ∧ Off [] w w' := by
  unfold PDisk.no rsn
  obtain ⟨v, hv⟩ : ∃ v, okPath (str path) = v := ⟨_, rfl⟩
  have HP := Lib.hid (fun (W : World) (h : Off [] w W) => path_v path W (hT.off h) v hv)
  rw [hv]
  clear hv hT
  go_enter Tryz.func49, Tryz.ntmps49
  go_wp2_with fail
  have hB := Blk.new w 111 #[.bool false, .int .i64 0]
  have hof := (Off.refl [] w).alloc (.cells #[.bool false, .int .i64 0] 111)
  refine (HP.out _ hof).mono ?_
  rintro e w1 ⟨rfl, ho⟩
  have hB := hB.off ho (by simp)
  have ho := hof.trans_nil ho
  have hc := hB.cell
  have hf := hB.frozen
  have hl := hB.lt
  clear hof
  go_wp2_with fail
  have hB2 := (hB.set_ 0 (.bool (!v))).set_ 1 (.int .i64 11)
  have ho2 := (ho.setCell (p := ⟨w.heap.size, 0, none⟩) (.inl (Nat.le_refl _)) (.bool (!v))).setCell (p := ⟨w.heap.size, 1, none⟩) (.inl (Nat.le_refl _)) (.int .i64 11)
  have hc2 := hB2.cell
  clear hB hB2 ho hc hf hl
  refine bodyPost_ret (v := .agg #[.bool (!v), .int .i64 11]) ?_ rfl ?_
  · have hres : Tryz.f49.results = #[.cell 2 111] := rfl
    simp only [results, hres]
    go_simp
  · exact ⟨rfl, ho2⟩
end Go.Proofs.YtgcfkljooabjjaaGreatDoor

/- A disk's parent, gone, there; first: the walks. Conditions: what each contract states. -/
namespace Go.Proofs.YtgcfkljooabjjaaGreatDoor
open Go.RowKit Go.Op

set_option maxRecDepth 100000 in
set_option maxHeartbeats 4000000 in
theorem dgone_any (p : Nat) (G : Geo) (D : PDisk) (path : ByteArray) (w : World) (hM : DiskM w p G D) (hs : path.size ≤ maxLen) (hi : lookN D.names path ≤ 4611686018427387904) :
    Calls Tryz.prog 53 #[.pointer (some ⟨p, 0, none⟩), .string path] w fun e w' => e = .returned (rsn (D.gone path)) ∧ Off [] w w' := by
  unfold PDisk.gone rsn
  cases ha : D.at_ path with
  | none =>
    have HC := Lib.hid (fun (W : World) (h : Off [] w W) => dat_none p G D path W (hM.off h (by simp) (by simp)) hs hi ha)
    clear hM hs hi ha
    go_enter Tryz.func53, Tryz.ntmps53
    go_wp2_with fail
    have hB := Blk.new w 111 #[.bool false, .int .i64 0]
    have hof := (Off.refl [] w).alloc (.cells #[.bool false, .int .i64 0] 111)
    refine (HC.out _ hof).mono ?_
    rintro e w1 ⟨rfl, ho⟩
    have hB := hB.off ho (by simp)
    have ho := hof.trans_nil ho
    have hc := hB.cell
    have hf := hB.frozen
    have hl := hB.lt
    clear hof
    go_wp2_with fail
    have hB2 := (hB.set_ 0 (.bool true)).set_ 1 (.int .i64 74)
    have ho2 := (ho.setCell (p := ⟨w.heap.size, 0, none⟩) (.inl (Nat.le_refl _)) (.bool true)).setCell (p := ⟨w.heap.size, 1, none⟩) (.inl (Nat.le_refl _)) (.int .i64 74)
    have hc2 := hB2.cell
    clear hB hB2 ho hc hf hl
    refine bodyPost_ret (v := .agg #[.bool true, .int .i64 74]) ?_ rfl ?_
    · have hres : Tryz.f53.results = #[.cell 4 111] := rfl
      simp only [results, hres]
      go_simp
    · exact ⟨rfl, ho2⟩
  | some n =>
    obtain ⟨q, hq, -⟩ := at_some hM ha
    have HC := Lib.hid (fun (W : World) (h : Off [] w W) => dat_some p G D path W (hM.off h (by simp) (by simp)) hs hi q hq)
    clear hM hs hi ha hq
    go_enter Tryz.func53, Tryz.ntmps53
    go_wp2_with fail
    have hB := Blk.new w 111 #[.bool false, .int .i64 0]
    have hof := (Off.refl [] w).alloc (.cells #[.bool false, .int .i64 0] 111)
    refine (HC.out _ hof).mono ?_
    rintro e w1 ⟨rfl, ho⟩
    have hB := hB.off ho (by simp)
    have ho := hof.trans_nil ho
    have hc := hB.cell
    have hf := hB.frozen
    have hl := hB.lt
    clear hof
    go_wp2_with fail
    have hB2 := (hB.set_ 0 (.bool false)).set_ 1 (.int .i64 74)
    have ho2 := (ho.setCell (p := ⟨w.heap.size, 0, none⟩) (.inl (Nat.le_refl _)) (.bool false)).setCell (p := ⟨w.heap.size, 1, none⟩) (.inl (Nat.le_refl _)) (.int .i64 74)
    have hc2 := hB2.cell
    clear hB hB2 ho hc hf hl
    refine bodyPost_ret (v := .agg #[.bool false, .int .i64 74]) ?_ rfl ?_
    · have hres : Tryz.f53.results = #[.cell 4 111] := rfl
      simp only [results, hres]
      go_simp
    · exact ⟨rfl, ho2⟩
set_option maxRecDepth 100000 in
set_option maxHeartbeats 4000000 in
theorem dthere_any (p : Nat) (G : Geo) (D : PDisk) (path : ByteArray) (w : World) (hM : DiskM w p G D) (hs : path.size ≤ maxLen) (hi : lookN D.names path ≤ 4611686018427387904) :
    Calls Tryz.prog 107 #[.pointer (some ⟨p, 0, none⟩), .string path] w fun e w' => e = .returned (rsn (D.there path)) ∧ Off [] w w' := by
  unfold PDisk.there rsn
  cases ha : D.at_ path with
  | none =>
    have HC := Lib.hid (fun (W : World) (h : Off [] w W) => dat_none p G D path W (hM.off h (by simp) (by simp)) hs hi ha)
    clear hM hs hi ha
    go_enter Tryz.func107, Tryz.ntmps107
    go_wp2_with fail
    have hB := Blk.new w 111 #[.bool false, .int .i64 0]
    have hof := (Off.refl [] w).alloc (.cells #[.bool false, .int .i64 0] 111)
    refine (HC.out _ hof).mono ?_
    rintro e w1 ⟨rfl, ho⟩
    have hB := hB.off ho (by simp)
    have ho := hof.trans_nil ho
    have hc := hB.cell
    have hf := hB.frozen
    have hl := hB.lt
    clear hof
    go_wp2_with fail
    have hB2 := (hB.set_ 0 (.bool false)).set_ 1 (.int .i64 72)
    have ho2 := (ho.setCell (p := ⟨w.heap.size, 0, none⟩) (.inl (Nat.le_refl _)) (.bool false)).setCell (p := ⟨w.heap.size, 1, none⟩) (.inl (Nat.le_refl _)) (.int .i64 72)
    have hc2 := hB2.cell
    clear hB hB2 ho hc hf hl
    refine bodyPost_ret (v := .agg #[.bool false, .int .i64 72]) ?_ rfl ?_
    · have hres : Tryz.f107.results = #[.cell 4 111] := rfl
      simp only [results, hres]
      go_simp
    · exact ⟨rfl, ho2⟩
  | some n =>
    obtain ⟨q, hq, -⟩ := at_some hM ha
    have HC := Lib.hid (fun (W : World) (h : Off [] w W) => dat_some p G D path W (hM.off h (by simp) (by simp)) hs hi q hq)
    clear hM hs hi ha hq
    go_enter Tryz.func107, Tryz.ntmps107
    go_wp2_with fail
    have hB := Blk.new w 111 #[.bool false, .int .i64 0]
    have hof := (Off.refl [] w).alloc (.cells #[.bool false, .int .i64 0] 111)
    refine (HC.out _ hof).mono ?_
    rintro e w1 ⟨rfl, ho⟩
    have hB := hB.off ho (by simp)
    have ho := hof.trans_nil ho
    have hc := hB.cell
    have hf := hB.frozen
    have hl := hB.lt
    clear hof
    go_wp2_with fail
    have hB2 := (hB.set_ 0 (.bool true)).set_ 1 (.int .i64 72)
    have ho2 := (ho.setCell (p := ⟨w.heap.size, 0, none⟩) (.inl (Nat.le_refl _)) (.bool true)).setCell (p := ⟨w.heap.size, 1, none⟩) (.inl (Nat.le_refl _)) (.int .i64 72)
    have hc2 := hB2.cell
    clear hB hB2 ho hc hf hl
    refine bodyPost_ret (v := .agg #[.bool true, .int .i64 72]) ?_ rfl ?_
    · have hres : Tryz.f107.results = #[.cell 4 111] := rfl
      simp only [results, hres]
      go_simp
    · exact ⟨rfl, ho2⟩
set_option maxRecDepth 100000 in
set_option maxHeartbeats 4000000 in
theorem dparent_any (p : Nat) (G : Geo) (D : PDisk) (path : ByteArray) (w : World) (hM : DiskM w p G D) (hs : path.size ≤ 1000000) (hi : ∀ x, lookN D.names x ≤ 4611686018427387904) (hT : Tabs w) :
    Calls Tryz.prog 50 #[.pointer (some ⟨p, 0, none⟩), .string path] w fun e w' => e = .returned (rsn (D.parentE path)) ∧ Off [] w w' := by
  unfold PDisk.parentE rsn
  obtain ⟨v, hv⟩ : ∃ v, D.dir (bs (parent (str path))) = v := ⟨_, rfl⟩
  have HP := Lib.hid (fun (W : World) (h : Off [] w W) => parent_any path W hs (hT.off h))
  have HD := Lib.hid (fun (W : World) (h : Off [] w W) => ddir_v p G D (bs (parent (str path))) W (hM.off h (by simp) (by simp)) (Nat.le_trans (bs_parent_size path) (Nat.le_trans hs (by decide))) (hi _) v hv)
  rw [hv]
  generalize bs (parent (str path)) = u at HP HD
  clear hv hT hM hs hi
  go_enter Tryz.func50, Tryz.ntmps50
  go_wp2_with fail
  have hB := Blk.new w 111 #[.bool false, .int .i64 0]
  have hof := (Off.refl [] w).alloc (.cells #[.bool false, .int .i64 0] 111)
  refine (HP.out _ hof).mono ?_
  rintro e w1 ⟨rfl, ho⟩
  have hB := hB.off ho (by simp)
  have hof := hof.trans_nil ho
  clear ho
  go_wp2_with fail
  refine (HD.out _ hof).mono ?_
  rintro e w2 ⟨rfl, ho⟩
  have hB := hB.off ho (by simp)
  have ho := hof.trans_nil ho
  have hc := hB.cell
  have hf := hB.frozen
  have hl := hB.lt
  clear hof
  go_wp2_with fail
  have hB2 := (hB.set_ 0 (.bool (!v))).set_ 1 (.int .i64 62)
  have ho2 := (ho.setCell (p := ⟨w.heap.size, 0, none⟩) (.inl (Nat.le_refl _)) (.bool (!v))).setCell (p := ⟨w.heap.size, 1, none⟩) (.inl (Nat.le_refl _)) (.int .i64 62)
  have hc2 := hB2.cell
  clear hB hB2 ho hc hf hl
  refine bodyPost_ret (v := .agg #[.bool (!v), .int .i64 62]) ?_ rfl ?_
  · have hres : Tryz.f50.results = #[.cell 4 111] := rfl
    simp only [results, hres]
    go_simp
  · exact ⟨rfl, ho2⟩
/-- reasons in memory -/
def RsnsAt (w : World) (g : Nat) (l : List (Bool × Int)) : Prop := g < w.heap.size ∧ ∀ (j : Nat) (x : Bool × Int), l[j]? = some x → w.cell? ⟨g, j * 2, none⟩ = some (.bool x.1) ∧ w.cell? ⟨g, j * 2 + 1, none⟩ = some (.int .i64 x.2)
theorem RsnsAt.off {w w' : World} {g : Nat} {l : List (Bool × Int)} (h : RsnsAt w g l) (ho : Off [] w w') : RsnsAt w' g l :=
  ⟨Nat.lt_of_lt_of_le h.1 ho.size, fun j x hj => ⟨(ho.cell (p := ⟨g, j * 2, none⟩) h.1 (by simp)).trans (h.2 j x hj).1, (ho.cell (p := ⟨g, j * 2 + 1, none⟩) h.1 (by simp)).trans (h.2 j x hj).2⟩⟩
set_option maxRecDepth 100000 in
set_option maxHeartbeats 4000000 in
theorem dfirst_any (g c n : Nat) (l : List (Bool × Int)) (w : World) (h : RsnsAt w g l) (hn : l.length = n) (hb : n ≤ 1000000) :
    Calls Tryz.prog 52 #[.slice (some ⟨g, 0, none⟩) n c] w fun e w' => e = .returned (.int .i64 (firstE l)) ∧ Off [] w w' := by
  have HN := Lib.hid hn
  have HR := Lib.hid h
  obtain ⟨v, hv⟩ : ∃ v, firstE l = v := ⟨_, rfl⟩
  have HV := Lib.hid hv
  rw [hv]
  clear hn h hv
  go_enter Tryz.func52, Tryz.ntmps52
  go_wp2_with fail
  go_loopw [7] (fun x wr => ∃ i : Nat, x = .int .i64 i ∧ i ≤ n ∧ Off [] w wr ∧ Hid (firstE (l.drop i) = v)) (fun x _ => n - (intOf x).toNat)
  case atStart => exact ⟨0, rfl, by omega, Off.refl _ _, HV⟩
  case round =>
    obtain ⟨i, rfl, hi, ho, HD⟩ := hrel
    by_cases hlt : i < n
    · have hil : i < l.length := by rw [HN.out]; exact hlt
      have hx := List.getElem?_eq_getElem hil
      obtain ⟨h1, h2⟩ := (HR.out.off ho).2 i _ hx
      have hgl := (HR.out.off ho).1
      have hd := HD.out
      rw [List.drop_eq_getElem_cons hil] at hd
      generalize l[i] = x at *
      obtain ⟨b, e⟩ := x
      simp only [firstE] at hd
      clear hx
      cases b
      · have HD2 := Lib.hid (show firstE (l.drop (i + 1)) = v by simpa using hd)
        clear hd HD
        go_wp2_with fail
        exact ⟨⟨i + 1, by congr 1, by omega, (ho.alloc _).trans_nil (by first | exact Off.refl _ _), HD2⟩, by simp only [intOf]; omega⟩
      · obtain rfl : e = v := by simpa using hd
        clear HD
        go_wp2_with fail
        go_ret
        exact ⟨rfl, ho.alloc _⟩
    · obtain rfl : i = n := by omega
      have hv : 0 = v := by
        rw [← HD.out, List.drop_eq_nil_of_le (by rw [HN.out]; exact Nat.le_refl _)]; rfl
      subst hv
      clear HD HV
      go_wp2_with fail
      go_ret
      exact ⟨rfl, ho⟩
end Go.Proofs.YtgcfkljooabjjaaGreatDoor

/- A disk's make: a new inode: the walk. Conditions: what the contract states. -/
namespace Go.Proofs.YtgcfkljooabjjaaGreatDoor
open Go.RowKit Go.Op Go.Maps

theorem DiskP.addIno {w w' : World} {G : Geo} {D : PDisk} {k : List Nat} {q : Nat} {n : Ino} (h : DiskP w G D) (ho : Off k w w') (hk : ∀ b ∈ G.parts, b ∈ k → b = G.ib)
    (hI : IMat w' G.ib (G.qs ++ [q])) (hB : Blk w' q 114 (inoCells n)) (hq : w.heap.size ≤ q) : DiskP w' { G with qs := G.qs ++ [q] } { D with inos := D.inos ++ [n] } := by
  have ne : ∀ b ∈ G.parts, b ≠ G.ib → b ∉ k := fun b hb hne hm => hne (hk b hb hm)
  have hib := h.ino.isMap
  have r1 : ∀ b ∈ G.rest, b ∈ G.parts := fun b hb => List.mem_cons_of_mem _ hb
  exact {
    names := h.names.off ho (ne _ (List.mem_cons_self ..) (Ne.symm h.apart.1))
    safe := h.safe.off ho (fun x hx => ne x (r1 _ (mem_rest.2 (.inl hx))) (fun e => h.apart.2.1 (by subst e; simpa using hx)))
    later := own_offk h.later ho (fun x hx => ne x (r1 _ (mem_rest.2 (.inr (.inr (.inr (.inr (.inl hx))))))) (by obtain ⟨cs, hb⟩ := own_lt h.later x hx; exact Ne.symm (hib.ne hb)))
    lbl := h.lbl
    laters := fun i b l h1 h2 => (h.laters i b l h1 h2).off ho (ne b (r1 _ (mem_rest.2 (.inr (.inr (.inl (List.mem_of_getElem? h1)))))) (fun e => h.apart.2.2 (by subst e; exact List.mem_of_getElem? h1)))
    ino := hI
    qsl := by simp [h.qsl]
    inos := fun i r x h1 h2 => by
      rw [List.getElem?_append] at h1 h2
      have := h.qsl
      split at h1
      · rename_i hlt
        rw [if_pos (by omega)] at h2
        have hb := h.inos i r x h1 h2
        exact hb.off ho (ne r (r1 _ (mem_rest.2 (.inr (.inr (.inr (.inl (List.mem_of_getElem? h1))))))) (Ne.symm (hib.ne hb)))
      · rename_i hge
        rw [if_neg (by omega)] at h2
        have e1 : i - G.qs.length = 0 := by
          have := (List.getElem?_eq_some_iff.1 h1).1
          simp at this
          omega
        have e2 : i - D.inos.length = 0 := by omega
        rw [e1] at h1
        rw [e2] at h2
        simp at h1 h2
        subst h1; subst h2
        exact hB
    nodup := by
      rw [List.nodup_append]
      refine ⟨h.nodup, by simp, fun a ha b hb => ?_⟩
      simp at hb
      subst hb
      have := h.lt (r1 _ (mem_rest.2 (.inr (.inr (.inr (.inl ha))))))
      omega
    trace := own_offk h.trace ho (fun x hx => ne x (r1 _ (mem_rest.2 (.inr (.inr (.inr (.inr (.inr (.inl hx)))))))) (by obtain ⟨cs, hb⟩ := own_lt h.trace x hx; exact Ne.symm (hib.ne hb)))
    fates := h.fates.off ho (fun x hx => ne x (r1 _ (mem_rest.2 (.inr (.inr (.inr (.inr (.inr (.inr hx)))))))) (by obtain ⟨cs, hb⟩ := h.fbl x hx; exact Ne.symm (hib.ne hb)))
    fbl := fun g hg => by
      obtain ⟨cs, hb⟩ := h.fbl g hg
      exact ⟨cs, hb.off ho (ne g (r1 _ (mem_rest.2 (.inr (.inr (.inr (.inr (.inr (.inr hg)))))))) (Ne.symm (hib.ne hb)))⟩
    apart := h.apart }
/-- one inode more in the map -/
theorem IMat.add {w : World} {b q : Nat} {qs : List Nat} (h : IMat w b qs) (hl : qs.length ≤ 1152921504606846976) :
    ∃ w', (Instr.mapUpdate 96 (.map (some b)) (.int .i64 (qs.length + 1)) (.pointer (some ⟨q, 0, none⟩))).run Tryz.prog w = .ok () w' ∧ IMat w' b (qs ++ [q]) ∧ w.grownBy w' (some b) := by
  obtain ⟨D, hD, hs, h1, h2⟩ := h
  have hwf : (Lit.int .i64 ((qs.length : Int) + 1)).wf = true := WalkArith.wf_i64 (by omega)
  obtain ⟨w', hrun, hown, hg⟩ := hD.update intK Tryz.underlying96 (by unfold maxLen; omega) (keyOf_int_mk Tryz.underlying3 hwf) (ptrElem_some q)
  exact ⟨w', hrun, IMat.put hD hs h1 h2 q hown, hg⟩
set_option maxRecDepth 100000 in
set_option maxHeartbeats 4000000 in
theorem dmake_any (p : Nat) (G : Geo) (D : PDisk) (n : Node) (t : Int) (b : Bool) (w : World) (hM : DiskM w p G D) (hl : D.inos.length ≤ 1152921504606846976) :
    Calls Tryz.prog 43 #[.pointer (some ⟨p, 0, none⟩), .agg #[.string n.path, .int .i64 n.kind, .string n.data, .int .i64 n.mode], .int .i64 t, .bool b] w fun e w' => e = .returned (.int .i64 (D.inos.length + 1)) ∧
      ∃ q, DiskM w' p { G with qs := G.qs ++ [q] } (D.make n t b) ∧ Off [p, G.ib] w w' ∧ w.heap.size ≤ q := by
  have HM := Lib.hid hM
  have hc := hM.blk.cell
  have hf := hM.blk.frozen
  have hlt := hM.blk.lt
  unfold diskCells at hc
  obtain ⟨L, hL⟩ : ∃ L, D.inos.length = L := ⟨_, rfl⟩
  have HL := Lib.hid hL
  have hI := hM.parts.ino.off (k := []) (((Off.refl [] w).alloc (.cells #[.string n.path, .int .i64 n.kind, .string n.data, .int .i64 n.mode] 30)).alloc (.cells #[.string n.path, .int .i64 n.kind, .string n.data, .int .i64 n.mode, .int .i64 t, .bool b] 114)).drew (by simp)
  obtain ⟨w2, hrun, hI2, hg⟩ := hI.add (q := w.heap.size + 1) (by rw [hM.parts.qsl]; exact hl)
  rw [hM.parts.qsl, hL] at hrun
  rw [hL] at hc hl ⊢
  have HI2 := Lib.hid hI2
  have HG := Lib.hid hg
  clear hI hI2 hg hM hL
  go_enter Tryz.func43, Tryz.ntmps43
  go_wp2_with fail
  go_region
  have hpi : p ≠ G.ib := Ne.symm (HM.out.parts.ino.isMap.ne HM.out.blk)
  have hB2 : Blk w2 p 99 (diskCells G D) := (((HM.out.blk.alloc _).alloc _).drew).grown HG.out (by simpa using hpi)
  have hN2 : Blk w2 (w.heap.size + 1) 114 (inoCells ⟨n, t, b⟩) := (Blk.new1 w _ _ _).drew.grown HG.out (by have := HM.out.parts.ino.lt; simp; omega)
  have HB := Lib.hid hB2
  have HN := Lib.hid hN2
  have hc2 := hB2.cell
  have hf2 := hB2.frozen
  have hl2 := hB2.lt
  unfold diskCells at hc2
  rw [HL.out] at hc2
  have HO : Hid (Off [p, G.ib] w (w2.setCell ⟨p, 4, none⟩ (.int .i64 (L + 1 + 1)))) := Lib.hid (((((Off.refl [p, G.ib] w).alloc _).alloc _).drew.grown HG.out (fun k hk => by cases hk; exact .inr (by simp))).setCell (p := ⟨p, 4, none⟩) (.inr (by simp)) _)
  have HO2 := Lib.hid (show Off [G.ib] w w2 from (((Off.refl [G.ib] w).alloc _).alloc _).drew.grown HG.out (fun k hk => by cases hk; exact .inr (by simp)))
  clear hB2 hN2 hc hf hlt hrun hpi HG
  go_wp2_with fail
  go_ret
  refine ⟨by congr 2, w.heap.size + 1, ⟨?_, ?_⟩, HO.out, by omega⟩
  · have := HB.out.set_ 4 (.int .i64 (L + 1 + 1))
    unfold diskCells at this ⊢
    simpa [PDisk.make, HL.out] using this
  · have h1 := HM.out.parts.addIno (q := w.heap.size + 1) (n := ⟨n, t, b⟩) HO2.out (fun x _ hx => by simpa using hx) HI2.out HN.out (by omega)
    have hp := HM.out.far
    refine h1.off (k := [p]) ((Off.refl [p] w2).setCell (.inr (by simp)) _) (fun x hx hm => ?_)
    simp at hm
    subst hm
    have h2 := h1.far HB.out (by decide)
    exact h2 hx
end Go.Proofs.YtgcfkljooabjjaaGreatDoor

/- maps.Clone of names; a disk's change: the walks. Conditions: what each contract states. -/
namespace Go.Proofs.YtgcfkljooabjjaaGreatDoor
open Go.RowKit Go.Op Go.Maps

set_option maxRecDepth 100000 in
set_option maxHeartbeats 2000000 in
theorem mclone_any (b : Nat) (l : NameL) (w : World) (h : NMat w b l) :
    Calls Tryz.prog 44 #[.map (some b)] w fun e w' => e = .returned (.map (some w.heap.size)) ∧ NMat w' w.heap.size l ∧ Off [] w w' := by
  have hlt := h.lt
  obtain ⟨hA, D, hD, hr⟩ := h
  obtain ⟨es, clock, hb, F, hs, hE⟩ := hD
  have HR := Lib.hid (show NMat (w.alloc (.map es clock)) w.heap.size l from ⟨hA, D, ⟨es, clock, (MapKept.heap_alloc w _).1, F, hs, hE⟩, hr⟩)
  have hq := fun w => run_eql_map_nil_sl (P := Tryz.prog) w 95 _ _ (some b) Tryz.underlying95
  clear F hs hE hA hr
  go_enter Tryz.func44, Tryz.ntmps44
  go_wp2_with fail
  rw [run_callFunc_extern Tryz.func90 (by kernel_rfl) (by kernel_rfl) (by kernel_rfl) (e := Extern.MapsClone.clone) (by kernel_rfl), run_maps_clone_sl w 95 hb]
  simp only [Result.andThen]
  rw [Oper.upon_value]
  go_wp2_with fail
  rw [run_typeAssert_map_sl _ 95 20 _ _ _ Tryz.underlying95]
  simp only [Result.andThen]
  rw [Oper.upon_value]
  go_wp2_with fail
  go_ret
  exact ⟨rfl, HR.out, (Off.refl _ _).alloc _⟩
/-- what a change of names leaves: m is still the names' block -/
def TurnP (p m : Nat) (G : Geo) (D1 : PDisk) (W : World) (e : Ending) (W' : World) : Prop :=
  e = .returned (.tuple #[]) ∧ ∃ G', G'.nb = m ∧ G'.sb = G.sb ∧ DiskM W' p G' D1 ∧ m ∉ G'.rest ∧ Off (p :: m :: G.rest) W W' ∧ ∀ b ∈ G'.rest, b ∈ G.rest ∨ W.heap.size ≤ b
theorem infoNames : (Tryz.prog.info? 95).map (fun i => (i.zero, i.size, i.bytes)) = some (some (.map none), 1, 8) := by kernel_rfl
theorem DiskP.named {w w' : World} {G : Geo} {D : PDisk} {k : List Nat} {m : Nat} {l : NameL} (h : DiskP w G D) (ho : Off k w w') (hk : ∀ b ∈ G.rest, b ∉ k) (hN : NMat w' m l) (hm : m ∉ G.rest) : DiskP w' { G with nb := m } { D with names := l } where
  names := hN
  safe := h.safe.off ho (fun x hx => hk x (mem_rest.2 (.inl hx)))
  later := own_offk h.later ho (fun x hx => hk x (mem_rest.2 (.inr (.inr (.inr (.inr (.inl hx)))))))
  lbl := h.lbl
  laters := fun i b l h1 h2 => (h.laters i b l h1 h2).off ho (hk b (mem_rest.2 (.inr (.inr (.inl (List.mem_of_getElem? h1))))))
  ino := h.ino.off ho (hk _ (mem_rest.2 (.inr (.inl rfl))))
  qsl := h.qsl
  inos := fun i q n h1 h2 => (h.inos i q n h1 h2).off ho (hk q (mem_rest.2 (.inr (.inr (.inr (.inl (List.mem_of_getElem? h1)))))))
  nodup := h.nodup
  trace := own_offk h.trace ho (fun x hx => hk x (mem_rest.2 (.inr (.inr (.inr (.inr (.inr (.inl hx))))))))
  fates := h.fates.off ho (fun x hx => hk x (mem_rest.2 (.inr (.inr (.inr (.inr (.inr (.inr hx))))))))
  fbl := fun g hg => by
    obtain ⟨cs, hB⟩ := h.fbl g hg
    exact ⟨cs, hB.off ho (hk g (mem_rest.2 (.inr (.inr (.inr (.inr (.inr (.inr hg))))))))⟩
  apart := ⟨fun e => hm (mem_rest.2 (.inr (.inl (by exact e.symm)))), h.apart.2⟩
/-- the names go behind those of earlier changes -/
theorem DiskP.pushed {w w' : World} {G : Geo} {D : PDisk} {lv : Value} {k : List Nat} (h : DiskP w G D) (ho : Off k w w') (hk : ∀ b ∈ k, b ∈ G.parts → b ∈ G.lv.ownBlock.toList)
    (hv : w'.ownsRow 0 95 1 lv (D.later.length + 1) ((G.lb.map fun b => .map (some b)) ++ [.map (some G.nb)])) :
    DiskP w' { G with lv := lv, lb := G.lb ++ [G.nb] } { D with later := D.later ++ [D.names] } := by
  have hl : ∀ b ∈ k, b ∈ G.parts → ∃ cs, Blk w b 95 cs := fun b hb hp => own_lt h.later b (hk b hb hp)
  have mp : ∀ b ∈ G.parts, IsMapB w b → b ∉ k := fun b hb hm hin => by
    obtain ⟨cs, hB⟩ := hl b hin hb
    exact hm.ne hB rfl
  have ty : ∀ b ∈ G.parts, ∀ t cs, Blk w b t cs → t ≠ 95 → b ∉ k := fun b hb t cs hB ht hin => by
    obtain ⟨cs', hB'⟩ := hl b hin hb
    exact hB.ne_ hB' ht rfl
  have r1 : ∀ b ∈ G.rest, b ∈ G.parts := fun b hb => List.mem_cons_of_mem _ hb
  exact {
    names := h.names.off ho (mp _ (List.mem_cons_self ..) h.names.isMap)
    safe := h.safe.off ho (fun x hx => mp x (r1 _ (mem_rest.2 (.inl hx))) (by
      have := h.safe
      cases hs : G.sb with
      | none => rw [hs] at hx; simp at hx
      | some s =>
        rw [hs] at hx this
        simp at hx
        subst hx
        exact NMat.isMap this))
    later := by
      show w'.ownsRow 0 95 1 lv (D.later ++ [D.names]).length ((G.lb ++ [G.nb]).map fun b => .map (some b))
      rw [List.length_append, List.map_append]
      exact hv
    lbl := by simp [h.lbl]
    laters := fun i b l h1 h2 => by
      rw [List.getElem?_append] at h1 h2
      have hll := h.lbl
      split at h1
      · rename_i hlt
        rw [if_pos (by omega)] at h2
        have hN := h.laters i b l h1 h2
        exact hN.off ho (mp b (r1 _ (mem_rest.2 (.inr (.inr (.inl (List.mem_of_getElem? h1)))))) hN.isMap)
      · rename_i hge
        rw [if_neg (by omega)] at h2
        have e1 : i - G.lb.length = 0 := by
          have := (List.getElem?_eq_some_iff.1 h1).1
          simp at this
          omega
        have e2 : i - D.later.length = 0 := by omega
        rw [e1] at h1
        rw [e2] at h2
        simp at h1 h2
        subst h1; subst h2
        exact h.names.off ho (mp _ (List.mem_cons_self ..) h.names.isMap)
    ino := h.ino.off ho (mp _ (r1 _ (mem_rest.2 (.inr (.inl rfl)))) h.ino.isMap)
    qsl := h.qsl
    inos := fun i q n h1 h2 => by
      have hB := h.inos i q n h1 h2
      exact hB.off ho (ty q (r1 _ (mem_rest.2 (.inr (.inr (.inr (.inl (List.mem_of_getElem? h1))))))) _ _ hB (by decide))
    nodup := h.nodup
    trace := own_offk h.trace ho (fun x hx => by
      obtain ⟨cs, hB⟩ := own_lt h.trace x hx
      exact ty x (r1 _ (mem_rest.2 (.inr (.inr (.inr (.inr (.inr (.inl hx)))))))) _ _ hB (by decide))
    fates := h.fates.off ho (fun x hx => by
      obtain ⟨cs, hB⟩ := h.fbl x hx
      exact ty x (r1 _ (mem_rest.2 (.inr (.inr (.inr (.inr (.inr (.inr hx)))))))) _ _ hB (by decide))
    fbl := fun g hg => by
      obtain ⟨cs, hB⟩ := h.fbl g hg
      exact ⟨cs, hB.off ho (ty g (r1 _ (mem_rest.2 (.inr (.inr (.inr (.inr (.inr (.inr hg)))))))) _ _ hB (by decide))⟩
    apart := ⟨h.apart.1, h.apart.2.1, fun hm => by
      rcases List.mem_append.1 hm with hm | hm
      · exact h.apart.2.2 hm
      · simp at hm; exact h.apart.1 hm⟩ }
end Go.Proofs.YtgcfkljooabjjaaGreatDoor
