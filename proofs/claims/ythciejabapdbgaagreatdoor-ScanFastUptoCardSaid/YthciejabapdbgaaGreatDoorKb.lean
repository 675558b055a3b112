/- Texts of this claim, one behind the other: Par Tree Node Place Ext Check Names TLaw Awake TNames OrdD SortP. Conditions: what each lemma states. -/
import Derived.Test.YthciejabapdbgaaGreatDoorKa
import Derived.Lib.LastIndexByte
import Derived.LoopNIn
import Derived.Deep.Quiet
import Derived.BigQuiet
import Derived.Deep.Slices
import Derived.Laws.Concat
import Derived.Laws.AppendOwnNone
import Derived.Shelf.SlLaysF
import Derived.Shelf.SlLaysZ
import Derived.Test.YthciejabapdbgaaGreatDoorProg
set_option linter.unusedVariables false
set_option linter.unusedSimpArgs false
namespace Go.Proofs.YthciejabapdbgaaGreatDoor
section
open Go.RowKit Go.Op
def bs (l : Str) : ByteArray := ⟨l.toArray⟩
theorem str_bs (l : Str) : str (bs l) = l := by simp [str, bs]
theorem bs_str (b : ByteArray) : bs (str b) = b := str_inj (str_bs _)
theorem bs_size (l : Str) : (bs l).size = l.length := by rw [← str_size, str_bs]
theorem last_cases (s : ByteArray) : (Lib.lastIndexByte s 47 = -1 ∧ 47 ∉ str s) ∨ ∃ i : Nat, Lib.lastIndexByte s 47 = i ∧ i < s.size ∧ str s = (str s).take i ++ 47 :: (str s).drop (i + 1) ∧ 47 ∉ (str s).drop (i + 1) := by
  have hg : ∀ (j : Nat) (hj : j < (str s).length), s.data[j]! = (str s)[j] := fun j hj => by
    have : j < s.data.size := by rw [str_size] at hj; exact hj
    rw [getElem!_pos s.data j this]; simp [str]
  have hc : ∀ (j : Nat) (hj : j < (str s).length), ((s.data[j]!).toNat : Int) ≠ 47 → (str s)[j] ≠ 47 := fun j hj h e => h (by rw [hg j hj, e]; rfl)
  rcases Lib.lastIndexByte_spec s 47 with ⟨h, hn⟩ | ⟨i, hi, h, he, hn⟩
  · refine .inl ⟨h, fun hm => ?_⟩
    obtain ⟨j, hj, e⟩ := List.getElem_of_mem hm; exact hc j hj (hn j (by rw [← str_size]; exact hj)) e
  have hil : i < (str s).length := by rw [str_size]; exact hi
  refine .inr ⟨i, h, hi, ?_, fun hm => ?_⟩
  · have e1 : (str s)[i] = 47 := by
      rw [hg i hil] at he
      apply UInt8.toNat_inj.1
      have : ((47 : UInt8).toNat : Int) = 47 := rfl
      omega
    have := List.take_append_drop i (str s); rw [List.drop_eq_getElem_cons hil, e1] at this; exact this.symm
  obtain ⟨j, hj, e⟩ := List.getElem_of_mem hm; rw [List.getElem_drop] at e; rw [List.length_drop] at hj; exact hc (i + 1 + j) (by omega) (hn (i + 1 + j) (by omega) (by rw [← str_size]; omega)) e
theorem parts_last {s : Str} {i : Nat} (h1 : s = s.take i ++ 47 :: s.drop (i + 1)) (h2 : 47 ∉ s.drop (i + 1)) : parts s = parts (s.take i) ++ [s.drop (i + 1)] := by
  have := parts_append (s.drop (i + 1)) (s.take i); rw [← h1, parts_clean _ h2] at this; exact this
theorem getLast_eq {l : List Str} (h : l ≠ []) (x : List Str) (y : Str) (e : l = x ++ [y]) : l.getLast h = y := by subst e; simp
theorem lastIdx_any (s : ByteArray) (w : World) (hs : s.size ≤ 1000000) : Calls Tryz.prog 220 #[.string s, .int .u8 47] w fun e w' => e = .returned (.int .i64 (Lib.lastIndexByte s 47)) ∧ w = w' :=
  (Tryz.strings_LastIndexByte s 47 (by omega) w).mono fun _ _ ⟨a, b⟩ => ⟨a, b.symm⟩
set_option maxRecDepth 100000 in
theorem parent_any (s : ByteArray) (w : World) (hs : s.size ≤ 1000000) (hT : Tabs w) :
    Calls Tryz.prog 143 #[.string s] w fun e w' => e = .returned (.string (bs (parent (str s)))) ∧ Off [] w w' := by
  rcases last_cases s with ⟨h, hn⟩ | ⟨i, h, hi, hc, hn⟩
  · have e1 : bs (parent (str s)) = ⟨#[]⟩ := by
      unfold parent; rw [parts_clean _ hn]; split <;> rfl
    have H := Lib.hid h; have E := Lib.hid e1; clear h e1
    go_enter Tryz.func143, Tryz.ntmps143
    go_wp2_with fail
    refine (lastIdx_any s _ hs).mono ?_
    rintro e w1 ⟨rfl, e1⟩; subst e1; rw [H.out]
    go_wp2_with fail
    go_ret
    exact ⟨by rw [E.out]; rfl, Off.refl _ _⟩
  have H := Lib.hid h; have HC := Lib.hid hc; clear h hc; have c1 : (0 : Int) ≤ ↑i := by omega
  have c2 : (↑i : Int) ≤ ↑s.size := by omega
  cases hk : okPath (str s)
  · have e1 : bs (parent (str s)) = ⟨#[]⟩ := by unfold parent; rw [hk]; rfl
    have HK := Lib.hid hk; have E := Lib.hid e1; clear hk e1
    go_enter Tryz.func143, Tryz.ntmps143
    go_wp2_with fail
    refine (lastIdx_any s _ (by omega)).mono ?_
    rintro e w1 ⟨rfl, e1⟩; subst e1; rw [H.out]
    go_wp2_with fail
    refine (path_any s _ hT).mono ?_
    rintro e w2 ⟨rfl, ho⟩; rw [HK.out]
    go_wp2_with fail
    go_ret
    exact ⟨by rw [E.out]; rfl, ho⟩
  have e1 : bs (parent (str s)) = s.extract 0 i := by
    apply str_inj
    unfold parent; rw [hk, str_bs, if_pos rfl, parts_last HC.out hn, List.dropLast_concat, joinP_parts, str_extract]; simp
  have HK := Lib.hid hk; have E := Lib.hid e1; clear hk e1
  go_enter Tryz.func143, Tryz.ntmps143
  go_wp2_with fail
  refine (lastIdx_any s _ (by omega)).mono ?_
  rintro e w1 ⟨rfl, e1⟩; subst e1; rw [H.out]
  go_wp2_with fail
  refine (path_any s _ hT).mono ?_
  rintro e w2 ⟨rfl, ho⟩; rw [HK.out]
  go_wp2_with fail
  go_ret
  exact ⟨by rw [E.out]; rfl, ho⟩
set_option maxRecDepth 100000 in
theorem base_any (s : ByteArray) (w : World) (hs : s.size ≤ 1000000) (hT : Tabs w) :
    Calls Tryz.prog 256 #[.string s] w fun e w' => e = .returned (.string (bs (base (str s)))) ∧ Off [] w w' := by
  cases hk : okPath (str s)
  · have e1 : bs (base (str s)) = ⟨#[]⟩ := by unfold base; rw [hk]; rfl
    have HK := Lib.hid hk; have E := Lib.hid e1; clear hk e1
    go_enter Tryz.func256, Tryz.ntmps256
    go_wp2_with fail
    refine (path_any s _ hT).mono ?_
    rintro e w2 ⟨rfl, ho⟩; rw [HK.out]
    go_wp2_with fail
    go_ret
    exact ⟨by rw [E.out]; rfl, ho⟩
  rcases last_cases s with ⟨h, hn⟩ | ⟨i, h, hi, hc, hn⟩
  · have e1 : bs (base (str s)) = s := by
      apply str_inj
      unfold base; rw [str_bs, if_pos hk]; exact getLast_eq _ [] _ (by rw [parts_clean _ hn]; rfl)
    have HK := Lib.hid hk; have E := Lib.hid e1; have H := Lib.hid h; clear hk e1 h; have c1 : (0 : Int) ≤ -1 + 1 := by omega
    go_enter Tryz.func256, Tryz.ntmps256
    go_wp2_with fail
    refine (path_any s _ hT).mono ?_
    rintro e w2 ⟨rfl, ho⟩; rw [HK.out]
    go_wp2_with fail
    refine (lastIdx_any s _ (by omega)).mono ?_
    rintro e w1 ⟨rfl, e1⟩; subst e1; rw [H.out]
    go_wp2_with fail
    go_ret
    exact ⟨by rw [E.out]; simp, ho⟩
  have e1 : bs (base (str s)) = s.extract (i + 1) s.size := by
    apply str_inj
    unfold base; rw [str_bs, if_pos hk, str_extract, List.take_of_length_le (by simp [str_size])]; exact getLast_eq _ _ _ (parts_last hc hn)
  have HK := Lib.hid hk; have E := Lib.hid e1; have H := Lib.hid h; have HC := Lib.hid hc; clear hk e1 h hc; have c3 : (0 : Int) ≤ ↑i + 1 := by omega
  have c4 : (↑i + 1 : Int) ≤ ↑s.size := by omega
  go_enter Tryz.func256, Tryz.ntmps256
  go_wp2_with fail
  refine (path_any s _ hT).mono ?_
  rintro e w2 ⟨rfl, ho⟩; rw [HK.out]
  go_wp2_with fail
  refine (lastIdx_any s _ (by omega)).mono ?_
  rintro e w1 ⟨rfl, e1⟩; subst e1; rw [H.out]
  go_wp2_with fail
  go_ret
  exact ⟨by rw [E.out]; rfl, ho⟩
end
section
open Go.RowKit
structure Node where
  path : ByteArray
  kind : Int
  data : ByteArray
  mode : Int
instance : Inhabited Node := ⟨⟨⟨#[]⟩, 0, ⟨#[]⟩, 0⟩⟩
def Node.p (n : Node) : Str := str n.path
def Node.val (n : Node) : Value := .agg #[.string n.path, .int .i64 n.kind, .string n.data, .int .i64 n.mode]
def rightN (n : Node) : Bool :=
  if n.kind = 1 then decide (n.data.size ≤ 65536) && (decide (0 ≤ n.mode) && decide (n.mode ≤ 511))
  else if n.kind = 2 then decide (n.data.size = 0) && decide (n.mode = 0)
  else if n.kind = 3 then decide (n.data.size ≠ 0) && (decide (n.data.size ≤ 400) && (!(str n.data).contains 0 && decide (n.mode = 0)))
  else false
def isDir (t : List Node) (p : Str) : Bool := decide (p = []) || t.any fun n => decide (n.p = p) && decide (n.kind = 2)
def okNext (done : List Node) (n : Node) : Bool :=
  okPath n.p && rightN n && (match done.getLast? with | none => true | some m => decide (order m.p n.p < 0)) && isDir done (parent n.p)
def okFrom (done : List Node) : List Node → Bool
  | [] => true
  | n :: t => okNext done n && okFrom (done ++ [n]) t
def okTree (t : List Node) : Bool := decide (t.length ≤ 1000) && okFrom [] t
def Sorted (t : List Node) : Prop := t.Pairwise fun a b => order a.p b.p < 0
theorem sorted_snoc {done : List Node} {n : Node} (h : Sorted done) (hn : (match done.getLast? with | none => true | some m => decide (order m.p n.p < 0)) = true) : Sorted (done ++ [n]) := by
  unfold Sorted at *; rw [List.pairwise_append]; refine ⟨h, by simp, fun a ha b hb => ?_⟩; rw [List.mem_singleton] at hb; subst hb
  cases hl : done.getLast? with
  | none => rw [List.getLast?_eq_none_iff] at hl; subst hl; cases ha
  | some m =>
    rw [hl] at hn; simp only [decide_eq_true_eq] at hn; obtain ⟨ys, rfl⟩ := List.getLast?_eq_some_iff.1 hl
    rcases List.mem_append.1 ha with h1 | h1
    · rw [List.pairwise_append] at h
      exact order_trans (h.2.2 a h1 m (by simp)) hn
    rw [List.mem_singleton] at h1; subst h1; exact hn
theorem okFrom_sorted : ∀ {t done : List Node}, Sorted done → okFrom done t = true → Sorted (done ++ t)
  | [], done, h, _ => by simpa using h
  | n :: t, done, h, ho => by
    unfold okFrom at ho; rw [Bool.and_eq_true] at ho; have hn := ho.1; unfold okNext at hn; simp only [Bool.and_eq_true] at hn; have := okFrom_sorted (t := t) (sorted_snoc h hn.1.2) ho.2
    simpa using this
theorem okTree_sorted {t : List Node} (h : okTree t = true) : Sorted t := by
  unfold okTree at h; rw [Bool.and_eq_true] at h
  simpa using okFrom_sorted (t := t) (done := []) List.Pairwise.nil h.2
theorem okFrom_take : ∀ {t done : List Node} (i : Nat) (hi : i < t.length), okFrom done t = true → okNext (done ++ t.take i) t[i] = true
  | n :: t, done, 0, _, h => by
    unfold okFrom at h; rw [Bool.and_eq_true] at h
    simpa using h.1
  | n :: t, done, i + 1, hi, h => by
    unfold okFrom at h; rw [Bool.and_eq_true] at h; have := okFrom_take (t := t) (done := done ++ [n]) i (by simpa using hi) h.2
    simpa using this
theorem okTree_next {t : List Node} (h : okTree t = true) (i : Nat) (hi : i < t.length) : okNext (t.take i) t[i] = true := by
  unfold okTree at h; rw [Bool.and_eq_true] at h
  simpa using okFrom_take (done := []) i hi h.2
theorem okTree_path {t : List Node} (h : okTree t = true) {n : Node} (hn : n ∈ t) : okPath n.p = true := by
  obtain ⟨i, hi, rfl⟩ := List.getElem_of_mem hn; have := okTree_next h i hi; unfold okNext at this; simp only [Bool.and_eq_true] at this; exact this.1.1.1
theorem okTree_len {t : List Node} (h : okTree t = true) : t.length ≤ 1000 := by
  unfold okTree at h; rw [Bool.and_eq_true] at h
  simpa using h.1
theorem okPath_size {s : Str} (h : okPath s = true) : s.length ≤ 400 := by
  unfold okPath at h; simp only [Bool.and_eq_true, decide_eq_true_eq] at h; exact h.1.1
theorem okTree_small {t : List Node} (h : okTree t = true) {n : Node} (hn : n ∈ t) : n.path.size ≤ 400 := by
  rw [← str_size]; exact okPath_size (okTree_path h hn)
structure NodeAt (w : World) (a : Addr) (n : Node) : Prop where
  path : w.cell? a = some (.string n.path)
  kind : w.cell? ⟨a.block, a.off + 1, none⟩ = some (.int .i64 n.kind)
  data : w.cell? ⟨a.block, a.off + 2, none⟩ = some (.string n.data)
  mode : w.cell? ⟨a.block, a.off + 3, none⟩ = some (.int .i64 n.mode)
def Row (w : World) (p : Option Addr) (t : List Node) : Prop :=
  t ≠ [] → ∃ a, p = some a ∧ a.block < w.heap.size ∧ ∀ (i : Nat) (n : Node), t[i]? = some n → NodeAt w (a.add (i * 4)) n
theorem add_block (a : Addr) (i : Nat) : (a.add i).block = a.block := by
  unfold Addr.add; split <;> rfl
theorem NodeAt.off {w w' : World} {a : Addr} {n : Node} (h : NodeAt w a n) (ho : Off [] w w') (hb : a.block < w.heap.size) : NodeAt w' a n :=
  ⟨(ho.cell hb (by simp)).trans h.path, (ho.cell (p := ⟨a.block, a.off + 1, none⟩) hb (by simp)).trans h.kind, (ho.cell (p := ⟨a.block, a.off + 2, none⟩) hb (by simp)).trans h.data, (ho.cell (p := ⟨a.block, a.off + 3, none⟩) hb (by simp)).trans h.mode⟩
theorem Row.off {w w' : World} {p : Option Addr} {t : List Node} (h : Row w p t) (ho : Off [] w w') : Row w' p t := fun hne => by
  obtain ⟨a, rfl, hb, hn⟩ := h hne; exact ⟨a, rfl, Nat.lt_of_lt_of_le hb ho.size, fun i n hi => (hn i n hi).off ho (by rw [add_block]; exact hb)⟩
theorem Row.get {w : World} {p : Option Addr} {t : List Node} (h : Row w p t) (i : Nat) (hi : i < t.length) : ∃ a, p = some a ∧ NodeAt w (a.add (i * 4)) t[i] ∧ a.block < w.heap.size := by
  obtain ⟨a, rfl, hb, hn⟩ := h (by intro e; subst e; simp at hi); exact ⟨a, rfl, hn i _ (List.getElem?_eq_getElem hi), hb⟩
theorem Row.take {w : World} {p : Option Addr} {t : List Node} (h : Row w p t) (k : Nat) : Row w p (t.take k) := fun hne => by
  obtain ⟨a, rfl, hb, hn⟩ := h (by intro e; subst e; simp at hne); exact ⟨a, rfl, hb, fun i n hi => hn i n (by rw [List.getElem?_take] at hi; split at hi; exact hi; cases hi)⟩
def Fits (t : List Node) : Prop := ∀ n ∈ t, n.path.size ≤ maxLen ∧ n.data.size ≤ maxLen
structure PlaceAt (t : List Node) (p : Str) (i : Nat) (f : Bool) : Prop where
  le : i ≤ t.length
  lo : ∀ (j : Nat) (n : Node), j < i → t[j]? = some n → order n.p p < 0
  hi : ∀ (j : Nat) (n : Node), i ≤ j → t[j]? = some n → 0 ≤ order n.p p
  fd : f = true ↔ ∃ n, t[i]? = some n ∧ n.p = p
theorem PlaceAt.none {t : List Node} {p : Str} {i : Nat} (h : PlaceAt t p i false) {n : Node} (hn : n ∈ t) (hs : Sorted t) : n.p ≠ p := fun e => by
  obtain ⟨j, hj, rfl⟩ := List.getElem_of_mem hn; have hj' := List.getElem?_eq_getElem hj
  rcases Nat.lt_or_ge j i with hlt | hge
  · have := h.lo j _ hlt hj'
    rw [e, order_self] at this; omega
  rcases Nat.lt_or_ge i j with h1 | h1
  · have hi' : i < t.length := by omega
    have h2 := h.hi i _ (Nat.le_refl _) (List.getElem?_eq_getElem hi'); have h3 := List.pairwise_iff_getElem.1 hs i j hi' hj h1; rw [e] at h3; omega
  obtain rfl : i = j := by omega
  exact Bool.false_ne_true (h.fd.2 ⟨_, hj', e⟩)
end
section
open Go.RowKit Go.Op
theorem Sorted.unique {t : List Node} (hs : Sorted t) {a b : Node} (ha : a ∈ t) (hb : b ∈ t) (he : a.p = b.p) : a = b := by
  obtain ⟨i, hi, rfl⟩ := List.getElem_of_mem ha; obtain ⟨j, hj, rfl⟩ := List.getElem_of_mem hb
  rcases Nat.lt_trichotomy i j with h | rfl | h
  · have := List.pairwise_iff_getElem.1 hs i j hi hj h
    rw [he, order_self] at this; omega
  · rfl
  have := List.pairwise_iff_getElem.1 hs j i hj hi h; rw [he, order_self] at this; omega
theorem place_isDir {t : List Node} {p : Str} {i : Nat} {f : Bool} (h : PlaceAt t p i f) (hs : Sorted t) :
    isDir t p = (decide (p = []) || (f && match t[i]? with | some n => decide (n.kind = 2) | .none => false)) := by
  have key : (t.any fun n => decide (n.p = p) && decide (n.kind = 2)) = (f && match t[i]? with | some n => decide (n.kind = 2) | .none => false) := by
    cases f
    · rw [Bool.false_and, List.any_eq_false]
      intro n hn
      simp [h.none hn hs]
    obtain ⟨n, hn, hp⟩ := h.fd.1 rfl; rw [hn, Bool.true_and]; have hm := List.mem_of_getElem? hn
    by_cases hk : n.kind = 2
    · simp only [hk, decide_true, List.any_eq_true]
      exact ⟨n, hm, by simp [hp, hk]⟩
    simp only [hk, decide_false, List.any_eq_false]
    intro m hmm
    by_cases hpm : m.p = p
    · have := hs.unique hmm hm (hpm.trans hp.symm)
      subst this; simp [hk]
    simp [hpm]
  rw [← key]; rfl
theorem indexByte_mem (c : UInt8) : ∀ l : Str, decide (0 ≤ Lib.indexByte l c) = l.contains c
  | [] => by simp [Lib.indexByte]
  | b :: l => by
    have ih := indexByte_mem c l; have hge := Lib.indexByte_ge l c; unfold Lib.indexByte
    by_cases hb : b = c
    · subst hb; simp
    have hb' : ¬ (b == c) = true := by simpa using hb
    have hb2 : ¬ c = b := fun e => hb e.symm
    rw [if_neg hb', List.contains_cons]; have : (c == b) = false := by simpa using hb2
    rw [this, Bool.false_or, ← ih]
    by_cases h1 : Lib.indexByte l c = -1
    · simp [h1]
    have : ¬ ((Lib.indexByte l c == -1) = true) := by simp [h1]
    rw [if_neg this]; simp only [decide_eq_decide]; omega
theorem beq0 (m : Int) : (m == 0) = decide (m = 0) := by by_cases h : m = 0 <;> simp [h]
theorem contains0_any (s : ByteArray) (w : World) : Calls Tryz.prog 216 #[.string s, .string ⟨#[0]⟩] w fun e w' => e = .returned (.bool ((str s).contains 0)) ∧ w = w' := by
  refine (Tryz.strings_Contains_one s 0 w).mono fun e w' ⟨a, b⟩ => ⟨?_, b.symm⟩
  rw [a, ← indexByte_mem]; rfl
set_option maxRecDepth 100000 in
theorem right_any (n : Node) (w : World) : Calls Tryz.prog 140 #[n.val] w fun e w' => e = .returned (.bool (rightN n)) ∧ Off [] w w' := by
  obtain ⟨path, kind, data, mode⟩ := n; have hE : data.toList = [] ↔ data.size = 0 := by rw [toList_str, ← str_size]; simp
  unfold Node.val; dsimp only
  by_cases h1 : kind = 1
  · subst h1
    clear hE
    by_cases a : data.size ≤ 65536
    · by_cases b : 0 ≤ mode
      · go_enter Tryz.func140, Tryz.ntmps140
        go_wp2_with fail
        go_ret
        exact ⟨by simp [rightN, a, b], (Off.refl _ _).alloc _⟩
      go_enter Tryz.func140, Tryz.ntmps140
      go_wp2_with fail
      go_ret
      exact ⟨by simp [rightN, a]; omega, (Off.refl _ _).alloc _⟩
    go_enter Tryz.func140, Tryz.ntmps140
    go_wp2_with fail
    go_ret
    exact ⟨by simp [rightN, a], (Off.refl _ _).alloc _⟩
  by_cases h2 : kind = 2
  · subst h2
    clear h1
    by_cases a : data.size = 0
    · have g := hE.2 a
      have g' : data.toList.isEmpty = true := by simp [g]
      clear hE
      go_enter Tryz.func140, Tryz.ntmps140
      go_wp2_with fail
      go_ret
      exact ⟨by simp [rightN, a, beq0], (Off.refl _ _).alloc _⟩
    have g : ¬ data.toList = [] := fun e => a (hE.1 e)
    have g' : data.toList.isEmpty = false := by simpa using g
    clear hE
    go_enter Tryz.func140, Tryz.ntmps140
    go_wp2_with fail
    go_ret
    exact ⟨by simp [rightN, a], (Off.refl _ _).alloc _⟩
  by_cases h3 : kind = 3
  · subst h3
    clear h1 h2
    by_cases a : data.size = 0
    · have g := hE.2 a
      have g' : data.toList.isEmpty = true := by simp [g]
      clear hE
      go_enter Tryz.func140, Tryz.ntmps140
      go_wp2_with fail
      go_ret
      exact ⟨by simp [rightN, a], (Off.refl _ _).alloc _⟩
    have g : ¬ data.toList = [] := fun e => a (hE.1 e)
    have g' : data.toList.isEmpty = false := by simpa using g
    clear hE
    by_cases b : data.size ≤ 400
    · cases hc : (str data).contains 0
      · have HM := Lib.hid (show ¬ 0 ∈ str data by simpa using hc)
        have HC := Lib.hid hc; clear hc
        go_enter Tryz.func140, Tryz.ntmps140
        go_wp2_with fail
        refine (contains0_any data _).mono ?_
        rintro e w1 ⟨rfl, e1⟩; subst e1; rw [HC.out]
        go_wp2_with fail
        go_ret
        exact ⟨by simp [rightN, a, b, HM.out, beq0], (Off.refl _ _).alloc _⟩
      have HM := Lib.hid (show 0 ∈ str data by simpa using hc); have HC := Lib.hid hc; clear hc
      go_enter Tryz.func140, Tryz.ntmps140
      go_wp2_with fail
      refine (contains0_any data _).mono ?_
      rintro e w1 ⟨rfl, e1⟩; subst e1; rw [HC.out]
      go_wp2_with fail
      go_ret
      exact ⟨by simp [rightN, a, b, HM.out], (Off.refl _ _).alloc _⟩
    go_enter Tryz.func140, Tryz.ntmps140
    go_wp2_with fail
    go_ret
    exact ⟨by simp [rightN, a, b], (Off.refl _ _).alloc _⟩
  have k1 : (kind == 1) = false := beq_eq_false_iff_ne.2 h1
  have k2 : (kind == 2) = false := beq_eq_false_iff_ne.2 h2
  have k3 : (kind == 3) = false := beq_eq_false_iff_ne.2 h3
  clear hE
  go_enter Tryz.func140, Tryz.ntmps140
  go_wp2_with fail
  go_ret
  exact ⟨by simp [rightN, h1, h2, h3], (Off.refl _ _).alloc _⟩
end
section
open Go.RowKit Go.Op
theorem beq2 (m : Int) : (m == 2) = decide (m = 2) := by by_cases h : m = 2 <;> simp [h]
set_option maxRecDepth 100000 in
theorem clos_any (n : Node) (s : ByteArray) (w : World) (hn : n.path.size ≤ maxLen) (hs : s.size ≤ maxLen) :
    Calls Tryz.prog 305 #[n.val, .string s] w fun e w' => e = .returned (.int .i64 (order n.p (str s))) ∧ Off [] w w' := by
  obtain ⟨path, kind, data, mode⟩ := n; unfold Node.val Node.p; dsimp only at hn ⊢
  go_enter Tryz.func305, Tryz.ntmps305
  go_wp2_with fail
  refine (order_any path s _ hn hs).mono ?_
  rintro e w1 ⟨rfl, ho⟩
  go_wp2_with fail
  go_ret
  exact ⟨rfl, ((Off.refl _ _).alloc _).trans_nil ho⟩
def FoundP (t : List Node) (s : ByteArray) (w : World) (e : Ending) (w' : World) : Prop :=
  ∃ i f, e = .returned (.tuple #[.int .i64 (i : Nat), .bool f]) ∧ PlaceAt t (str s) i f ∧ Off [] w w'
structure Seek (t : List Node) (p : Str) (lo hi : Nat) : Prop where
  lh : lo ≤ hi
  le : hi ≤ t.length
  a : ∀ (j : Nat) (n : Node), j < lo → t[j]? = some n → order n.p p < 0
  b : ∀ (j : Nat) (n : Node), hi ≤ j → t[j]? = some n → 0 ≤ order n.p p
theorem Seek.left {t : List Node} {p : Str} {lo hi : Nat} (h : Seek t p lo hi) (hs : Sorted t) {m : Nat} (h1 : lo ≤ m) (h2 : m < hi) (hm : order (t[m]'(by have := h.le; omega)).p p < 0) : Seek t p (m + 1) hi :=
  ⟨by omega, h.le, fun j n hj hn => by
    obtain ⟨hjl, rfl⟩ := List.getElem?_eq_some_iff.1 hn
    rcases Nat.lt_or_ge j m with h3 | h3
    · exact order_trans (List.pairwise_iff_getElem.1 hs j m hjl (by have := h.le; omega) h3) hm
    obtain rfl : j = m := by omega
    exact hm, h.b⟩
theorem Seek.right {t : List Node} {p : Str} {lo hi : Nat} (h : Seek t p lo hi) (hs : Sorted t) {m : Nat} (h1 : lo ≤ m) (h2 : m < hi) (hm : 0 ≤ order (t[m]'(by have := h.le; omega)).p p) : Seek t p lo m :=
  ⟨h1, by have := h.le; omega, h.a, fun j n hj hn => by
    obtain ⟨hjl, rfl⟩ := List.getElem?_eq_some_iff.1 hn
    rcases Nat.lt_or_ge m j with h3 | h3
    · have := List.pairwise_iff_getElem.1 hs m j (by have := h.le; omega) hjl h3
      rcases Int.lt_or_le (order (t[j]).p p) 0 with h4 | h4
      · have := order_trans this h4; omega
      exact h4
    obtain rfl : j = m := by omega
    exact hm⟩
set_option maxRecDepth 100000 in
set_option maxHeartbeats 4000000 in
theorem bsearch_any (p : Option Addr) (t : List Node) (n cap : Nat) (s : ByteArray) (w : World) (hR : Row w p t) (hn : t.length = n) (hbig : n < 4611686018427387904) (hs : Sorted t) (hF : Fits t) (hsz : s.size ≤ maxLen) :
    Calls Tryz.prog 304 #[.slice p n cap, .string s, .func (.func 305) #[] #[]] w (FoundP t s w) := by
  have hS0 : Seek t (str s) 0 n := ⟨by omega, by omega, fun j _ hj _ => by omega, fun j m hj hm => by have := (List.getElem?_eq_some_iff.1 hm).1; omega⟩
  have HS0 := Lib.hid hS0; have HN := Lib.hid hn; have HR := Lib.hid hR; have HF := Lib.hid hF; clear hS0 hn hR hF
  go_enter Tryz.func304, Tryz.ntmps304
  go_wp2_with fail
  go_loopw [9, 10] (fun x y wr => ∃ lo hi : Nat, x = .int .i64 lo ∧ y = .int .i64 hi ∧ Hid (Seek t (str s) lo hi) ∧ lo ≤ hi ∧ hi ≤ n ∧ Off [] w wr) (fun x y _ => (intOf y - intOf x).toNat)
  case atStart => exact ⟨0, n, rfl, rfl, HS0, by omega, by omega, Off.refl _ _⟩
  case round =>
    obtain ⟨lo, hi, rfl, rfl, hS, hlh, hin, ho⟩ := hrel
    by_cases hlt : lo < hi
    · have hml : (lo + hi) / 2 < t.length := by rw [HN.out]; omega
      obtain ⟨a, rfl, hna, hab⟩ := (HR.out.off ho).get ((lo + hi) / 2) hml; have hfit := (HF.out _ (List.getElem_mem hml)).1; have hL : order (t[(lo + hi) / 2]'hml).p (str s) < 0 → Seek t (str s) ((lo + hi) / 2 + 1) hi := fun h => hS.out.left hs (m := (lo + hi) / 2) (by omega) (by omega) h
      have hR : 0 ≤ order (t[(lo + hi) / 2]'hml).p (str s) → Seek t (str s) lo ((lo + hi) / 2) := fun h => hS.out.right hs (m := (lo + hi) / 2) (by omega) (by omega) h
      generalize t[(lo + hi) / 2] = nd at *
      have c0 := hna.path; have c1 := hna.kind; have c2 := hna.data; have c3 := hna.mode; have HL := Lib.hid hL; have HR2 := Lib.hid hR; clear hna hL hR
      go_wp2_with fail
      refine (clos_any nd s wr hfit hsz).mono ?_
      rintro e w2 ⟨rfl, ho2⟩; have hoff := ho.trans_nil ho2; clear c0 c1 c2 c3 ho ho2; generalize order nd.p (str s) = c at *
      by_cases hc : c < 0
      · have HS := Lib.hid (HL.out hc)
        go_wp2_with fail
        refine ⟨⟨(lo + hi) / 2 + 1, hi, by push_cast; rfl, rfl, HS, by omega, by omega, hoff⟩, ?_⟩
        simp only [intOf]
        omega
      have HS := Lib.hid (HR2.out (by omega))
      go_wp2_with fail
      refine ⟨⟨lo, (lo + hi) / 2, rfl, by push_cast; rfl, HS, by omega, by omega, hoff⟩, ?_⟩
      simp only [intOf]
      omega
    obtain rfl : lo = hi := by omega
    by_cases hln : lo < n
    · have hml : lo < t.length := by rw [HN.out]; omega
      obtain ⟨a, rfl, hna, hab⟩ := (HR.out.off ho).get lo hml; have hfit := (HF.out _ (List.getElem_mem hml)).1; have HG := Lib.hid (List.getElem?_eq_getElem hml); generalize t[lo] = nd at *; have c0 := hna.path; have c1 := hna.kind; have c2 := hna.data; have c3 := hna.mode; clear hna; have hcz := order_range nd.p (str s)
      go_wp2_with fail
      refine (clos_any nd s wr hfit hsz).mono ?_
      rintro e w2 ⟨rfl, ho2⟩; have hoff := ho.trans_nil ho2; clear c0 c1 c2 c3 ho ho2; have HE := Lib.hid (fun h : order nd.p (str s) = 0 => order_eq h); have HE2 := Lib.hid (fun h : nd.p = str s => (show order nd.p (str s) = 0 by rw [h, order_self])); generalize order nd.p (str s) = c at *
      by_cases hc : c = 0
      · have HQ := Lib.hid (HE.out hc)
        subst hc; clear HE HE2
        go_wp2_with fail
        go_ret2
        exact ⟨lo, true, rfl, ⟨hS.out.le, hS.out.a, hS.out.b, ⟨fun _ => ⟨nd, HG.out, HQ.out⟩, fun _ => rfl⟩⟩, hoff⟩
      have hc' : (c == 0) = false := beq_eq_false_iff_ne.2 hc
      go_wp2_with fail
      go_ret2
      refine ⟨lo, false, rfl, ⟨hS.out.le, hS.out.a, hS.out.b, ⟨fun h => (by cases h), fun ⟨m, hm, hp⟩ => ?_⟩⟩, hoff⟩
      rw [HG.out] at hm; injection hm with hm
      subst hm; exact absurd (HE2.out hp) hc
    go_wp2_with fail
    go_ret2
    refine ⟨lo, false, rfl, ⟨hS.out.le, hS.out.a, hS.out.b, ⟨fun h => (by cases h), fun ⟨m, hm, hp⟩ => ?_⟩⟩, ho⟩
    have := (List.getElem?_eq_some_iff.1 hm).1; rw [HN.out] at this; omega
set_option maxRecDepth 100000 in
theorem place_any (p : Option Addr) (t : List Node) (n cap : Nat) (s : ByteArray) (w : World) (hR : Row w p t) (hn : t.length = n) (hbig : n < 4611686018427387904) (hs : Sorted t) (hF : Fits t) (hsz : s.size ≤ maxLen) :
    Calls Tryz.prog 219 #[.slice p n cap, .string s] w (FoundP t s w) := by
  have HN := Lib.hid hn; have HR := Lib.hid hR; have HF := Lib.hid hF; clear hn hR hF
  go_enter Tryz.func219, Tryz.ntmps219
  go_wp2_with fail
  refine (bsearch_any p t n cap s w HR.out HN.out hbig hs HF.out hsz).mono ?_
  rintro e w1 ⟨i, f, rfl, hP, ho⟩
  go_wp2_with fail
  go_ret2
  exact ⟨i, f, rfl, hP, ho⟩
set_option maxRecDepth 100000 in
set_option maxHeartbeats 4000000 in
theorem dir_any (p : Option Addr) (t : List Node) (n cap : Nat) (s : ByteArray) (w : World) (hR : Row w p t) (hn : t.length = n) (hbig : n < 4611686018427387904) (hs : Sorted t) (hF : Fits t) (hsz : s.size ≤ maxLen) :
    Calls Tryz.prog 142 #[.slice p n cap, .string s] w fun e w' => e = .returned (.bool (isDir t (str s))) ∧ Off [] w w' := by
  have HN := Lib.hid hn; have HR := Lib.hid hR; have HF := Lib.hid hF; clear hn hR hF; have hE : (s.toList = []) ↔ str s = [] := by rw [toList_str]
  have HE := Lib.hid hE; clear hE
  go_enter Tryz.func142, Tryz.ntmps142
  go_wp2_with fail
  refine (place_any p t n cap s w HR.out HN.out hbig hs HF.out hsz).mono ?_
  rintro e w1 ⟨i, f, rfl, hP, ho⟩; have hD := Lib.hid (place_isDir hP hs)
  by_cases h0 : str s = []
  · have g : s.toList = [] := HE.out.2 h0
    have g' : s.toList.isEmpty = true := by simp [g]
    go_wp2_with fail
    go_ret
    exact ⟨by rw [hD.out]; simp [h0], ho⟩
  have g : ¬ s.toList = [] := fun e => h0 (HE.out.1 e)
  have g' : s.toList.isEmpty = false := by simpa using g
  cases f
  · go_wp2_with fail
    go_ret
    exact ⟨by rw [hD.out]; simp [h0], ho⟩
  obtain ⟨m, hm, hp⟩ := hP.fd.1 rfl; obtain ⟨hi, hmi⟩ := List.getElem?_eq_some_iff.1 hm; obtain ⟨a, rfl, hna, hab⟩ := (HR.out.off ho).get i hi; rw [hmi] at hna; have hin : i < n := by rw [← HN.out]; exact hi
  have c1 := hna.kind; have HM := Lib.hid hm; clear hna hm hmi hp
  go_wp2_with fail
  go_ret
  exact ⟨by rw [hD.out, HM.out]; simp [h0, beq2], ho⟩
end
section
open Go.RowKit Go.Op
open Classical in
noncomputable def ext (W x : World) : World := if Off [] W x then x else W
theorem ext_off (W x : World) : Off [] W (ext W x) := by
  unfold ext
  split
  · assumption
  exact Off.refl _ _
theorem ext_of {W x : World} (h : Off [] W x) : ext W x = x := by unfold ext; rw [if_pos h]
theorem ext_cell {W : World} {p : Addr} (hp : p.block < W.heap.size) (x : World) : (ext W x).cell? p = W.cell? p := (ext_off W x).cell hp (by simp)
theorem wp_region_ext {P : Program} {id : Nat} {Q : Exit → Act → World → Prop} {a : Act} {W : World} {l : List Oper} (hm : P.follows .mixedOrders = true) (hB : Region.lexB .any l.toArray = true)
    (h : wpQuiet P l.toArray (fun w' => ∃ x, w' = ext W x) (fun a' => ∀ w', (∃ x, w' = ext W x) → Q .normal a' w') l a) : (Code.region id l.toArray true).wp P Q a W :=
  wp_region_quiet (C := fun w' => ∃ x, w' = ext W x) hm hB ⟨W.drew, (ext_of ((Off.refl _ _).drew)).symm⟩ (by simpa using h)
theorem Calls.ext_of {P : Program} {f : FuncId} {args : Array Value} {W x : World} {v : Value} (h : Calls P f args (ext W x) fun e w' => e = .returned v ∧ Off [] (ext W x) w') :
    Calls P f args (ext W x) fun e w'' => e = .returned v ∧ ∃ y, w'' = ext W y :=
  h.mono fun _ w' ⟨he, ho⟩ => ⟨he, w', (Go.Proofs.YthciejabapdbgaaGreatDoor.ext_of ((ext_off W x).trans_nil ho)).symm⟩
end
section
open Go.RowKit Go.Op
theorem okFrom_snoc (n : Node) : ∀ (l done : List Node), okFrom done (l ++ [n]) = (okFrom done l && okNext (done ++ l) n)
  | [], done => by simp [okFrom]
  | m :: l, done => by
    have := okFrom_snoc n l (done ++ [m]); simp only [List.cons_append, okFrom, this]; rw [Bool.and_assoc]; simp
theorem okFrom_take_succ {t : List Node} {k : Nat} (hk : k < t.length) (h : okFrom [] (t.take k) = true) (hn : okNext (t.take k) t[k] = true) : okFrom [] (t.take (k + 1)) = true := by
  rw [List.take_succ_eq_append_getElem hk, okFrom_snoc, h, List.nil_append, hn]; rfl
theorem okTree_bad {t : List Node} {k : Nat} (hk : k < t.length) (hn : okNext (t.take k) t[k] = false) : okTree t = false := by
  cases h : okTree t
  · rfl
  rw [okTree_next h k hk] at hn; cases hn
def ndCells (n : Node) : Array Value := #[.string n.path, .int .i64 n.kind, .string n.data, .int .i64 n.mode]
theorem path_v (s : ByteArray) (w : World) (hT : Tabs w) (v : Bool) (hv : okPath (str s) = v) : Calls Tryz.prog 93 #[.string s] w fun e w' => e = .returned (.bool v) ∧ Off [] w w' := hv ▸ path_any s w hT
theorem right_v (n : Node) (w : World) (v : Bool) (hv : rightN n = v) : Calls Tryz.prog 140 #[.agg #[.string n.path, .int .i64 n.kind, .string n.data, .int .i64 n.mode]] w fun e w' => e = .returned (.bool v) ∧ Off [] w w' := hv ▸ right_any n w
theorem order_v (a b : ByteArray) (w : World) (ha : a.size ≤ maxLen) (hb : b.size ≤ maxLen) (c : Int) (hc : order (str a) (str b) = c) : Calls Tryz.prog 141 #[.string a, .string b] w fun e w' => e = .returned (.int .i64 c) ∧ Off [] w w' := hc ▸ order_any a b w ha hb
theorem dir_v (p : Option Addr) (t : List Node) (n cap : Nat) (s : ByteArray) (w : World) (hR : Row w p t) (hn : t.length = n) (hbig : n < 4611686018427387904) (hs : Sorted t) (hF : Fits t) (hsz : s.size ≤ maxLen) (v : Bool) (hv : isDir t (str s) = v) :
    Calls Tryz.prog 142 #[.slice p n cap, .string s] w fun e w' => e = .returned (.bool v) ∧ Off [] w w' := hv ▸ dir_any p t n cap s w hR hn hbig hs hF hsz
theorem Fits.take {t : List Node} (h : Fits t) (k : Nat) : Fits (t.take k) := fun n hn => h n (List.mem_of_mem_take hn)
theorem bs_parent_size (s : ByteArray) : (bs (parent (str s))).size ≤ s.size := by
  rw [bs_size]; unfold parent
  split
  · rcases last_cases s with ⟨_, hn⟩ | ⟨i, _, hi, hc, hn⟩
    · rw [parts_clean _ hn]; simp [joinP]
    rw [parts_last hc hn, List.dropLast_concat, joinP_parts]; simp; omega
  simp
def chkV (t : List Node) : Int := if okTree t then 0 else 60
def lastOk (done : List Node) (n : Node) : Bool := match done.getLast? with | none => true | some m => decide (order m.p n.p < 0)
theorem okNext_eq (done : List Node) (n : Node) : okNext done n = (okPath n.p && rightN n && lastOk done n && isDir done (parent n.p)) := rfl
theorem lastOk_some {done : List Node} {n m : Node} (h : done.getLast? = some m) : lastOk done n = decide (order m.p n.p < 0) := by unfold lastOk; rw [h]
theorem lastOk_none {done : List Node} {n : Node} (h : done.getLast? = none) : lastOk done n = true := by unfold lastOk; rw [h]
theorem okNext_of {done : List Node} {n : Node} (v1 v2 v4 : Bool) (h1 : okPath (str n.path) = v1) (h2 : v1 = true → rightN n = v2) (h3 : v1 = true → v2 = true → lastOk done n = true) (h4 : v1 = true → v2 = true → isDir done (parent (str n.path)) = v4) :
    okNext done n = (v1 && v2 && v4) := by
  rw [okNext_eq]; have e1 : okPath n.p = v1 := h1
  rw [e1]
  cases v1
  · rfl
  rw [h2 rfl]
  cases v2
  · rfl
  have e4 : isDir done (parent n.p) = v4 := h4 rfl rfl
  rw [h3 rfl rfl, e4]; rfl
set_option maxRecDepth 100000 in
set_option maxHeartbeats 4000000 in
theorem check_any (p : Option Addr) (t : List Node) (n cap : Nat) (w : World) (hR : Row w p t) (hn : t.length = n) (hcap : n ≤ cap) (hbig : n ≤ maxLen) (hF : Fits t) (hT : Tabs w) :
    Calls Tryz.prog 61 #[.slice p n cap] w fun e w' => e = .returned (.int .i64 (chkV t)) ∧ Off [] w w' := by
  have HN := Lib.hid hn; have HR := Lib.hid hR; have HF := Lib.hid hF; clear hn hR hF; unfold maxLen at hbig
  by_cases hlen : n ≤ 1000
  · go_enter Tryz.func61, Tryz.ntmps61
    go_wp2_with fail
    go_loopw [10] (fun x wr => ∃ k : Nat, x = .int .i64 k ∧ k ≤ n ∧ Off [] w wr ∧ Hid (okFrom [] (t.take k) = true)) (fun x _ => n - (intOf x).toNat)
    case atStart => exact ⟨0, rfl, by omega, Off.refl _ _, Lib.hid (by simp [okFrom])⟩
    case round =>
      obtain ⟨k, rfl, hk, ho, hok⟩ := hrel
      by_cases hkn : k < n
      · have hkl : k < t.length := by rw [HN.out]; omega
        obtain ⟨a, rfl, hna, hab⟩ := (HR.out.off ho).get k hkl; have hfit := HF.out _ (List.getElem_mem hkl); have HBAD := Lib.hid (fun h => okTree_bad (t := t) hkl h); have HGOOD := Lib.hid (fun h => okFrom_take_succ hkl hok.out h); have HSO := Lib.hid (show Sorted (t.take k) by simpa using okFrom_sorted (t := t.take k) (done := []) List.Pairwise.nil hok.out)
        have HTL := Lib.hid (show (t.take k).length = k by rw [List.length_take]; omega); have HFT := Lib.hid (HF.out.take k); have HRT := Lib.hid (HR.out.take k); generalize hnd : t[k] = nd at *
        have c0 := hna.path; have c1 := hna.kind; have c2 := hna.data; have c3 := hna.mode; have hcapk : k ≤ cap := by omega
        clear hna hnd; have hb0 : Off [] w (wr.alloc (.cells (ndCells nd) 105)) := ho.alloc _
        have hb1 : Blk (wr.alloc (.cells (ndCells nd) 105)) wr.heap.size 105 (ndCells nd) := Blk.new wr 105 (ndCells nd)
        have HB := Lib.hid (And.intro hb0 hb1); clear hb0 hb1
        cases hv1 : okPath (str nd.path)
        · have HV1 := Lib.hid hv1
          clear hv1
          go_wp2_with fail
          refine code_gen (fun W => Off [] w W ∧ Blk W wr.heap.size 105 (ndCells nd)) HB.out ?_
          rintro W ⟨hoW, hbW⟩; unfold ndCells at hbW; have hcW := hbW.cell; have hlW := hbW.lt; clear hbW; have hx := fun (x : World) (p : Addr) (hp : p.block < W.heap.size) => ext_cell hp x
          refine wp_region_ext (by kernel_rfl) (by kernel_rfl) ?_
          repeat (go_big_quiet_step (first
            | (go_at_call 93; exact Calls.ext_of (path_v nd.path _ (hT.off (hoW.trans_nil (ext_off W _))) false HV1.out))))
          refine wpQuiet_nil ?_
          rintro W2 ⟨x, rfl⟩; have hoE := hoW.trans_nil (ext_off W x); clear hx hcW hlW; generalize ext W x = W2 at *
          go_wp2_with fail
          go_ret
          exact ⟨by rw [chkV, HBAD.out (okNext_of false true true HV1.out (fun h => by cases h) (fun h => by cases h) (fun h => by cases h))]; rfl, hoE⟩
        have hsz : nd.path.size ≤ 400 := by rw [← str_size]; exact okPath_size hv1
        have hpsz : (bs (parent (str nd.path))).size ≤ maxLen := by have := bs_parent_size nd.path; unfold maxLen; omega
        have HV1 := Lib.hid hv1; clear hv1
        cases hv2 : rightN nd
        · have HV2 := Lib.hid hv2
          clear hv2
          go_wp2_with fail
          refine code_gen (fun W => Off [] w W ∧ Blk W wr.heap.size 105 (ndCells nd)) HB.out ?_
          rintro W ⟨hoW, hbW⟩; unfold ndCells at hbW; have hcW := hbW.cell; have hlW := hbW.lt; clear hbW; have hx := fun (x : World) (p : Addr) (hp : p.block < W.heap.size) => ext_cell hp x
          refine wp_region_ext (by kernel_rfl) (by kernel_rfl) ?_
          repeat (go_big_quiet_step (first
            | (go_at_call 93; exact Calls.ext_of (path_v nd.path _ (hT.off (hoW.trans_nil (ext_off W _))) true HV1.out))
            | (go_at_call 140; exact Calls.ext_of (right_v nd _ false HV2.out))))
          refine wpQuiet_nil ?_
          rintro W2 ⟨x, rfl⟩; have hoE := hoW.trans_nil (ext_off W x); clear hx hcW hlW; generalize ext W x = W2 at *
          go_wp2_with fail
          go_ret
          exact ⟨by rw [chkV, HBAD.out (okNext_of true false true HV1.out (fun _ => HV2.out) (fun _ h => by cases h) (fun _ h => by cases h))]; rfl, hoE⟩
        have HV2 := Lib.hid hv2; clear hv2; have hv4' : ∀ v, isDir (t.take k) (parent (str nd.path)) = v → isDir (t.take k) (str (bs (parent (str nd.path)))) = v := fun v h => by rw [str_bs]; exact h
        by_cases hk0 : k = 0
        · have H3 := Lib.hid (show lastOk (t.take k) nd = true from lastOk_none (by rw [hk0]; simp))
          have hkz : ¬ ((0 : Int) < (k : Int)) := by omega
          have hkz' : ¬ (0 < k) := by omega
          have HK0 := Lib.hid hk0; clear hk0
          cases hv4 : isDir (t.take k) (parent (str nd.path))
          · have HV4 := Lib.hid (hv4' _ hv4)
            have HV4o := Lib.hid hv4; clear hv4 hv4'
            go_wp2_with fail
            refine code_gen (fun W => Off [] w W ∧ Blk W wr.heap.size 105 (ndCells nd)) HB.out ?_
            rintro W ⟨hoW, hbW⟩; unfold ndCells at hbW; have hcW := hbW.cell; have hlW := hbW.lt; clear hbW; have hx := fun (x : World) (p : Addr) (hp : p.block < W.heap.size) => ext_cell hp x
            refine wp_region_ext (by kernel_rfl) (by kernel_rfl) ?_
            repeat (go_big_quiet_step (first
              | (go_at_call 93; exact Calls.ext_of (path_v nd.path _ (hT.off (hoW.trans_nil (ext_off W _))) true HV1.out))
              | (go_at_call 140; exact Calls.ext_of (right_v nd _ true HV2.out))
              | (go_at_call 143; exact Calls.ext_of (parent_any nd.path _ (by omega) (hT.off (hoW.trans_nil (ext_off W _)))))
              | (go_at_call 142; exact Calls.ext_of (dir_v (some a) (t.take k) k cap (bs (parent (str nd.path))) _ (HRT.out.off (hoW.trans_nil (ext_off W _))) HTL.out (by omega) HSO.out HFT.out hpsz false HV4.out))))
            refine wpQuiet_nil ?_
            rintro W2 ⟨x, rfl⟩; have hoE := hoW.trans_nil (ext_off W x); clear hx hcW hlW; generalize ext W x = W2 at *
            go_wp2_with fail
            go_ret
            exact ⟨by rw [chkV, HBAD.out (okNext_of true true false HV1.out (fun _ => HV2.out) (fun _ _ => H3.out) (fun _ _ => HV4o.out))]; rfl, hoE⟩
          have HV4 := Lib.hid (hv4' _ hv4); have HV4o := Lib.hid hv4; clear hv4 hv4'
          go_wp2_with fail
          refine code_gen (fun W => Off [] w W ∧ Blk W wr.heap.size 105 (ndCells nd)) HB.out ?_
          rintro W ⟨hoW, hbW⟩; unfold ndCells at hbW; have hcW := hbW.cell; have hlW := hbW.lt; clear hbW; have hx := fun (x : World) (p : Addr) (hp : p.block < W.heap.size) => ext_cell hp x
          refine wp_region_ext (by kernel_rfl) (by kernel_rfl) ?_
          repeat (go_big_quiet_step (first
            | (go_at_call 93; exact Calls.ext_of (path_v nd.path _ (hT.off (hoW.trans_nil (ext_off W _))) true HV1.out))
            | (go_at_call 140; exact Calls.ext_of (right_v nd _ true HV2.out))
            | (go_at_call 143; exact Calls.ext_of (parent_any nd.path _ (by omega) (hT.off (hoW.trans_nil (ext_off W _)))))
            | (go_at_call 142; exact Calls.ext_of (dir_v (some a) (t.take k) k cap (bs (parent (str nd.path))) _ (HRT.out.off (hoW.trans_nil (ext_off W _))) HTL.out (by omega) HSO.out HFT.out hpsz true HV4.out))))
          refine wpQuiet_nil ?_
          rintro W2 ⟨x, rfl⟩; have hoE := hoW.trans_nil (ext_off W x); clear hx hcW hlW; generalize ext W x = W2 at *
          go_wp2_with fail
          exact ⟨⟨k + 1, rfl, by omega, hoE, Lib.hid (HGOOD.out (okNext_of true true true HV1.out (fun _ => HV2.out) (fun _ _ => H3.out) (fun _ _ => HV4o.out)))⟩, by simp only [intOf]; omega⟩
        obtain ⟨j, rfl⟩ : ∃ j, k = j + 1 := ⟨k - 1, by omega⟩
        clear hk0; have hjl : j < t.length := by omega
        obtain ⟨a', ea, hnp, hblk⟩ := HR.out.get j hjl; have ea : a' = a := (Option.some.inj ea).symm
        subst ea; have hpfit := (HF.out _ (List.getElem_mem hjl)).1; have hlast : (t.take (j + 1)).getLast? = some t[j] := by rw [List.take_succ_eq_append_getElem hjl, List.getLast?_concat]
        have HLAST := Lib.hid hlast; generalize t[j] = pn at *; obtain ⟨pv, hpv⟩ : ∃ pv, pn.path = pv := ⟨_, rfl⟩
        have HP0 := Lib.hid hnp.path; have hblk0 : a'.block < w.heap.size := hblk
        have HPN := Lib.hid hpv; rw [hpv] at hpfit; have HP0 := Lib.hid (HPN.out ▸ HP0.out); clear ea hnp hlast hpv; obtain ⟨c, hc⟩ : ∃ c, order (str pv) (str nd.path) = c := ⟨_, rfl⟩
        have HC := Lib.hid hc; clear hc; have hwj : IntKind.i64.wrap (j : Int) = j := by rw [IntWalk.i64_in] <;> omega
        have hj0 : (0 : Int) ≤ j := by omega
        have hj1 : (j : Int) < n := by omega
        by_cases hc0 : 0 ≤ c
        · clear hv4'
          go_wp2_with fail
          refine code_gen (fun W => Off [] w W ∧ Blk W wr.heap.size 105 (ndCells nd)) HB.out ?_
          rintro W ⟨hoW, hbW⟩; unfold ndCells at hbW; have hcW := hbW.cell; have hlW := hbW.lt; clear hbW; have hpb : (a'.add (j * 4)).block < W.heap.size := by rw [add_block]; exact Nat.lt_of_lt_of_le hblk0 hoW.size
          have hpc := (hoW.cell (p := a'.add (j * 4)) (by rw [add_block]; exact hblk0) (by simp)).trans HP0.out; have hx := fun (x : World) (p : Addr) (hp : p.block < W.heap.size) => ext_cell hp x
          refine wp_region_ext (by kernel_rfl) (by kernel_rfl) ?_
          repeat (go_big_quiet_step (first
            | (go_at_call 93; exact Calls.ext_of (path_v nd.path _ (hT.off (hoW.trans_nil (ext_off W _))) true HV1.out))
            | (go_at_call 140; exact Calls.ext_of (right_v nd _ true HV2.out))
            | (go_at_call 141; exact Calls.ext_of (order_v pv nd.path _ hpfit hfit.1 c HC.out))))
          refine wpQuiet_nil ?_
          rintro W2 ⟨x, rfl⟩; have hoE := hoW.trans_nil (ext_off W x); clear hx hcW hlW; clear hpb hpc; generalize ext W x = W2 at *
          go_wp2_with fail
          go_ret
          refine ⟨?_, hoE⟩
          have hb : okNext (t.take (j + 1)) nd = false := by
            rw [okNext_eq]; have e3 : lastOk (t.take (j + 1)) nd = false := by
              rw [lastOk_some HLAST.out]; have : order pn.p nd.p = c := by unfold Node.p; rw [HPN.out]; exact HC.out
              rw [this]; exact decide_eq_false (by omega)
            rw [e3]; simp
          rw [chkV, HBAD.out hb]; rfl
        have hcd : decide (0 ≤ c) = false := decide_eq_false hc0
        have h3 : lastOk (t.take (j + 1)) nd = true := by
          rw [lastOk_some HLAST.out]; have : order pn.p nd.p = c := by unfold Node.p; rw [HPN.out]; exact HC.out
          rw [this]; exact decide_eq_true (by omega)
        have H3 := Lib.hid h3; clear h3
        cases hv4 : isDir (t.take (j + 1)) (parent (str nd.path))
        · have HV4 := Lib.hid (hv4' _ hv4)
          have HV4o := Lib.hid hv4; clear hv4 hv4'
          go_wp2_with fail
          refine code_gen (fun W => Off [] w W ∧ Blk W wr.heap.size 105 (ndCells nd)) HB.out ?_
          rintro W ⟨hoW, hbW⟩; unfold ndCells at hbW; have hcW := hbW.cell; have hlW := hbW.lt; clear hbW; have hpb : (a'.add (j * 4)).block < W.heap.size := by rw [add_block]; exact Nat.lt_of_lt_of_le hblk0 hoW.size
          have hpc := (hoW.cell (p := a'.add (j * 4)) (by rw [add_block]; exact hblk0) (by simp)).trans HP0.out; have hx := fun (x : World) (p : Addr) (hp : p.block < W.heap.size) => ext_cell hp x
          refine wp_region_ext (by kernel_rfl) (by kernel_rfl) ?_
          repeat (go_big_quiet_step (first
            | (go_at_call 93; exact Calls.ext_of (path_v nd.path _ (hT.off (hoW.trans_nil (ext_off W _))) true HV1.out))
            | (go_at_call 140; exact Calls.ext_of (right_v nd _ true HV2.out))
            | (go_at_call 141; exact Calls.ext_of (order_v pv nd.path _ hpfit hfit.1 c HC.out))
            | (go_at_call 143; exact Calls.ext_of (parent_any nd.path _ (by omega) (hT.off (hoW.trans_nil (ext_off W _)))))
            | (go_at_call 142; exact Calls.ext_of (dir_v (some a') (t.take (j + 1)) (j + 1) cap (bs (parent (str nd.path))) _ (HRT.out.off (hoW.trans_nil (ext_off W _))) HTL.out (by omega) HSO.out HFT.out hpsz false HV4.out))))
          refine wpQuiet_nil ?_
          rintro W2 ⟨x, rfl⟩; have hoE := hoW.trans_nil (ext_off W x); clear hx hcW hlW; clear hpb hpc; generalize ext W x = W2 at *
          go_wp2_with fail
          go_ret
          exact ⟨by rw [chkV, HBAD.out (okNext_of true true false HV1.out (fun _ => HV2.out) (fun _ _ => H3.out) (fun _ _ => HV4o.out))]; rfl, hoE⟩
        have HV4 := Lib.hid (hv4' _ hv4); have HV4o := Lib.hid hv4; clear hv4 hv4'
        go_wp2_with fail
        refine code_gen (fun W => Off [] w W ∧ Blk W wr.heap.size 105 (ndCells nd)) HB.out ?_
        rintro W ⟨hoW, hbW⟩; unfold ndCells at hbW; have hcW := hbW.cell; have hlW := hbW.lt; clear hbW; have hpb : (a'.add (j * 4)).block < W.heap.size := by rw [add_block]; exact Nat.lt_of_lt_of_le hblk0 hoW.size
        have hpc := (hoW.cell (p := a'.add (j * 4)) (by rw [add_block]; exact hblk0) (by simp)).trans HP0.out; have hx := fun (x : World) (p : Addr) (hp : p.block < W.heap.size) => ext_cell hp x
        refine wp_region_ext (by kernel_rfl) (by kernel_rfl) ?_
        repeat (go_big_quiet_step (first
          | (go_at_call 93; exact Calls.ext_of (path_v nd.path _ (hT.off (hoW.trans_nil (ext_off W _))) true HV1.out))
          | (go_at_call 140; exact Calls.ext_of (right_v nd _ true HV2.out))
          | (go_at_call 141; exact Calls.ext_of (order_v pv nd.path _ hpfit hfit.1 c HC.out))
          | (go_at_call 143; exact Calls.ext_of (parent_any nd.path _ (by omega) (hT.off (hoW.trans_nil (ext_off W _)))))
          | (go_at_call 142; exact Calls.ext_of (dir_v (some a') (t.take (j + 1)) (j + 1) cap (bs (parent (str nd.path))) _ (HRT.out.off (hoW.trans_nil (ext_off W _))) HTL.out (by omega) HSO.out HFT.out hpsz true HV4.out))))
        refine wpQuiet_nil ?_
        rintro W2 ⟨x, rfl⟩; have hoE := hoW.trans_nil (ext_off W x); clear hx hcW hlW; clear hpb hpc; generalize ext W x = W2 at *
        go_wp2_with fail
        exact ⟨⟨j + 1 + 1, rfl, by omega, hoE, Lib.hid (HGOOD.out (okNext_of true true true HV1.out (fun _ => HV2.out) (fun _ _ => H3.out) (fun _ _ => HV4o.out)))⟩, by simp only [intOf]; omega⟩
      obtain rfl : k = n := by omega
      go_wp2_with fail
      go_ret
      have hall : okTree t = true := by
        unfold okTree; have := hok.out; rw [List.take_of_length_le (by rw [HN.out]; exact Nat.le_refl _)] at this; rw [this, HN.out]; simp [hlen]
      exact ⟨by rw [chkV, hall]; rfl, ho⟩
  go_enter Tryz.func61, Tryz.ntmps61
  go_wp2_with fail
  go_ret
  have hbad : okTree t = false := by unfold okTree; rw [HN.out]; simp [hlen]
  exact ⟨by rw [chkV, hbad]; rfl, Off.refl _ _⟩
end
section
open Go.RowKit Go.Op
def namesOf (t : List Node) (d : Str) : List ByteArray := (t.filter fun n => decide (parent n.p = d)).map fun n => bs (base n.p)
def namesR (t : List Node) (d : Str) : List ByteArray := if okTree t && isDir t d then namesOf t d else []
def NamesP (t : List Node) (d : Str) (w : World) (e : Ending) (w' : World) : Prop :=
  ∃ v, e = .returned v ∧ w'.ownsRow w.heap.size 9 1 v (namesR t d).length ((namesR t d).map Value.string) ∧ Off [] w w'
theorem infoStr : (Tryz.prog.info? 9).map (fun i => (i.zero, i.size, i.bytes)) = some (some (.string ⟨#[]⟩), 1, 16) := by kernel_rfl
theorem namesOf_step {t : List Node} {k : Nat} (hk : k < t.length) (d : Str) : namesOf (t.take (k + 1)) d = if parent t[k].p = d then namesOf (t.take k) d ++ [bs (base t[k].p)] else namesOf (t.take k) d := by
  unfold namesOf; rw [List.take_succ_eq_append_getElem hk, List.filter_append, List.map_append]
  split
  · rename_i h; simp [h]
  rename_i h; simp [h]
theorem namesOf_len (t : List Node) (d : Str) : (namesOf t d).length ≤ t.length := by
  unfold namesOf; rw [List.length_map]; exact List.length_filter_le _ _
theorem chkV_ok {t : List Node} (h : okTree t = true) : chkV t = 0 := by unfold chkV; rw [h]; rfl
theorem chkV_bad {t : List Node} (h : okTree t = false) : chkV t = 60 := by unfold chkV; rw [h]; rfl
theorem check_v (p : Option Addr) (t : List Node) (n cap : Nat) (w : World) (hR : Row w p t) (hn : t.length = n) (hcap : n ≤ cap) (hbig : n ≤ maxLen) (hF : Fits t) (hT : Tabs w) (c : Int) (hc : chkV t = c) :
    Calls Tryz.prog 61 #[.slice p n cap] w fun e w' => e = .returned (.int .i64 c) ∧ Off [] w w' := hc ▸ check_any p t n cap w hR hn hcap hbig hF hT
theorem ownsRow_off {w w' : World} {base e sz n : Nat} {v : Value} {xs : List Value} (h : w.ownsRow base e sz v n xs) (ho : Off [] w w') : w'.ownsRow base e sz v n xs := by
  refine ⟨h.1, ?_⟩
  rcases h.2 with h | ⟨g, cap, cur, h1, h2, h3, h4⟩
  · exact .inl h
  exact .inr ⟨g, cap, cur, h1, h2, (ho.block g (Array.getElem?_eq_some_iff.1 h3).1 (by simp)).trans h3, h4⟩
theorem own_off {w wr w1 : World} {b : Value} {n e sz : Nat} {xs : List Value} {o : Obj} (hoff : Off [] w wr) (hown : wr.ownsRow w.heap.size e sz b n xs) (hg : (wr.alloc o).grownBy w1 b.ownBlock) : Off [] w w1 := by
  refine (hoff.alloc o).grown hg (fun g hg' => .inl ?_)
  rcases hown.2 with ⟨rfl, _⟩ | ⟨g', cap, cur, rfl, hb, _⟩
  · cases hg'
  cases hg'; exact hb
def NmRel (w : World) (t : List Node) (d : Str) (k : Nat) (v : Value) (wr : World) : Prop :=
  wr.ownsRow w.heap.size 9 1 v (namesOf (t.take k) d).length ((namesOf (t.take k) d).map Value.string) ∧ Off [] w wr
set_option maxRecDepth 100000 in
set_option maxHeartbeats 4000000 in
theorem names_any (p : Option Addr) (t : List Node) (n cap : Nat) (s : ByteArray) (w : World) (hR : Row w p t) (hn : t.length = n) (hcap : n ≤ cap) (hbig : n ≤ maxLen) (hF : Fits t) (hsz : s.size ≤ maxLen) (hT : Tabs w) :
    Calls Tryz.prog 180 #[.slice p n cap, .string s] w (NamesP t (str s) w) := by
  have HN := Lib.hid hn; have HR := Lib.hid hR; have HF := Lib.hid hF; clear hn hR hF
  cases hok : okTree t
  · have HOK := Lib.hid hok
    clear hok
    go_enter Tryz.func180, Tryz.ntmps180
    go_wp2_with fail
    refine (check_v p t n cap _ HR.out HN.out hcap hbig HF.out hT 60 (chkV_bad HOK.out)).mono ?_
    rintro e w1 ⟨rfl, ho⟩
    go_wp2_with fail
    go_ret
    have e0 : namesR t (str s) = [] := by unfold namesR; rw [HOK.out]; rfl
    exact ⟨_, rfl, by rw [e0]; exact ⟨rfl, .inl ⟨rfl, rfl⟩⟩, ho⟩
  have hlen : n ≤ 1000 := by rw [← HN.out]; exact okTree_len hok
  have HSO := Lib.hid (okTree_sorted hok); have HOK := Lib.hid hok; clear hok
  cases hd : isDir t (str s)
  · have HD := Lib.hid hd
    clear hd
    go_enter Tryz.func180, Tryz.ntmps180
    go_wp2_with fail
    refine (check_v p t n cap _ HR.out HN.out hcap hbig HF.out hT 0 (chkV_ok HOK.out)).mono ?_
    rintro e w1 ⟨rfl, ho⟩
    go_wp2_with fail
    refine (dir_v p t n cap s _ (HR.out.off ho) HN.out (by omega) HSO.out HF.out hsz false HD.out).mono ?_
    rintro e w2 ⟨rfl, ho2⟩
    go_wp2_with fail
    go_ret
    have e0 : namesR t (str s) = [] := by unfold namesR; rw [HOK.out, HD.out]; rfl
    exact ⟨_, rfl, by rw [e0]; exact ⟨rfl, .inl ⟨rfl, rfl⟩⟩, ho.trans_nil ho2⟩
  have HD := Lib.hid hd; clear hd; obtain ⟨i0, hi, hz0, hz1, hz2⟩ := info_parts infoStr
  go_enter Tryz.func180, Tryz.ntmps180
  go_wp2_with fail
  refine (check_v p t n cap _ HR.out HN.out hcap hbig HF.out hT 0 (chkV_ok HOK.out)).mono ?_
  rintro e w1 ⟨rfl, ho⟩
  go_wp2_with fail
  refine (dir_v p t n cap s _ (HR.out.off ho) HN.out (by omega) HSO.out HF.out hsz true HD.out).mono ?_
  rintro e w2 ⟨rfl, ho2⟩; have ho3 := ho.trans_nil ho2; clear ho ho2
  go_wp2_with fail
  go_loopw [19, 5] (fun x l wr => ∃ k : Nat, x = .int .i64 k ∧ k ≤ n ∧ NmRel w t (str s) k l wr) (fun x _ _ => n - (intOf x).toNat)
  case atStart => exact ⟨0, rfl, by omega, ⟨rfl, .inl ⟨rfl, rfl⟩⟩, ho3⟩
  case round =>
    obtain ⟨k, rfl, hk, hrel⟩ := hrel; have HREL := Lib.hid hrel; have hoff := hrel.2; clear hrel ho3
    by_cases hkn : k < n
    · have hkl : k < t.length := by rw [HN.out]; omega
      obtain ⟨a, rfl, hna, hab⟩ := (HR.out.off hoff).get k hkl; have hfit : t[k].path.size ≤ 400 := okTree_small HOK.out (List.getElem_mem hkl)
      have HST := Lib.hid (namesOf_step hkl (str s)); generalize t[k] = nd at *; have c0 := hna.path; have c1 := hna.kind; have c2 := hna.data; have c3 := hna.mode; clear hna; have hown := HREL.out.1; have hnl : (namesOf (t.take k) (str s)).length ≤ 1000 := by have := namesOf_len (t.take k) (str s); rw [List.length_take] at this; omega
      by_cases hp : parent (str nd.path) = str s
      · have hpe : ((bs (parent (str nd.path))).toList == s.toList) = true := by rw [toList_str, toList_str, str_bs]; exact beq_iff_eq.2 hp
        have HP := Lib.hid hp; clear hp
        go_wp2_with fail
        refine (parent_any nd.path _ (by omega) (hT.off (hoff.alloc _))).mono ?_
        rintro e w4 ⟨rfl, ho4⟩; have hB4 := (Blk.new wr 105 (ndCells nd)).off ho4 (by simp); unfold ndCells at hB4; have hc4 := hB4.cell; have hl4 := hB4.lt; clear c0 c1 c2 c3
        go_wp2_with fail
        refine (base_any nd.path _ (by omega) (hT.off ((hoff.alloc _).trans_nil ho4))).mono ?_
        rintro e w5 ⟨rfl, ho5⟩; have hoff5 := ((hoff.alloc (.cells (ndCells nd) 105)).trans_nil ho4).trans_nil ho5; clear hc4 hl4 hB4; have hown5 := ownsRow_off (ownsRow_off (hown.alloc (.cells (ndCells nd) 105)) ho4) ho5
        go_wp2_with (at_builtin; refine wpList_append_own _ rfl _ _ 45 rfl w.heap.size 9 i0 (.string ⟨#[]⟩) 1 16 Tryz.underlying45 hi hz0 hz1 hz2 rfl (by decide) _ _ _ rfl (hown5.alloc _) ⟨w5.heap.size, 0, none⟩ 1 1 [_] rfl rfl (cell_one_at (Blk.new w5 _ _)) (by simp [Value.oneCell']) (by unfold maxLen; omega) (by omega) (by have := hoff5.size; simp; omega) ?_; intro v' w6 hown' hgrow _)
        refine ⟨⟨k + 1, by push_cast; rfl, by omega, ?_, own_off hoff5 hown5 hgrow⟩, ?_⟩
        · rw [HST.out]
          rw [if_pos (show parent nd.p = str s from HP.out)]
          simpa [Node.p] using hown'
        simp only [intOf]; omega
      have hpe : ((bs (parent (str nd.path))).toList == s.toList) = false := by rw [toList_str, toList_str, str_bs]; exact beq_eq_false_iff_ne.2 hp
      have HP := Lib.hid hp; clear hp hown
      go_wp2_with fail
      refine (parent_any nd.path _ (by omega) (hT.off (hoff.alloc _))).mono ?_
      rintro e w4 ⟨rfl, ho4⟩; clear c0 c1 c2 c3
      go_wp2_with fail
      refine ⟨⟨k + 1, by push_cast; rfl, by omega, ?_, (hoff.alloc (.cells (ndCells nd) 105)).trans_nil ho4⟩, ?_⟩
      · rw [HST.out, if_neg (show ¬ parent nd.p = str s from HP.out)]
        exact ownsRow_off (HREL.out.1.alloc (.cells (ndCells nd) 105)) ho4
      simp only [intOf]; omega
    obtain rfl : k = n := by omega
    go_wp2_with fail
    go_ret
    have e0 : namesR t (str s) = namesOf (t.take k) (str s) := by
      unfold namesR; rw [HOK.out, HD.out, List.take_of_length_le (by rw [HN.out]; exact Nat.le_refl _)]
      rfl
    exact ⟨_, rfl, by rw [e0]; exact HREL.out.1, HREL.out.2⟩
def node0 : Node := ⟨⟨#[]⟩, 0, ⟨#[]⟩, 0⟩
end
section
open Go.RowKit
theorem okName_ne {s : Str} (h : okName s = true) : s ≠ [] := by
  unfold okName at h; simp only [Bool.and_eq_true, decide_eq_true_eq] at h; exact h.1.1.1.1.1
theorem okPath_names {p : Str} (h : okPath p = true) : ∀ x ∈ parts p, okName x = true := by
  unfold okPath at h; simp only [Bool.and_eq_true, List.all_eq_true] at h; exact h.2
theorem okPath_ne {p : Str} (h : okPath p = true) : p ≠ [] := fun e => by
  subst e; exact okName_ne (okPath_names h [] (by simp [parts])) rfl
theorem joinP_ne {l : List Str} (hl : l ≠ []) (h : ∀ x ∈ l, x ≠ []) : joinP l ≠ [] := by
  match l, hl, h with
  | [x], _, h => exact h x (by simp)
  | x :: y :: l, _, h =>
    rw [joinP_cons x (by simp)]; simp
theorem joinP_snoc (b : Str) : ∀ {l : List Str}, l ≠ [] → joinP (l ++ [b]) = joinP l ++ 47 :: b
  | [], h => absurd rfl h
  | [x], _ => by simp [joinP]
  | x :: y :: l, _ => by
    have ih := joinP_snoc b (l := y :: l) (by simp); rw [List.cons_append, joinP_cons x (by simp), ih, joinP_cons x (by simp)]; simp
theorem parts_split {p : Str} (h : okPath p = true) : parts p = (parts p).dropLast ++ [base p] := by
  unfold base; rw [if_pos h]; exact (List.dropLast_concat_getLast (parts_ne p)).symm
theorem parent_eq {p : Str} (h : okPath p = true) : parent p = joinP (parts p).dropLast := by unfold parent; rw [if_pos h]
theorem drop_names {p : Str} (h : okPath p = true) : ∀ x ∈ (parts p).dropLast, x ≠ [] := fun x hx => okName_ne (okPath_names h x (List.dropLast_subset _ hx))
theorem drop_clean {p : Str} : ∀ x ∈ (parts p).dropLast, 47 ∉ x := fun x hx => parts_mem p x (List.dropLast_subset _ hx)
theorem path_whole {p : Str} (h : okPath p = true) : p = if parent p = [] then base p else parent p ++ 47 :: base p := by
  have h1 := parts_split h; have h2 := joinP_parts p
  by_cases hd : (parts p).dropLast = []
  · have : parent p = [] := by rw [parent_eq h, hd]; rfl
    rw [if_pos this]; rw [hd, List.nil_append] at h1; rw [h1] at h2; exact h2.symm
  have hne := joinP_ne hd (drop_names h); rw [← parent_eq h] at hne; rw [if_neg hne, parent_eq h, ← joinP_snoc _ hd, ← h1, h2]
theorem drop_eq {p q : Str} (hp : okPath p = true) (hq : okPath q = true) (h : parent p = parent q) : (parts p).dropLast = (parts q).dropLast := by
  rw [parent_eq hp, parent_eq hq] at h
  by_cases h1 : (parts p).dropLast = []
  · by_cases h2 : (parts q).dropLast = []
    · rw [h1, h2]
    rw [h1] at h; exact absurd h.symm (joinP_ne h2 (drop_names hq))
  by_cases h2 : (parts q).dropLast = []
  · rw [h2] at h
    exact absurd h (joinP_ne h1 (drop_names hp))
  rw [← parts_joinP _ h1 drop_clean, h, parts_joinP _ h2 drop_clean]
theorem cmpN_last (x y : Str) : ∀ l : List Str, cmpN (l ++ [x]) (l ++ [y]) = Lib.compareBytes x y
  | [] => by
    simp only [List.nil_append, cmpN]
    split
    · rename_i h; exact h.symm
    rfl
  | a :: l => by
    simp only [List.cons_append, cmpN, cmpB_self, if_true]
    exact cmpN_last x y l
theorem base_order {p q : Str} (hp : okPath p = true) (hq : okPath q = true) (h : parent p = parent q) : order p q = Lib.compareBytes (base p) (base q) := by
  unfold order; rw [parts_split hp, parts_split hq, drop_eq hp hq h, cmpN_last]
variable {t : List Node}
theorem isDir_mono {done : List Node} {p : Str} (hs : ∀ n ∈ done, n ∈ t) (h : isDir done p = true) : isDir t p = true := by
  unfold isDir at *; rw [Bool.or_eq_true] at *
  rcases h with h | h
  · exact .inl h
  rw [List.any_eq_true] at *; obtain ⟨n, hn, hp⟩ := h; exact .inr ⟨n, hs n hn, hp⟩
theorem parent_dir (h : okTree t = true) {n : Node} (hn : n ∈ t) : isDir t (parent n.p) = true := by
  obtain ⟨i, hi, rfl⟩ := List.getElem_of_mem hn; have := okTree_next h i hi; rw [okNext_eq] at this; simp only [Bool.and_eq_true] at this; exact isDir_mono (fun m hm => List.mem_of_mem_take hm) this.2
theorem namesR_eq (h : okTree t = true) (d : Str) : namesR t d = namesOf t d := by
  unfold namesR; rw [h, Bool.true_and]
  split
  · rfl
  rename_i hd
  symm
  unfold namesOf; rw [List.map_eq_nil_iff, List.filter_eq_nil_iff]
  intro n hn hp
  rw [decide_eq_true_eq] at hp; exact hd (hp ▸ parent_dir h hn)
end
section
open Go.RowKit Go.Op
theorem row_blk {w : World} {g ty : Nat} {cs : Array Value} {t : List Node} (h : Blk w g ty cs)
    (hcs : ∀ (i : Nat) (n : Node), t[i]? = some n → cs[i * 4]? = some (.string n.path) ∧ cs[i * 4 + 1]? = some (.int .i64 n.kind) ∧ cs[i * 4 + 2]? = some (.string n.data) ∧ cs[i * 4 + 3]? = some (.int .i64 n.mode)) :
    Row w (some ⟨g, 0, none⟩) t := fun _ => by
  refine ⟨_, rfl, h.lt, fun i n hi => ?_⟩
  obtain ⟨h0, h1, h2, h3⟩ := hcs i n hi; rw [addr_add]; exact ⟨(h.cell _).trans h0, (h.cell _).trans h1, (h.cell _).trans h2, (h.cell _).trans h3⟩
end
section
open Go.RowKit Go.Op
theorem infoNode : (Tryz.prog.info? 105).map (fun i => (i.zero, i.size, i.bytes)) = some (some node0.val, 4, 48) := by kernel_rfl
theorem own_strs {W : World} {base : Nat} {v : Value} {L : List ByteArray} (h : W.ownsRow base 9 1 v L.length (L.map Value.string)) :
    ∃ pl cap, v = .slice pl L.length cap ∧ ∀ (i : Nat) (x : ByteArray), L[i]? = some x → ∃ g, pl = some ⟨g, 0, none⟩ ∧ g < W.heap.size ∧ W.cell? ⟨g, i, none⟩ = some (.string x) := by
  rcases h.2 with ⟨rfl, h1⟩ | ⟨g, cap, cur, rfl, hb, hh, hc, _, hsz, ht⟩
  · exact ⟨none, 0, by rw [h1], fun i x hi => by rw [List.length_eq_zero_iff.1 h1] at hi; simp at hi⟩
  refine ⟨some ⟨g, 0, none⟩, cap, rfl, fun i x hi => ⟨g, rfl, (Array.getElem?_eq_some_iff.1 hh).1, ?_⟩⟩
  have hil := (List.getElem?_eq_some_iff.1 hi).1; rw [cell_of_row W g i cur 9 (0, 0) hh]; have h2 : (cur.toList.take (L.length * 1))[i]? = some (.string x) := by rw [ht, List.getElem?_map, hi]; rfl
  rw [List.getElem?_take, if_pos (by omega)] at h2
  simpa using h2
end
section
open Go.RowKit Go.Op
theorem cut_dr (s : ByteArray) (w : World) (hs : s.size ≤ maxLen) :
    Calls Tryz.prog 217 #[.string s, .string ⟨#[47]⟩] w fun e w' => e = .returned (.tuple #[.string (headOf s), .string (restOf s), .bool (moreOf s)]) ∧ ∃ n, w' = w.drewN n := by
  rcases slash_cases s with ⟨h, _⟩ | ⟨i, h, hi, _, _⟩
  · refine (cut_none s w h).mono fun e w' ⟨he, hw⟩ => ⟨?_, ⟨0, hw.symm⟩⟩
    rw [he, headOf, restOf, moreOf, h]
    rfl
  refine (cut_some s i w h hi hs).mono fun e w' ⟨he, n, hw⟩ => ⟨?_, ⟨n, hw⟩⟩
  rw [he, headOf, restOf, moreOf, h]
set_option maxRecDepth 100000 in
set_option maxHeartbeats 4000000 in
theorem order_dr (a b : ByteArray) (w : World) (ha : a.size ≤ maxLen) (hb : b.size ≤ maxLen) :
    Calls Tryz.prog 141 #[.string a, .string b] w fun e w' => e = .returned (.int .i64 (order (str a) (str b))) ∧ ∃ n, w' = w.drewN n := by
  go_enter Tryz.func141, Tryz.ntmps141
  go_wp2_with fail
  go_loopw [0, 1] (fun x y wr => ∃ a' b' : ByteArray, x = .string a' ∧ y = .string b' ∧ a'.size ≤ maxLen ∧ b'.size ≤ maxLen ∧ (∃ n, wr = w.drewN n) ∧ order (str a) (str b) = order (str a') (str b')) (fun x _ _ => lenOf x)
  case atStart => exact ⟨a, b, rfl, rfl, ha, hb, ⟨0, rfl⟩, rfl⟩
  case round =>
    obtain ⟨a', b', rfl, rfl, ha', hb', ho, hord⟩ := hrel; have HO := Lib.hid hord; clear hord
    by_cases hab : a' = b'
    · subst hab
      go_wp2_with fail
      go_ret
      exact ⟨by rw [HO.out, order_self]; rfl, ho⟩
    have hne : (a'.toList == b'.toList) = false := by
      rw [toList_str, toList_str]; exact beq_eq_false_iff_ne.2 (fun e => hab (str_inj e))
    have HS := Lib.hid (fun e : str a' = str b' => hab (str_inj e)); have hca := cut_parts a'; have hcb := cut_parts b'; have HA := Lib.hid hca; have HB := Lib.hid hcb; clear hca hcb hab
    go_wp2_with fail
    refine (cut_dr a' _ ha').mono ?_
    rintro e w1 ⟨rfl, ho1⟩
    go_wp2_with fail
    refine (cut_dr b' _ hb').mono ?_
    rintro e w2 ⟨rfl, ho2⟩
    go_wp2_with fail
    refine (cmp_any _ _ _).mono ?_
    rintro e w3 ⟨rfl, e3⟩; subst e3; have hoff : ∃ n, w2 = w.drewN n := by
      obtain ⟨n0, e0⟩ := ho; obtain ⟨n1, e1⟩ := ho1; obtain ⟨n2, e2⟩ := ho2; exact ⟨n0 + n1 + n2, by rw [e2, e1, e0]; simp [World.drewN, Nat.add_assoc]⟩
    clear ho ho1 ho2; have hunf : order (str a') (str b') = cmpN (parts (str a')) (parts (str b')) := rfl
    have HU := Lib.hid hunf; clear hunf
    by_cases hc : Lib.compareBytes (str (headOf a')) (str (headOf b')) = 0
    · rw [hc]
      have HC := Lib.hid hc; clear hc
      rcases HA.out with ⟨m1, p1, q1⟩ | ⟨m1, p1, q1⟩
      · rcases HB.out with ⟨m2, p2, q2⟩ | ⟨m2, p2, q2⟩
        · exact absurd (cmpB_eq (q1 ▸ q2 ▸ HC.out)) (fun e => HS.out e)
        have P1 := Lib.hid p1; have P2 := Lib.hid p2; clear p1 p2 m2 q1
        go_wp2_with fail
        go_ret
        refine ⟨?_, hoff⟩
        rw [HO.out, HU.out, P1.out, P2.out, cmpN, if_pos HC.out]; have := parts_ne (str (restOf b'))
        cases hh : parts (str (restOf b')) with
        | nil => exact absurd hh this
        | cons _ _ => rfl
      rcases HB.out with ⟨m2, p2, q2⟩ | ⟨m2, p2, q2⟩
      · have P1 := Lib.hid p1
        have P2 := Lib.hid p2; clear p1 p2 q2
        go_wp2_with fail
        go_ret
        refine ⟨?_, hoff⟩
        rw [HO.out, HU.out, P1.out, P2.out, cmpN, if_pos HC.out]; have := parts_ne (str (restOf a'))
        cases hh : parts (str (restOf a')) with
        | nil => exact absurd hh this
        | cons _ _ => rfl
      have P1 := Lib.hid p1; have P2 := Lib.hid p2; clear p1 p2
      go_wp2_with fail
      refine ⟨⟨restOf a', restOf b', rfl, rfl, by omega, by omega, hoff, ?_⟩, ?_⟩
      · rw [HO.out, HU.out, P1.out, P2.out, cmpN, if_pos HC.out]; rfl
      simp only [lenOf]; omega
    have hv : order (str a') (str b') = Lib.compareBytes (str (headOf a')) (str (headOf b')) := by
      rw [HU.out]
      rcases HA.out with ⟨m1, p1, q1⟩ | ⟨m1, p1, q1⟩ <;> rcases HB.out with ⟨m2, p2, q2⟩ | ⟨m2, p2, q2⟩ <;> rw [p1, p2, cmpN, if_neg hc]
    have HV := Lib.hid hv; clear hv; generalize Lib.compareBytes (str (headOf a')) (str (headOf b')) = c at *; have hc0 : (c == 0) = false := beq_eq_false_iff_ne.2 hc
    go_wp2_with fail
    go_ret
    exact ⟨by rw [HO.out, HV.out]; rfl, hoff⟩
end
end Go.Proofs.YthciejabapdbgaaGreatDoor
namespace Go.Proofs
open Go.Shelf
def Tryz.sort6_ren : Go.Shelf.Ren := ⟨fun | 6 => 235 | 15 => 318 | 14 => 317 | 28 => 368 | 29 => 369 | 20 => 360 | 21 => 361 | 22 => 362 | 23 => 363 | 24 => 364 | 25 => 365 | 26 => 366 | 27 => 367 | 46 => 393 | 47 => 394 | 48 => 395 | 49 => 396 | 50 => 397 | 57 => 406 | n => n, fun | 22 => 45 | 24 => 9 | 25 => 212 | 3 => 3 | 39 => 253 | 0 => 0 | 53 => 254 | 55 => 257 | 4 => 4 | 46 => 425 | 45 => 424 | 50 => 222 | 5 => 5 | 9 => 9 | 66 => 446 | 70 => 450 | 76 => 460 | 77 => 372 | n => n, fun | n => n⟩
theorem Tryz.sort6 : Go.Proofs.SlLaysF.n6 Tryz.prog Tryz.sort6_ren := {
  mixed := by kernel_rfl
  f6 := ⟨Tryz.f235.name, by decide, Tryz.func235.trans (congrArg some (by kernel_rfl))⟩
  f14 := ⟨Tryz.f317.name, by decide, Tryz.func317.trans (congrArg some (by kernel_rfl))⟩
  f15 := Tryz.func318.trans (congrArg some (by kernel_rfl))
  f20 := ⟨Tryz.f360.name, by decide, Tryz.func360.trans (congrArg some (by kernel_rfl))⟩
  f21 := ⟨Tryz.f361.name, by decide, Tryz.func361.trans (congrArg some (by kernel_rfl))⟩
  f22 := ⟨Tryz.f362.name, by decide, Tryz.func362.trans (congrArg some (by kernel_rfl))⟩
  f23 := ⟨Tryz.f363.name, by decide, Tryz.func363.trans (congrArg some (by kernel_rfl))⟩
  f24 := ⟨Tryz.f364.name, by decide, Tryz.func364.trans (congrArg some (by kernel_rfl))⟩
  f25 := ⟨Tryz.f365.name, by decide, Tryz.func365.trans (congrArg some (by kernel_rfl))⟩
  f26 := ⟨Tryz.f366.name, by decide, Tryz.func366.trans (congrArg some (by kernel_rfl))⟩
  f27 := ⟨Tryz.f367.name, by decide, Tryz.func367.trans (congrArg some (by kernel_rfl))⟩
  f28 := Tryz.func368.trans (congrArg some (by kernel_rfl))
  f29 := Tryz.func369.trans (congrArg some (by kernel_rfl))
  f46 := ⟨Tryz.f393.name, by decide, Tryz.func393.trans (congrArg some (by kernel_rfl))⟩
  f47 := Tryz.func394.trans (congrArg some (by kernel_rfl))
  f48 := Tryz.func395.trans (congrArg some (by kernel_rfl))
  f49 := ⟨Tryz.f396.name, by decide, Tryz.func396.trans (congrArg some (by kernel_rfl))⟩
  f50 := ⟨Tryz.f397.name, by decide, Tryz.func397.trans (congrArg some (by kernel_rfl))⟩
  f57 := ⟨Tryz.f406.name, by decide, Tryz.func406.trans (congrArg some (by kernel_rfl))⟩
  t0 := Tryz.underlying0
  a0 := Tryz.isAgg0
  z0 := Tryz.sizeOf0
  v0 := Tryz.zeroValue0
  t3 := Tryz.underlying3
  a3 := Tryz.isAgg3
  z3 := Tryz.sizeOf3
  v3 := Tryz.zeroValue3
  t4 := Tryz.underlying4
  a4 := Tryz.isAgg4
  z4 := Tryz.sizeOf4
  v4 := Tryz.zeroValue4
  t5 := Tryz.underlying5
  a5 := Tryz.isAgg5
  z5 := Tryz.sizeOf5
  v5 := Tryz.zeroValue5
  t9 := Tryz.underlying9
  a9 := Tryz.isAgg9
  z9 := Tryz.sizeOf9
  v9 := Tryz.zeroValue9
  t22 := Tryz.underlying45
  a22 := Tryz.isAgg45
  z22 := Tryz.sizeOf45
  v22 := Tryz.zeroValue45
  a24 := Tryz.isAgg9
  z24 := Tryz.sizeOf9
  t25 := Tryz.underlying212
  a25 := Tryz.isAgg212
  z25 := Tryz.sizeOf212
  v25 := Tryz.zeroValue212
  t39 := Tryz.underlying253
  a39 := Tryz.isAgg253
  z39 := Tryz.sizeOf253
  v39 := Tryz.zeroValue253
  t45 := Tryz.underlying424
  a45 := Tryz.isAgg424
  z45 := Tryz.sizeOf424
  v45 := Tryz.zeroValue424
  t46 := Tryz.underlying425
  a46 := Tryz.isAgg425
  z46 := Tryz.sizeOf425
  v46 := Tryz.zeroValue425
  t50 := Tryz.underlying222
  a50 := Tryz.isAgg222
  z50 := Tryz.sizeOf222
  v50 := Tryz.zeroValue222
  t53 := Tryz.underlying254
  a53 := Tryz.isAgg254
  z53 := Tryz.sizeOf254
  v53 := Tryz.zeroValue254
  t55 := Tryz.underlying257
  a55 := Tryz.isAgg257
  z55 := Tryz.sizeOf257
  v55 := Tryz.zeroValue257
  t66 := Tryz.underlying446
  a66 := Tryz.isAgg446
  z66 := Tryz.sizeOf446
  v66 := Tryz.zeroValue446
  t70 := Tryz.underlying450
  a70 := Tryz.isAgg450
  z70 := Tryz.sizeOf450
  v70 := Tryz.zeroValue450
  t76 := Tryz.underlying460
  a76 := Tryz.isAgg460
  z76 := Tryz.sizeOf460
  v76 := Tryz.zeroValue460
  t77 := Tryz.underlying372
  a77 := Tryz.isAgg372
  z77 := Tryz.sizeOf372
  v77 := Tryz.zeroValue372 }
def Tryz.keys7_ren : Go.Shelf.Ren := ⟨fun | 7 => 163 | 10 => 236 | n => n, fun | 23 => 122 | 26 => 9 | 3 => 3 | 28 => 230 | 0 => 0 | 27 => 229 | 33 => 141 | 4 => 4 | n => n, fun | n => n⟩
theorem Tryz.keys7 : Go.Proofs.SlLaysZ.n7 Tryz.prog Tryz.keys7_ren := {
  mixed := by kernel_rfl
  f7 := ⟨Tryz.f163.name, by decide, Tryz.func163.trans (congrArg some (by kernel_rfl))⟩
  f10 := ⟨Tryz.f236.name, by decide, Tryz.func236.trans (congrArg some (by kernel_rfl))⟩
  t0 := Tryz.underlying0
  a0 := Tryz.isAgg0
  z0 := Tryz.sizeOf0
  v0 := Tryz.zeroValue0
  t4 := Tryz.underlying4
  a4 := Tryz.isAgg4
  z4 := Tryz.sizeOf4
  v4 := Tryz.zeroValue4
  t23 := Tryz.underlying122
  a23 := Tryz.isAgg122
  z23 := Tryz.sizeOf122
  v23 := Tryz.zeroValue122
  t26 := Tryz.underlying9
  a26 := Tryz.isAgg9
  z26 := Tryz.sizeOf9
  v26 := Tryz.zeroValue9
  t27 := Tryz.underlying229
  a27 := Tryz.isAgg229
  z27 := Tryz.sizeOf229
  v27 := Tryz.zeroValue229
  t28 := Tryz.underlying230
  a28 := Tryz.isAgg230
  z28 := Tryz.sizeOf230
  v28 := Tryz.zeroValue230
  t33 := Tryz.underlying141
  a33 := Tryz.isAgg141
  z33 := Tryz.sizeOf141
  v33 := Tryz.zeroValue141 }
def Tryz.coll8_ren : Go.Shelf.Ren := ⟨fun | 8 => 234 | 11 => 316 | n => n, fun | 26 => 9 | 28 => 230 | 24 => 45 | 0 => 0 | 33 => 141 | 4 => 4 | n => n, fun | n => n⟩
theorem Tryz.coll8 : Go.Proofs.SlLaysZ.n8 Tryz.prog Tryz.coll8_ren := {
  mixed := by kernel_rfl
  f8 := ⟨Tryz.f234.name, by decide, Tryz.func234.trans (congrArg some (by kernel_rfl))⟩
  f11 := ⟨Tryz.f316.name, by decide, Tryz.func316.trans (congrArg some (by kernel_rfl))⟩
  t0 := Tryz.underlying0
  a0 := Tryz.isAgg0
  z0 := Tryz.sizeOf0
  v0 := Tryz.zeroValue0
  t24 := Tryz.underlying45
  a24 := Tryz.isAgg45
  z24 := Tryz.sizeOf45
  v24 := Tryz.zeroValue45
  t26 := Tryz.underlying9
  a26 := Tryz.isAgg9
  z26 := Tryz.sizeOf9
  v26 := Tryz.zeroValue9
  t28 := Tryz.underlying230
  a28 := Tryz.isAgg230
  z28 := Tryz.sizeOf230
  v28 := Tryz.zeroValue230
  i26 := by kernel_rfl }
end Go.Proofs
