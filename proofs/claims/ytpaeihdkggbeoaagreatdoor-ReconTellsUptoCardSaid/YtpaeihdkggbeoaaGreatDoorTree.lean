/- Trees in plain words: nodes, what is right, what is a tree. Conditions: none beyond what each lemma states. -/
import Derived.Test.YtpaeihdkggbeoaaGreatDoorPar
namespace Go.Proofs.YtpaeihdkggbeoaaGreatDoor
open Go.RowKit

structure Node where
  path : ByteArray
  kind : Int
  data : ByteArray
  mode : Int
instance : Inhabited Node := ⟨⟨⟨#[]⟩, 0, ⟨#[]⟩, 0⟩⟩
def Node.p (n : Node) : Str := str n.path
def Node.val (n : Node) : Value := .agg #[.string n.path, .int .i64 n.kind, .string n.data, .int .i64 n.mode]

/-- right by itself -/
def rightN (n : Node) : Bool :=
  if n.kind = 1 then decide (n.data.size ≤ 65536) && (decide (0 ≤ n.mode) && decide (n.mode ≤ 511))
  else if n.kind = 2 then decide (n.data.size = 0) && decide (n.mode = 0)
  else if n.kind = 3 then decide (n.data.size ≠ 0) && (decide (n.data.size ≤ 400) && (!(str n.data).contains 0 && decide (n.mode = 0)))
  else false
/-- the root, or a directory's path -/
def isDir (t : List Node) (p : Str) : Bool := decide (p = []) || t.any fun n => decide (n.p = p) && decide (n.kind = 2)
/-- may n come behind the nodes of done? -/
def okNext (done : List Node) (n : Node) : Bool :=
  okPath n.p && rightN n && (match done.getLast? with | none => true | some m => decide (order m.p n.p < 0)) && isDir done (parent n.p)
def okFrom (done : List Node) : List Node → Bool
  | [] => true
  | n :: t => okNext done n && okFrom (done ++ [n]) t
def okTree (t : List Node) : Bool := decide (t.length ≤ 1000) && okFrom [] t

/-- each is ahead of those behind it -/
def Sorted (t : List Node) : Prop := t.Pairwise fun a b => order a.p b.p < 0

theorem sorted_snoc {done : List Node} {n : Node} (h : Sorted done) (hn : (match done.getLast? with | none => true | some m => decide (order m.p n.p < 0)) = true) : Sorted (done ++ [n]) := by
  unfold Sorted at *
  rw [List.pairwise_append]
  refine ⟨h, by simp, fun a ha b hb => ?_⟩
  rw [List.mem_singleton] at hb
  subst hb
  cases hl : done.getLast? with
  | none => rw [List.getLast?_eq_none_iff] at hl; subst hl; cases ha
  | some m =>
    rw [hl] at hn
    simp only [decide_eq_true_eq] at hn
    obtain ⟨ys, rfl⟩ := List.getLast?_eq_some_iff.1 hl
    rcases List.mem_append.1 ha with h1 | h1
    · rw [List.pairwise_append] at h
      exact order_trans (h.2.2 a h1 m (by simp)) hn
    · rw [List.mem_singleton] at h1; subst h1; exact hn
theorem okFrom_sorted : ∀ {t done : List Node}, Sorted done → okFrom done t = true → Sorted (done ++ t)
  | [], done, h, _ => by simpa using h
  | n :: t, done, h, ho => by
    unfold okFrom at ho
    rw [Bool.and_eq_true] at ho
    have hn := ho.1
    unfold okNext at hn
    simp only [Bool.and_eq_true] at hn
    have := okFrom_sorted (t := t) (sorted_snoc h hn.1.2) ho.2
    simpa using this
theorem okTree_sorted {t : List Node} (h : okTree t = true) : Sorted t := by
  unfold okTree at h
  rw [Bool.and_eq_true] at h
  simpa using okFrom_sorted (t := t) (done := []) List.Pairwise.nil h.2
theorem okFrom_take : ∀ {t done : List Node} (i : Nat) (hi : i < t.length), okFrom done t = true → okNext (done ++ t.take i) t[i] = true
  | n :: t, done, 0, _, h => by
    unfold okFrom at h
    rw [Bool.and_eq_true] at h
    simpa using h.1
  | n :: t, done, i + 1, hi, h => by
    unfold okFrom at h
    rw [Bool.and_eq_true] at h
    have := okFrom_take (t := t) (done := done ++ [n]) i (by simpa using hi) h.2
    simpa using this
theorem okTree_next {t : List Node} (h : okTree t = true) (i : Nat) (hi : i < t.length) : okNext (t.take i) t[i] = true := by
  unfold okTree at h
  rw [Bool.and_eq_true] at h
  simpa using okFrom_take (done := []) i hi h.2
theorem okTree_path {t : List Node} (h : okTree t = true) {n : Node} (hn : n ∈ t) : okPath n.p = true := by
  obtain ⟨i, hi, rfl⟩ := List.getElem_of_mem hn
  have := okTree_next h i hi
  unfold okNext at this
  simp only [Bool.and_eq_true] at this
  exact this.1.1.1
theorem okTree_len {t : List Node} (h : okTree t = true) : t.length ≤ 1000 := by
  unfold okTree at h
  rw [Bool.and_eq_true] at h
  simpa using h.1
theorem okPath_size {s : Str} (h : okPath s = true) : s.length ≤ 400 := by
  unfold okPath at h
  simp only [Bool.and_eq_true, decide_eq_true_eq] at h
  exact h.1.1
theorem okTree_small {t : List Node} (h : okTree t = true) {n : Node} (hn : n ∈ t) : n.path.size ≤ 400 := by
  rw [← str_size]; exact okPath_size (okTree_path h hn)

/-- a row of nodes in memory -/
structure NodeAt (w : World) (a : Addr) (n : Node) : Prop where
  path : w.cell? a = some (.string n.path)
  kind : w.cell? ⟨a.block, a.off + 1, none⟩ = some (.int .i64 n.kind)
  data : w.cell? ⟨a.block, a.off + 2, none⟩ = some (.string n.data)
  mode : w.cell? ⟨a.block, a.off + 3, none⟩ = some (.int .i64 n.mode)
def Row (w : World) (p : Option Addr) (t : List Node) : Prop :=
  t ≠ [] → ∃ a, p = some a ∧ a.block < w.heap.size ∧ ∀ (i : Nat) (n : Node), t[i]? = some n → NodeAt w (a.add (i * 4)) n
theorem add_block (a : Addr) (i : Nat) : (a.add i).block = a.block := by
  unfold Addr.add; split <;> rfl
theorem NodeAt.off {w w' : World} {a : Addr} {n : Node} (h : NodeAt w a n) (ho : Off [] w w') (hb : a.block < w.heap.size) : NodeAt w' a n :=
  ⟨(ho.cell hb (by simp)).trans h.path, (ho.cell (p := ⟨a.block, a.off + 1, none⟩) hb (by simp)).trans h.kind, (ho.cell (p := ⟨a.block, a.off + 2, none⟩) hb (by simp)).trans h.data, (ho.cell (p := ⟨a.block, a.off + 3, none⟩) hb (by simp)).trans h.mode⟩
theorem Row.off {w w' : World} {p : Option Addr} {t : List Node} (h : Row w p t) (ho : Off [] w w') : Row w' p t := fun hne => by
  obtain ⟨a, rfl, hb, hn⟩ := h hne
  exact ⟨a, rfl, Nat.lt_of_lt_of_le hb ho.size, fun i n hi => (hn i n hi).off ho (by rw [add_block]; exact hb)⟩
theorem Row.get {w : World} {p : Option Addr} {t : List Node} (h : Row w p t) (i : Nat) (hi : i < t.length) : ∃ a, p = some a ∧ NodeAt w (a.add (i * 4)) t[i] ∧ a.block < w.heap.size := by
  obtain ⟨a, rfl, hb, hn⟩ := h (by intro e; subst e; simp at hi)
  exact ⟨a, rfl, hn i _ (List.getElem?_eq_getElem hi), hb⟩
theorem Row.take {w : World} {p : Option Addr} {t : List Node} (h : Row w p t) (k : Nat) : Row w p (t.take k) := fun hne => by
  obtain ⟨a, rfl, hb, hn⟩ := h (by intro e; subst e; simp at hne)
  exact ⟨a, rfl, hb, fun i n hi => hn i n (by rw [List.getElem?_take] at hi; split at hi; exact hi; cases hi)⟩
/-- the strings are none longer than Go's can be -/
def Fits (t : List Node) : Prop := ∀ n ∈ t, n.path.size ≤ maxLen ∧ n.data.size ≤ maxLen

/-- the place of a path -/
structure PlaceAt (t : List Node) (p : Str) (i : Nat) (f : Bool) : Prop where
  le : i ≤ t.length
  lo : ∀ (j : Nat) (n : Node), j < i → t[j]? = some n → order n.p p < 0
  hi : ∀ (j : Nat) (n : Node), i ≤ j → t[j]? = some n → 0 ≤ order n.p p
  fd : f = true ↔ ∃ n, t[i]? = some n ∧ n.p = p
theorem PlaceAt.none {t : List Node} {p : Str} {i : Nat} (h : PlaceAt t p i false) {n : Node} (hn : n ∈ t) (hs : Sorted t) : n.p ≠ p := fun e => by
  obtain ⟨j, hj, rfl⟩ := List.getElem_of_mem hn
  have hj' := List.getElem?_eq_getElem hj
  rcases Nat.lt_or_ge j i with hlt | hge
  · have := h.lo j _ hlt hj'
    rw [e, order_self] at this
    omega
  · rcases Nat.lt_or_ge i j with h1 | h1
    · have hi' : i < t.length := by omega
      have h2 := h.hi i _ (Nat.le_refl _) (List.getElem?_eq_getElem hi')
      have h3 := List.pairwise_iff_getElem.1 hs i j hi' hj h1
      rw [e] at h3
      omega
    · obtain rfl : i = j := by omega
      exact Bool.false_ne_true (h.fd.2 ⟨_, hj', e⟩)
end Go.Proofs.YtpaeihdkggbeoaaGreatDoor
