/- Texts of this claim, one behind the other: Mem Path Shelf Str Any Name Split PathW Ord. Conditions: what each lemma states. -/
import Derived.WalkKit
import Derived.Deep.Draws
import Derived.Lib.Hide
import Derived.Lib.ValidLaws
import Derived.Lib.Bytealg
import Derived.Shelf.Small.Utf8
import Derived.Shelf.Small.Bits
import Derived.Shelf.Small.Strs
import Derived.Shelf.Utf8.RuneCount
import Derived.Shelf.Strconv.Itoa0
import Derived.Shelf.Strings.Search1
import Derived.Shelf.Strings.Search2
import Derived.Shelf.Strings.Search3
import Derived.Shelf.Strings.Cut
import Derived.Shelf.Strings.Count
import Derived.Shelf.LaysM
import Derived.Shelf.Strings.Shaped
import Derived.Shelf.Strings.LastIndex
import Derived.Shelf.Strings.Prefix
import Derived.Shelf.Strings.Split
import Derived.Shelf.Unicode.Decode
import Derived.Shelf.Strings.Runes
import Derived.Shelf.Strings.RuneCount
import Derived.Shelf.Strings.IndexAny
import Derived.Shelf.Strings.AsciiSet
import Derived.Shelf.Strings.IndexAnyAll
import Derived.Shelf.Unicode.DecodeSlow
import Derived.Shelf.Unicode.DecodeAny
import Derived.Shelf.Unicode.ValidAny
import Derived.Test.YthciejabapdbgaaGreatDoorProg
import Derived.Lib.IndexLaws
import Derived.Lib.Strings
import Derived.BigRegion
import Derived.IntWalk
import Derived.Laws.Cover1
import Derived.Lib.OthersKept
import Derived.Laws.Runes
import Derived.Laws.RangeAny
import Derived.Lib.TrimUEq
import Derived.Lib.MapLaws
import Derived.LoopTactic
import Derived.WalkMore
import Derived.Deep.QuietTactic
import Derived.BigQuiet
import Derived.RangeFuncNested
import Derived.RangeFuncBound
import Derived.RangeFuncCalls
import Derived.RangeFuncLeaves
import Derived.Shelf.Abstract
import Derived.Shelf.RegionOpen
import Derived.OwnWalkIn
import Derived.TacticsInMore
import Derived.LoopNIn
import Derived.LoopIn
set_option linter.unusedVariables false
set_option linter.unusedSimpArgs false
namespace Go.Proofs.YthciejabapdbgaaGreatDoor
section
open Go.RowKit
def Blk (w : World) (g : Nat) (t : TypeId) (cs : Array Value) : Prop := w.heap[g]? = some (.cells cs t (0, 0))
structure Off (l : List Nat) (w w' : World) : Prop where
  os : w'.os = w.os
  tape : w'.tape = w.tape
  output : w'.output = w.output
  size : w.heap.size ≤ w'.heap.size
  block : ∀ k, k < w.heap.size → k ∉ l → w'.heap[k]? = w.heap[k]?
section
variable {w w' w'' : World} {l l' : List Nat} {g : Nat} {t : TypeId} {cs : Array Value}
theorem Off.refl (l : List Nat) (w : World) : Off l w w := ⟨rfl, rfl, rfl, Nat.le_refl _, fun _ _ _ => rfl⟩
theorem Off.trans (h : Off l w w') (k : Off l' w' w'') (hl : ∀ x, x < w.heap.size → x ∈ l' → x ∈ l) : Off l w w'' :=
  ⟨k.os.trans h.os, k.tape.trans h.tape, k.output.trans h.output, Nat.le_trans h.size k.size,
    fun i hi hn => (k.block i (Nat.lt_of_lt_of_le hi h.size) (fun hm => hn (hl i hi hm))).trans (h.block i hi hn)⟩
theorem Off.trans_nil (h : Off l w w') (k : Off [] w' w'') : Off l w w'' := h.trans k (fun _ _ hm => by cases hm)
theorem Off.mono (h : Off l w w') (hl : ∀ x, x < w.heap.size → x ∈ l → x ∈ l') : Off l' w w' :=
  ⟨h.os, h.tape, h.output, h.size, fun i hi hn => h.block i hi (fun hm => hn (hl i hi hm))⟩
theorem Off.of_below (h : Below w.heap.size w w') : Off l w w' := ⟨h.os, h.tape, h.output, h.size, fun i hi _ => h.block i hi⟩
theorem Off.below (h : Off [] w w') : Below w.heap.size w w' := ⟨h.os, h.tape, h.output, h.size, fun i hi => h.block i hi (by simp)⟩
theorem Off.drew (h : Off l w w') : Off l w w'.drew := ⟨h.os, h.tape, h.output, h.size, h.block⟩
theorem Off.drewN (h : Off l w w') (n : Nat) : Off l w (w'.drewN n) := ⟨h.os, h.tape, h.output, h.size, h.block⟩
theorem Off.alloc (h : Off l w w') (o : Obj) : Off l w (w'.alloc o) :=
  h.trans_nil ⟨rfl, rfl, rfl, by simp, fun k hk _ => Below.heap_alloc _ _ _ hk⟩
theorem Off.setCell (h : Off l w w') {p : Addr} (hp : w.heap.size ≤ p.block ∨ p.block ∈ l) (u : Value) : Off l w (w'.setCell p u) :=
  ⟨h.os, h.tape, h.output, by simpa [World.setCell] using h.size, fun k hk hn =>
    (Below.heap_setCell _ _ _ _ (fun e => by subst e; rcases hp with hp | hp; omega; exact hn hp)).trans (h.block k hk hn)⟩
theorem Off.grown (h : Off l w w') {row : Option Nat} (hg : w'.grownBy w'' row) (hr : ∀ k, row = some k → w.heap.size ≤ k ∨ k ∈ l) : Off l w w'' :=
  ⟨hg.os.trans h.os, hg.tape.trans h.tape, hg.output.trans h.output, Nat.le_trans h.size hg.size, fun k hk hn =>
    (hg.block k (Nat.lt_of_lt_of_le hk h.size) (fun e => by rcases hr k e.symm with hp | hp; omega; exact hn hp)).trans (h.block k hk hn)⟩
theorem Off.cell (h : Off l w w') {p : Addr} (hp : p.block < w.heap.size) (hn : p.block ∉ l) : w'.cell? p = w.cell? p := World.cell?_of_block (w := w) (h.block p.block hp hn)
theorem Blk.lt (h : Blk w g t cs) : g < w.heap.size := by
  rcases Nat.lt_or_ge g w.heap.size with hlt | hge
  · exact hlt
  unfold Blk at h; rw [Array.getElem?_eq_none hge] at h; cases h
theorem Blk.cell (h : Blk w g t cs) (i : Nat) : w.cell? ⟨g, i, none⟩ = cs[i]? := cell_of_row w g i cs t (0, 0) h
theorem Blk.frozen (h : Blk w g t cs) (i : Nat) : w.frozen? ⟨g, i, none⟩ = false := by
  unfold Blk at h; simp [World.frozen?, h]
theorem Blk.new (w : World) (t : TypeId) (cs : Array Value) : Blk (w.alloc (.cells cs t)) w.heap.size t cs := heap_alloc_new w _
theorem Blk.drew (h : Blk w g t cs) : Blk w.drew g t cs := h
theorem Blk.drewN (h : Blk w g t cs) (n : Nat) : Blk (w.drewN n) g t cs := h
theorem Blk.alloc (h : Blk w g t cs) (o : Obj) : Blk (w.alloc o) g t cs := (Below.heap_alloc w o g h.lt).trans h
theorem Blk.set_ (h : Blk w g t cs) (i : Nat) (u : Value) : Blk (w.setCell ⟨g, i, none⟩ u) g t (cs.setIfInBounds i u) := by
  unfold Blk at h ⊢; simp [World.setCell, Array.getElem?_modify, h]
theorem Blk.far (h : Blk w g t cs) {p : Addr} (hp : g ≠ p.block) (u : Value) : Blk (w.setCell p u) g t cs := (Below.heap_setCell w p u g hp).trans h
theorem Blk.off (h : Blk w g t cs) (hb : Off l w w') (hg : g ∉ l) : Blk w' g t cs := (hb.block g h.lt hg).trans h
theorem Blk.grown (h : Blk w g t cs) {row : Option Nat} (hb : w.grownBy w' row) (hg : some g ≠ row) : Blk w' g t cs := (hb.block g h.lt hg).trans h
theorem Blk.ne_ {g' : Nat} {t' : TypeId} {cs' : Array Value} (h : Blk w g t cs) (h' : Blk w g' t' cs') (hne : t ≠ t') : g ≠ g' := by
  rintro rfl; unfold Blk at h h'; rw [h] at h'; injection h' with h'
  injection h' with _ ht
  exact hne ht
end
theorem ownsRow_succ {W : World} {base : Nat} {e : TypeId} {size : Nat} {v : Value} {k : Nat} {xs : List Value} (h : W.ownsRow base e size v (k + 1) xs) : ∃ g cap, v = .slice (some ⟨g, 0, none⟩) (k + 1) cap := by
  rcases h.2 with ⟨_, h0⟩ | ⟨g, cap, _, rfl, _⟩
  · omega
  exact ⟨g, cap, rfl⟩
theorem addr_add (g i : Nat) : (⟨g, 0, none⟩ : Addr).add i = ⟨g, i, none⟩ := by unfold Addr.add; split <;> simp_all
theorem cell_one_at {w : World} {g : Nat} {t : TypeId} {x : Value} (h : Blk w g t #[x]) : ∀ j u, [x][j]? = some u → w.cell? ((⟨g, 0, none⟩ : Addr).add j) = some u := by
  intro j u hj
  match j, hj with
  | 0, hj =>
    rw [addr_add, h.cell]
    simpa using hj
  | j + 1, hj => simp at hj
theorem Blk.new1 (w : World) (o : Obj) (t : TypeId) (cs : Array Value) : Blk ((w.alloc o).alloc (.cells cs t)) (w.heap.size + 1) t cs := by
  have := Blk.new (w.alloc o) t cs
  simpa using this
theorem Blk.new2 (w : World) (o p : Obj) (t : TypeId) (cs : Array Value) : Blk (((w.alloc o).alloc p).alloc (.cells cs t)) (w.heap.size + 2) t cs := by
  have := Blk.new ((w.alloc o).alloc p) t cs
  simpa using this
theorem own_blk {w : World} {base g n cap : Nat} {e : TypeId} {xs : List Value} (h : w.ownsRow base e 1 (.slice (some ⟨g, 0, none⟩) n cap) n xs) (_hn : 0 < n) :
    ∃ cur, Blk w g e cur ∧ base ≤ g ∧ n ≤ cap ∧ ∀ (i : Nat) (u : Value), xs[i]? = some u → cur[i]? = some u := by
  rcases h.2 with ⟨h0, _⟩ | ⟨g', cap', cur, hv, hb, hh, hc, _, hs, ht⟩
  · cases h0
  injection hv with h1 h2 h3
  injection h1 with h1
  injection h1 with h1 _
  subst h1; subst h3; refine ⟨cur, hh, hb, hc, fun i u hu => ?_⟩; rw [← ht, List.getElem?_take] at hu
  split at hu
  · simpa using hu
  cases hu
theorem code_gen {P : Program} {c : Code} {Q : Exit → Act → World → Prop} {a : Act} {w : World} (φ : World → Prop) (h : φ w) (k : ∀ W, φ W → Code.wp P c Q a W) : Code.wp P c Q a w := k w h
end
section
open Go.Lib (compareBytes validD)
abbrev Str := List UInt8
def parts : Str → List Str
  | [] => [[]]
  | c :: s => if c = 47 then [] :: parts s else match parts s with
    | [] => [[c]]
    | h :: t => (c :: h) :: t
def joinP : List Str → Str
  | [] => []
  | [x] => x
  | x :: y :: l => x ++ 47 :: joinP (y :: l)
def noSep (s : Str) : Bool := s.all fun c => c != 47 && c != 0
def okName (s : Str) : Bool := decide (s ≠ []) && decide (s.length ≤ 64) && decide (s ≠ [46]) && decide (s ≠ [46, 46]) && validD s && noSep s
def okPath (s : Str) : Bool := decide (s.length ≤ 400) && decide (s.count 47 < 16) && (parts s).all okName
theorem parts_ne : ∀ s : Str, parts s ≠ []
  | [] => by simp [parts]
  | c :: s => by
    unfold parts
    split
    · simp
    split <;> simp
theorem parts_slash (s : Str) : parts (47 :: s) = [] :: parts s := by simp [parts]
theorem parts_cons {c : UInt8} (hc : c ≠ 47) (s : Str) : ∃ h t, parts s = h :: t ∧ parts (c :: s) = (c :: h) :: t := by
  cases e : parts s with
  | nil => exact absurd e (parts_ne s)
  | cons h t => exact ⟨h, t, rfl, by simp [parts, hc, e]⟩
theorem parts_append (b : Str) : ∀ a : Str, parts (a ++ 47 :: b) = parts a ++ parts b
  | [] => by simp [parts]
  | c :: a => by
    by_cases hc : c = 47
    · subst hc; simp [parts, parts_append b a]
    obtain ⟨h, t, e, e'⟩ := parts_cons hc a; obtain ⟨h2, t2, e2, e2'⟩ := parts_cons hc (a ++ 47 :: b); rw [parts_append b a, e] at e2; simp only [List.cons_append, List.cons.injEq] at e2; rw [List.cons_append, e2', e', List.cons_append, ← e2.1, ← e2.2]
theorem parts_clean : ∀ s : Str, 47 ∉ s → parts s = [s]
  | [], _ => rfl
  | c :: s, h => by
    have hc : c ≠ 47 := fun e => h (by simp [e])
    have ih := parts_clean s (fun hm => h (List.mem_cons_of_mem _ hm)); obtain ⟨a, t, e, e'⟩ := parts_cons hc s; rw [ih] at e; simp only [List.cons.injEq] at e; rw [e', ← e.1, ← e.2]
theorem parts_mem : ∀ (s : Str) (x : Str), x ∈ parts s → 47 ∉ x
  | [], x, hx => by simp [parts] at hx; simp [hx]
  | c :: s, x, hx => by
    by_cases hc : c = 47
    · subst hc
      rw [parts_slash] at hx
      rcases List.mem_cons.1 hx with rfl | hx
      · simp
      exact parts_mem s x hx
    obtain ⟨h, t, e, e'⟩ := parts_cons hc s; rw [e'] at hx
    rcases List.mem_cons.1 hx with rfl | hx
    · have := parts_mem s h (by simp [e])
      simp only [List.mem_cons, not_or]
      exact ⟨fun e => hc e.symm, this⟩
    exact parts_mem s x (by simp [e, hx])
theorem parts_length : ∀ s : Str, (parts s).length = s.count 47 + 1
  | [] => by simp [parts]
  | c :: s => by
    by_cases hc : c = 47
    · subst hc; simp [parts_slash, parts_length s]
    obtain ⟨h, t, e, e'⟩ := parts_cons hc s; have := parts_length s; rw [e] at this; rw [e', List.count_cons_of_ne hc]
    simpa using this
theorem joinP_cons (x : Str) {l : List Str} (h : l ≠ []) : joinP (x :: l) = x ++ 47 :: joinP l := by
  cases l with
  | nil => exact absurd rfl h
  | cons y l => rfl
theorem joinP_parts : ∀ s : Str, joinP (parts s) = s
  | [] => rfl
  | c :: s => by
    have ih := joinP_parts s
    by_cases hc : c = 47
    · subst hc; rw [parts_slash, joinP_cons _ (parts_ne s), ih]; rfl
    obtain ⟨h, t, e, e'⟩ := parts_cons hc s; rw [e']; rw [e] at ih
    cases t with
    | nil => simp only [joinP] at ih ⊢; rw [ih]
    | cons y t => simp only [joinP, List.cons_append] at ih ⊢; rw [ih]
theorem parts_joinP : ∀ l : List Str, l ≠ [] → (∀ x ∈ l, 47 ∉ x) → parts (joinP l) = l
  | [], h, _ => absurd rfl h
  | [x], _, h => parts_clean x (h x (by simp))
  | x :: y :: l, _, h => by
    rw [joinP_cons x (by simp), parts_append, parts_clean x (h x (by simp)), parts_joinP (y :: l) (by simp) (fun z hz => h z (List.mem_cons_of_mem _ hz))]
    rfl
theorem parts_inj {a b : Str} (h : parts a = parts b) : a = b := by rw [← joinP_parts a, h, joinP_parts]
theorem cmpB_self : ∀ a : Str, compareBytes a a = 0
  | [] => rfl
  | a :: xs => by unfold compareBytes; simp [cmpB_self xs]
theorem cmpB_eq : ∀ {a b : Str}, compareBytes a b = 0 → a = b
  | [], [], _ => rfl
  | [], _ :: _, h => by simp [compareBytes] at h
  | _ :: _, [], h => by simp [compareBytes] at h
  | a :: xs, b :: bs, h => by
    unfold compareBytes at h
    split at h
    · simp at h
    split at h
    · simp at h
    rename_i h1 h2
    have : a = b := UInt8.le_antisymm (UInt8.not_lt.1 h2) (UInt8.not_lt.1 h1)
    rw [this, cmpB_eq h]
theorem cmpB_swap : ∀ a b : Str, compareBytes b a = - compareBytes a b
  | [], [] => rfl
  | [], _ :: _ => rfl
  | _ :: _, [] => rfl
  | a :: xs, b :: bs => by
    unfold compareBytes
    by_cases h1 : a < b
    · have h2 : ¬ b < a := UInt8.not_lt.2 (UInt8.le_of_lt h1)
      simp [h1, h2]
    by_cases h2 : b < a
    · simp [h1, h2]
    simp [h1, h2, cmpB_swap xs bs]
theorem cmpB_range : ∀ a b : Str, compareBytes a b = -1 ∨ compareBytes a b = 0 ∨ compareBytes a b = 1
  | [], [] => by simp [compareBytes]
  | [], _ :: _ => by simp [compareBytes]
  | _ :: _, [] => by simp [compareBytes]
  | a :: xs, b :: bs => by
    unfold compareBytes
    split
    · simp
    split
    · simp
    exact cmpB_range xs bs
theorem cmpB_trans : ∀ {a b c : Str}, compareBytes a b < 0 → compareBytes b c < 0 → compareBytes a c < 0
  | [], [], _, h, _ => by simp [compareBytes] at h
  | [], _ :: _, [], _, h => by simp [compareBytes] at h
  | [], _ :: _, _ :: _, _, _ => by simp [compareBytes]
  | _ :: _, [], _, h, _ => by simp [compareBytes] at h
  | _ :: _, _ :: _, [], _, h => by simp [compareBytes] at h
  | a :: xs, b :: bs, c :: cs, h, k => by
    unfold compareBytes at h k ⊢
    by_cases h1 : a < b
    · by_cases k1 : b < c
      · simp [UInt8.lt_trans h1 k1]
      by_cases k2 : c < b
      · simp [k1, k2] at k
      have : b = c := UInt8.le_antisymm (UInt8.not_lt.1 k2) (UInt8.not_lt.1 k1)
      subst this; simp [h1]
    by_cases h2 : b < a
    · simp [h1, h2] at h
    have : a = b := UInt8.le_antisymm (UInt8.not_lt.1 h2) (UInt8.not_lt.1 h1)
    subst this
    by_cases k1 : a < c
    · simp [k1]
    by_cases k2 : c < a
    · simp [k1, k2] at k
    simp only [UInt8.lt_irrefl, if_false, k1, k2] at h k ⊢
    exact cmpB_trans h k
def cmpN : List Str → List Str → Int
  | [], [] => 0
  | [], _ :: _ => -1
  | _ :: _, [] => 1
  | x :: xs, y :: ys => if compareBytes x y = 0 then cmpN xs ys else compareBytes x y
def order (a b : Str) : Int := cmpN (parts a) (parts b)
theorem cmpN_self : ∀ a : List Str, cmpN a a = 0
  | [] => rfl
  | a :: xs => by unfold cmpN; simp [cmpB_self, cmpN_self xs]
theorem cmpN_eq : ∀ {a b : List Str}, cmpN a b = 0 → a = b
  | [], [], _ => rfl
  | [], _ :: _, h => by simp [cmpN] at h
  | _ :: _, [], h => by simp [cmpN] at h
  | a :: xs, b :: bs, h => by
    unfold cmpN at h
    split at h
    · rename_i h1; rw [cmpB_eq h1, cmpN_eq h]
    rename_i h1; exact absurd h h1
theorem cmpN_swap : ∀ a b : List Str, cmpN b a = - cmpN a b
  | [], [] => rfl
  | [], _ :: _ => rfl
  | _ :: _, [] => rfl
  | a :: xs, b :: bs => by
    unfold cmpN; rw [cmpB_swap a b]
    by_cases h : compareBytes a b = 0
    · simp [h, cmpN_swap xs bs]
    have : ¬ (- compareBytes a b = 0) := by omega
    simp [h]
theorem cmpN_range : ∀ a b : List Str, cmpN a b = -1 ∨ cmpN a b = 0 ∨ cmpN a b = 1
  | [], [] => by simp [cmpN]
  | [], _ :: _ => by simp [cmpN]
  | _ :: _, [] => by simp [cmpN]
  | a :: xs, b :: bs => by
    unfold cmpN
    split
    · exact cmpN_range xs bs
    exact cmpB_range a b
theorem cmpN_trans : ∀ {a b c : List Str}, cmpN a b < 0 → cmpN b c < 0 → cmpN a c < 0
  | [], [], _, h, _ => by simp [cmpN] at h
  | [], _ :: _, [], _, h => by simp [cmpN] at h
  | [], _ :: _, _ :: _, _, _ => by simp [cmpN]
  | _ :: _, [], _, h, _ => by simp [cmpN] at h
  | _ :: _, _ :: _, [], _, h => by simp [cmpN] at h
  | a :: xs, b :: bs, c :: cs, h, k => by
    unfold cmpN at h k ⊢
    by_cases h1 : compareBytes a b = 0
    · rw [if_pos h1] at h
      obtain rfl := cmpB_eq h1
      by_cases k1 : compareBytes a c = 0
      · rw [if_pos k1] at k ⊢; exact cmpN_trans h k
      rw [if_neg k1] at k ⊢; exact k
    rw [if_neg h1] at h
    by_cases k1 : compareBytes b c = 0
    · obtain rfl := cmpB_eq k1
      rw [if_neg h1]; exact h
    rw [if_neg k1] at k; have := cmpB_trans h k; rw [if_neg (by omega)]; exact this
theorem order_self (a : Str) : order a a = 0 := cmpN_self _
theorem order_eq {a b : Str} (h : order a b = 0) : a = b := parts_inj (cmpN_eq h)
theorem order_swap (a b : Str) : order b a = - order a b := cmpN_swap _ _
theorem order_range (a b : Str) : order a b = -1 ∨ order a b = 0 ∨ order a b = 1 := cmpN_range _ _
theorem order_trans {a b c : Str} (h : order a b < 0) (k : order b c < 0) : order a c < 0 := cmpN_trans h k
def parent (p : Str) : Str := if okPath p then joinP (parts p).dropLast else []
def base (p : Str) : Str := if okPath p then (parts p).getLast (parts_ne p) else []
def within (p q : Str) : Bool := okPath p && (decide (q = []) || okPath q && (parts q).isPrefixOf (parts p))
end
end Go.Proofs.YthciejabapdbgaaGreatDoor
namespace Go.Proofs
open Go.Shelf
def Tryz.lays196_ren : Go.Shelf.Ren := ⟨fun | 196 => 246 | 259 => 323 | n => n, fun | 9 => 9 | 4 => 4 | 3 => 3 | 5 => 5 | 12 => 12 | 119 => 384 | 0 => 0 | 46 => 253 | 139 => 387 | 138 => 386 | 53 => 257 | n => n, fun | 3 => 1 | 4 => 2 | n => n⟩
theorem Tryz.lays196 : Go.Proofs.Lays.n196 Tryz.prog Tryz.lays196_ren := {
  mixed := by kernel_rfl
  f196 := Tryz.func246.trans (congrArg some (by kernel_rfl))
  f259 := Tryz.func323.trans (congrArg some (by kernel_rfl))
  t0 := Tryz.underlying0
  a0 := Tryz.isAgg0
  z0 := Tryz.sizeOf0
  v0 := Tryz.zeroValue0
  t3 := Tryz.underlying3
  a3 := Tryz.isAgg3
  z3 := Tryz.sizeOf3
  v3 := Tryz.zeroValue3
  t4 := Tryz.underlying4
  a4 := Tryz.isAgg4
  z4 := Tryz.sizeOf4
  v4 := Tryz.zeroValue4
  t5 := Tryz.underlying5
  a5 := Tryz.isAgg5
  z5 := Tryz.sizeOf5
  v5 := Tryz.zeroValue5
  t9 := Tryz.underlying9
  a9 := Tryz.isAgg9
  z9 := Tryz.sizeOf9
  v9 := Tryz.zeroValue9
  t12 := Tryz.underlying12
  a12 := Tryz.isAgg12
  z12 := Tryz.sizeOf12
  v12 := Tryz.zeroValue12
  t46 := Tryz.underlying253
  a46 := Tryz.isAgg253
  z46 := Tryz.sizeOf253
  v46 := Tryz.zeroValue253
  t53 := Tryz.underlying257
  a53 := Tryz.isAgg257
  z53 := Tryz.sizeOf257
  v53 := Tryz.zeroValue257
  t119 := Tryz.underlying384
  a119 := Tryz.isAgg384
  z119 := Tryz.sizeOf384
  t138 := Tryz.underlying386
  a138 := Tryz.isAgg386
  z138 := Tryz.sizeOf386
  v138 := Tryz.zeroValue386
  t139 := Tryz.underlying387
  a139 := Tryz.isAgg387
  z139 := Tryz.sizeOf387
  v139 := Tryz.zeroValue387
  g3 := by kernel_rfl
  g4 := by kernel_rfl }
open Go.RowKit in
theorem Tryz.utf8_ValidString (s : ByteArray) (w : World) (hs : s.size ≤ 9223372036854775807) (hT : Lib.Utf8Tabs (Tryz.lays196_ren.g 3) (Tryz.lays196_ren.g 4) w) :
    Calls Tryz.prog 246 #[.string s] w fun e w' => e = .returned (.bool (Lib.validD s.data.toList)) ∧ Below w.heap.size w w' := Any.utf8_ValidString Tryz.lays196 s w hs hT
def Tryz.lays119_ren : Go.Shelf.Ren := ⟨fun | 119 => 402 | n => n, fun | 21 => 21 | 4 => 4 | n => n, fun | n => n⟩
theorem Tryz.lays119 : Go.Proofs.Lays.n119 Tryz.prog Tryz.lays119_ren := {
  mixed := by kernel_rfl
  f119 := Tryz.func402.trans (congrArg some (by kernel_rfl))
  t4 := Tryz.underlying4
  a4 := Tryz.isAgg4
  z4 := Tryz.sizeOf4
  v4 := Tryz.zeroValue4
  t21 := Tryz.underlying21
  a21 := Tryz.isAgg21
  z21 := Tryz.sizeOf21
  v21 := Tryz.zeroValue21 }
theorem Tryz.utf8_ValidRune (r : Int) (w : World) :
    Calls Tryz.prog 402 #[.int .i32 r] w fun e w' => e = .returned (.bool (Lib.validRune r)) ∧ w' = w := Any.utf8_ValidRune Tryz.lays119 r w
def Tryz.lays137_ren : Go.Shelf.Ren := ⟨fun | 137 => 401 | 217 => 372 | 266 => 399 | n => n, fun | 9 => 9 | 5 => 5 | 3 => 3 | n => n, fun | n => n⟩
theorem Tryz.lays137 : Go.Proofs.Lays.n137 Tryz.prog Tryz.lays137_ren := {
  mixed := by kernel_rfl
  f137 := Tryz.func401.trans (congrArg some (by kernel_rfl))
  f217 := Tryz.func372.trans (congrArg some (by kernel_rfl))
  f266 := Tryz.func399.trans (congrArg some (by kernel_rfl))
  t3 := Tryz.underlying3
  a3 := Tryz.isAgg3
  z3 := Tryz.sizeOf3
  v3 := Tryz.zeroValue3
  t5 := Tryz.underlying5
  a5 := Tryz.isAgg5
  z5 := Tryz.sizeOf5
  v5 := Tryz.zeroValue5
  t9 := Tryz.underlying9
  a9 := Tryz.isAgg9
  z9 := Tryz.sizeOf9
  v9 := Tryz.zeroValue9 }
open Go.RowKit in
theorem Tryz.strings_IndexByte (s : ByteArray) (c : Int) (w : World) :
    Calls Tryz.prog 401 #[.string s, .int .u8 c] w fun e w' => e = .returned (.int .i64 (Lib.indexByte s.data.toList c.toNat.toUInt8)) ∧ w' = w := Any.strings_IndexByte Tryz.lays137 s c w
def Tryz.lays219_ren : Go.Shelf.Ren := ⟨fun | 219 => 320 | 217 => 372 | 225 => 373 | 224 => 374 | 267 => 375 | 266 => 399 | 314 => 400 | n => n, fun | 9 => 9 | 3 => 3 | 4 => 4 | 5 => 5 | 46 => 253 | 146 => 392 | 51 => 254 | n => n, fun | 1 => 0 | n => n⟩
theorem Tryz.lays219 : Go.Proofs.Lays.n219 Tryz.prog Tryz.lays219_ren := {
  mixed := by kernel_rfl
  f217 := Tryz.func372.trans (congrArg some (by kernel_rfl))
  f219 := Tryz.func320.trans (congrArg some (by kernel_rfl))
  f224 := Tryz.func374.trans (congrArg some (by kernel_rfl))
  f225 := Tryz.func373.trans (congrArg some (by kernel_rfl))
  f266 := Tryz.func399.trans (congrArg some (by kernel_rfl))
  f267 := Tryz.func375.trans (congrArg some (by kernel_rfl))
  f314 := Tryz.func400.trans (congrArg some (by kernel_rfl))
  t3 := Tryz.underlying3
  a3 := Tryz.isAgg3
  z3 := Tryz.sizeOf3
  v3 := Tryz.zeroValue3
  t4 := Tryz.underlying4
  a4 := Tryz.isAgg4
  z4 := Tryz.sizeOf4
  v4 := Tryz.zeroValue4
  t5 := Tryz.underlying5
  a5 := Tryz.isAgg5
  z5 := Tryz.sizeOf5
  v5 := Tryz.zeroValue5
  t9 := Tryz.underlying9
  a9 := Tryz.isAgg9
  z9 := Tryz.sizeOf9
  v9 := Tryz.zeroValue9
  t46 := Tryz.underlying253
  a46 := Tryz.isAgg253
  z46 := Tryz.sizeOf253
  v46 := Tryz.zeroValue253
  t51 := Tryz.underlying254
  a51 := Tryz.isAgg254
  z51 := Tryz.sizeOf254
  v51 := Tryz.zeroValue254
  t146 := Tryz.underlying392
  a146 := Tryz.isAgg392
  z146 := Tryz.sizeOf392
  v146 := Tryz.zeroValue392
  g1 := by kernel_rfl }
open Go.RowKit Go.Lib in
theorem Tryz.stringslite_Index_one (s : ByteArray) (c : UInt8) (w : World) :
    Calls Tryz.prog 320 #[.string s, .string ⟨#[c]⟩] w fun e w' => e = .returned (.int .i64 (Lib.indexByte s.data.toList c)) ∧ w' = w := Any.stringslite_Index_one Tryz.lays219 s c w
def Tryz.lays143_ren : Go.Shelf.Ren := ⟨fun | 143 => 244 | 219 => 320 | 217 => 372 | 225 => 373 | 224 => 374 | 267 => 375 | 266 => 399 | 314 => 400 | n => n, fun | 9 => 9 | 3 => 3 | 4 => 4 | 5 => 5 | 46 => 253 | 146 => 392 | 51 => 254 | n => n, fun | 1 => 0 | n => n⟩
theorem Tryz.lays143 : Go.Proofs.Lays.n143 Tryz.prog Tryz.lays143_ren := {
  mixed := by kernel_rfl
  f143 := Tryz.func244.trans (congrArg some (by kernel_rfl))
  f217 := Tryz.func372.trans (congrArg some (by kernel_rfl))
  f219 := Tryz.func320.trans (congrArg some (by kernel_rfl))
  f224 := Tryz.func374.trans (congrArg some (by kernel_rfl))
  f225 := Tryz.func373.trans (congrArg some (by kernel_rfl))
  f266 := Tryz.func399.trans (congrArg some (by kernel_rfl))
  f267 := Tryz.func375.trans (congrArg some (by kernel_rfl))
  f314 := Tryz.func400.trans (congrArg some (by kernel_rfl))
  t3 := Tryz.underlying3
  a3 := Tryz.isAgg3
  z3 := Tryz.sizeOf3
  v3 := Tryz.zeroValue3
  t4 := Tryz.underlying4
  a4 := Tryz.isAgg4
  z4 := Tryz.sizeOf4
  v4 := Tryz.zeroValue4
  t5 := Tryz.underlying5
  a5 := Tryz.isAgg5
  z5 := Tryz.sizeOf5
  v5 := Tryz.zeroValue5
  t9 := Tryz.underlying9
  a9 := Tryz.isAgg9
  z9 := Tryz.sizeOf9
  v9 := Tryz.zeroValue9
  t46 := Tryz.underlying253
  a46 := Tryz.isAgg253
  z46 := Tryz.sizeOf253
  v46 := Tryz.zeroValue253
  t51 := Tryz.underlying254
  a51 := Tryz.isAgg254
  z51 := Tryz.sizeOf254
  v51 := Tryz.zeroValue254
  t146 := Tryz.underlying392
  a146 := Tryz.isAgg392
  z146 := Tryz.sizeOf392
  v146 := Tryz.zeroValue392
  g1 := by kernel_rfl }
open Go.RowKit Go.Lib in
theorem Tryz.strings_Index_one (s : ByteArray) (c : UInt8) (w : World) :
    Calls Tryz.prog 244 #[.string s, .string ⟨#[c]⟩] w fun e w' => e = .returned (.int .i64 (Lib.indexByte s.data.toList c)) ∧ w' = w := Any.strings_Index_one Tryz.lays143 s c w
def Tryz.lays144_ren : Go.Shelf.Ren := ⟨fun | 144 => 216 | 143 => 244 | 219 => 320 | 217 => 372 | 225 => 373 | 224 => 374 | 267 => 375 | 266 => 399 | 314 => 400 | n => n, fun | 9 => 9 | 4 => 4 | 3 => 3 | 5 => 5 | 46 => 253 | 146 => 392 | 51 => 254 | n => n, fun | 1 => 0 | n => n⟩
theorem Tryz.lays144 : Go.Proofs.Lays.n144 Tryz.prog Tryz.lays144_ren := {
  mixed := by kernel_rfl
  f143 := Tryz.func244.trans (congrArg some (by kernel_rfl))
  f144 := Tryz.func216.trans (congrArg some (by kernel_rfl))
  f217 := Tryz.func372.trans (congrArg some (by kernel_rfl))
  f219 := Tryz.func320.trans (congrArg some (by kernel_rfl))
  f224 := Tryz.func374.trans (congrArg some (by kernel_rfl))
  f225 := Tryz.func373.trans (congrArg some (by kernel_rfl))
  f266 := Tryz.func399.trans (congrArg some (by kernel_rfl))
  f267 := Tryz.func375.trans (congrArg some (by kernel_rfl))
  f314 := Tryz.func400.trans (congrArg some (by kernel_rfl))
  t3 := Tryz.underlying3
  a3 := Tryz.isAgg3
  z3 := Tryz.sizeOf3
  v3 := Tryz.zeroValue3
  t4 := Tryz.underlying4
  a4 := Tryz.isAgg4
  z4 := Tryz.sizeOf4
  v4 := Tryz.zeroValue4
  t5 := Tryz.underlying5
  a5 := Tryz.isAgg5
  z5 := Tryz.sizeOf5
  v5 := Tryz.zeroValue5
  t9 := Tryz.underlying9
  a9 := Tryz.isAgg9
  z9 := Tryz.sizeOf9
  v9 := Tryz.zeroValue9
  t46 := Tryz.underlying253
  a46 := Tryz.isAgg253
  z46 := Tryz.sizeOf253
  v46 := Tryz.zeroValue253
  t51 := Tryz.underlying254
  a51 := Tryz.isAgg254
  z51 := Tryz.sizeOf254
  v51 := Tryz.zeroValue254
  t146 := Tryz.underlying392
  a146 := Tryz.isAgg392
  z146 := Tryz.sizeOf392
  v146 := Tryz.zeroValue392
  g1 := by kernel_rfl }
open Go.RowKit Go.Lib in
theorem Tryz.strings_Contains_one (s : ByteArray) (c : UInt8) (w : World) :
    Calls Tryz.prog 216 #[.string s, .string ⟨#[c]⟩] w fun e w' => e = .returned (.bool (decide (0 ≤ Lib.indexByte s.data.toList c))) ∧ w' = w := Any.strings_Contains_one Tryz.lays144 s c w
def Tryz.lays138_ren : Go.Shelf.Ren := ⟨fun | 138 => 170 | 195 => 242 | 218 => 243 | 143 => 244 | 219 => 320 | 217 => 372 | 225 => 373 | 224 => 374 | 267 => 375 | 266 => 399 | 314 => 400 | n => n, fun | 9 => 9 | 3 => 3 | 4 => 4 | 5 => 5 | 0 => 0 | 46 => 253 | 146 => 392 | 51 => 254 | n => n, fun | 1 => 0 | n => n⟩
theorem Tryz.lays138 : Go.Proofs.Lays.n138 Tryz.prog Tryz.lays138_ren := {
  mixed := by kernel_rfl
  f138 := Tryz.func170.trans (congrArg some (by kernel_rfl))
  f143 := Tryz.func244.trans (congrArg some (by kernel_rfl))
  f195 := Tryz.func242.trans (congrArg some (by kernel_rfl))
  f217 := Tryz.func372.trans (congrArg some (by kernel_rfl))
  f218 := Tryz.func243.trans (congrArg some (by kernel_rfl))
  f219 := Tryz.func320.trans (congrArg some (by kernel_rfl))
  f224 := Tryz.func374.trans (congrArg some (by kernel_rfl))
  f225 := Tryz.func373.trans (congrArg some (by kernel_rfl))
  f266 := Tryz.func399.trans (congrArg some (by kernel_rfl))
  f267 := Tryz.func375.trans (congrArg some (by kernel_rfl))
  f314 := Tryz.func400.trans (congrArg some (by kernel_rfl))
  t0 := Tryz.underlying0
  a0 := Tryz.isAgg0
  z0 := Tryz.sizeOf0
  v0 := Tryz.zeroValue0
  t3 := Tryz.underlying3
  a3 := Tryz.isAgg3
  z3 := Tryz.sizeOf3
  v3 := Tryz.zeroValue3
  t4 := Tryz.underlying4
  a4 := Tryz.isAgg4
  z4 := Tryz.sizeOf4
  v4 := Tryz.zeroValue4
  t5 := Tryz.underlying5
  a5 := Tryz.isAgg5
  z5 := Tryz.sizeOf5
  v5 := Tryz.zeroValue5
  t9 := Tryz.underlying9
  a9 := Tryz.isAgg9
  z9 := Tryz.sizeOf9
  v9 := Tryz.zeroValue9
  t46 := Tryz.underlying253
  a46 := Tryz.isAgg253
  z46 := Tryz.sizeOf253
  v46 := Tryz.zeroValue253
  t51 := Tryz.underlying254
  a51 := Tryz.isAgg254
  z51 := Tryz.sizeOf254
  v51 := Tryz.zeroValue254
  t146 := Tryz.underlying392
  a146 := Tryz.isAgg392
  z146 := Tryz.sizeOf392
  v146 := Tryz.zeroValue392
  g1 := by kernel_rfl }
open Go.RowKit Go.Lib in
theorem Tryz.strings_Count_one (s : ByteArray) (c : UInt8) (w : World) :
    Calls Tryz.prog 170 #[.string s, .string ⟨#[c]⟩] w fun e w' => e = .returned (.int .i64 (Lib.countByte s.data.toList c)) ∧ w' = w := Any.strings_Count_one Tryz.lays138 s c w
def Tryz.lays149_ren : Go.Shelf.Ren := ⟨fun | 149 => 220 | 222 => 306 | n => n, fun | 9 => 9 | 5 => 5 | 3 => 3 | 4 => 4 | n => n, fun | n => n⟩
theorem Tryz.lays149 : Go.Proofs.Lays.n149 Tryz.prog Tryz.lays149_ren := {
  mixed := by kernel_rfl
  f149 := Tryz.func220.trans (congrArg some (by kernel_rfl))
  f222 := Tryz.func306.trans (congrArg some (by kernel_rfl))
  t3 := Tryz.underlying3
  a3 := Tryz.isAgg3
  z3 := Tryz.sizeOf3
  v3 := Tryz.zeroValue3
  t4 := Tryz.underlying4
  a4 := Tryz.isAgg4
  z4 := Tryz.sizeOf4
  v4 := Tryz.zeroValue4
  t5 := Tryz.underlying5
  a5 := Tryz.isAgg5
  z5 := Tryz.sizeOf5
  v5 := Tryz.zeroValue5
  t9 := Tryz.underlying9
  a9 := Tryz.isAgg9
  z9 := Tryz.sizeOf9
  v9 := Tryz.zeroValue9 }
open Go.RowKit Go.Lib in
theorem Tryz.strings_LastIndexByte (s : ByteArray) (c : Int) (hs : s.size < 4611686018427387904) (w : World) :
    Calls Tryz.prog 220 #[.string s, .int .u8 c] w fun e w' => e = .returned (.int .i64 (Lib.lastIndexByte s c)) ∧ w' = w := Any.strings_LastIndexByte Tryz.lays149 s c hs w
def Tryz.lays99_ren : Go.Shelf.Ren := ⟨fun | 99 => 169 | 206 => 241 | n => n, fun | 9 => 9 | 4 => 4 | 3 => 3 | n => n, fun | n => n⟩
theorem Tryz.lays99 : Go.Proofs.Lays.n99 Tryz.prog Tryz.lays99_ren := {
  mixed := by kernel_rfl
  f99 := Tryz.func169.trans (congrArg some (by kernel_rfl))
  f206 := Tryz.func241.trans (congrArg some (by kernel_rfl))
  t3 := Tryz.underlying3
  a3 := Tryz.isAgg3
  z3 := Tryz.sizeOf3
  v3 := Tryz.zeroValue3
  t4 := Tryz.underlying4
  a4 := Tryz.isAgg4
  z4 := Tryz.sizeOf4
  v4 := Tryz.zeroValue4
  t9 := Tryz.underlying9
  a9 := Tryz.isAgg9
  z9 := Tryz.sizeOf9
  v9 := Tryz.zeroValue9 }
open Go.RowKit Go.Lib in
theorem Tryz.strings_HasPrefix (s p : ByteArray) (w : World) :
    Calls Tryz.prog 169 #[.string s, .string p] w fun e w' => e = .returned (.bool (Lib.hasPrefix s.data.toList p.data.toList)) ∧ w' = w := Any.strings_HasPrefix Tryz.lays99 s p w
def Tryz.lays197_ren : Go.Shelf.Ren := ⟨fun | 197 => 322 | 260 => 376 | n => n, fun | 9 => 9 | 21 => 21 | 3 => 3 | 4 => 4 | 5 => 5 | 105 => 381 | 119 => 384 | 0 => 0 | 46 => 253 | 139 => 387 | 138 => 386 | n => n, fun | 3 => 1 | 4 => 2 | n => n⟩
theorem Tryz.lays197 : Go.Proofs.Lays.n197 Tryz.prog Tryz.lays197_ren := {
  mixed := by kernel_rfl
  f197 := Tryz.func322.trans (congrArg some (by kernel_rfl))
  f260 := Tryz.func376.trans (congrArg some (by kernel_rfl))
  t0 := Tryz.underlying0
  a0 := Tryz.isAgg0
  z0 := Tryz.sizeOf0
  v0 := Tryz.zeroValue0
  t3 := Tryz.underlying3
  a3 := Tryz.isAgg3
  z3 := Tryz.sizeOf3
  v3 := Tryz.zeroValue3
  t4 := Tryz.underlying4
  a4 := Tryz.isAgg4
  z4 := Tryz.sizeOf4
  v4 := Tryz.zeroValue4
  t5 := Tryz.underlying5
  a5 := Tryz.isAgg5
  z5 := Tryz.sizeOf5
  v5 := Tryz.zeroValue5
  t9 := Tryz.underlying9
  a9 := Tryz.isAgg9
  z9 := Tryz.sizeOf9
  v9 := Tryz.zeroValue9
  t21 := Tryz.underlying21
  a21 := Tryz.isAgg21
  z21 := Tryz.sizeOf21
  v21 := Tryz.zeroValue21
  t46 := Tryz.underlying253
  a46 := Tryz.isAgg253
  z46 := Tryz.sizeOf253
  v46 := Tryz.zeroValue253
  t105 := Tryz.underlying381
  a105 := Tryz.isAgg381
  z105 := Tryz.sizeOf381
  v105 := Tryz.zeroValue381
  t119 := Tryz.underlying384
  a119 := Tryz.isAgg384
  z119 := Tryz.sizeOf384
  t138 := Tryz.underlying386
  a138 := Tryz.isAgg386
  z138 := Tryz.sizeOf386
  v138 := Tryz.zeroValue386
  t139 := Tryz.underlying387
  a139 := Tryz.isAgg387
  z139 := Tryz.sizeOf387
  v139 := Tryz.zeroValue387
  g3 := by kernel_rfl
  g4 := by kernel_rfl }
def Tryz.lays152_ren : Go.Shelf.Ren := ⟨fun | 152 => 377 | 137 => 401 | 119 => 402 | 224 => 374 | 225 => 373 | 217 => 372 | 266 => 399 | n => n, fun | 9 => 9 | 21 => 21 | 3 => 3 | 4 => 4 | 5 => 5 | 0 => 0 | 46 => 253 | n => n, fun | n => n⟩
theorem Tryz.lays152 : Go.Proofs.Lays.n152 Tryz.prog Tryz.lays152_ren := {
  mixed := by kernel_rfl
  f119 := Tryz.func402.trans (congrArg some (by kernel_rfl))
  f137 := Tryz.func401.trans (congrArg some (by kernel_rfl))
  f152 := Tryz.func377.trans (congrArg some (by kernel_rfl))
  f217 := Tryz.func372.trans (congrArg some (by kernel_rfl))
  f224 := Tryz.func374.trans (congrArg some (by kernel_rfl))
  f225 := Tryz.func373.trans (congrArg some (by kernel_rfl))
  f266 := Tryz.func399.trans (congrArg some (by kernel_rfl))
  t0 := Tryz.underlying0
  a0 := Tryz.isAgg0
  z0 := Tryz.sizeOf0
  v0 := Tryz.zeroValue0
  t3 := Tryz.underlying3
  a3 := Tryz.isAgg3
  z3 := Tryz.sizeOf3
  v3 := Tryz.zeroValue3
  t4 := Tryz.underlying4
  a4 := Tryz.isAgg4
  z4 := Tryz.sizeOf4
  v4 := Tryz.zeroValue4
  t5 := Tryz.underlying5
  a5 := Tryz.isAgg5
  z5 := Tryz.sizeOf5
  v5 := Tryz.zeroValue5
  t9 := Tryz.underlying9
  a9 := Tryz.isAgg9
  z9 := Tryz.sizeOf9
  v9 := Tryz.zeroValue9
  t21 := Tryz.underlying21
  a21 := Tryz.isAgg21
  z21 := Tryz.sizeOf21
  v21 := Tryz.zeroValue21
  t46 := Tryz.underlying253
  a46 := Tryz.isAgg253
  z46 := Tryz.sizeOf253
  v46 := Tryz.zeroValue253 }
open Go.RowKit Go.Lib in
theorem Tryz.strings_IndexRune_ascii (s : ByteArray) (r : Int) (w : World) (h0 : 0 ≤ r) (h1 : r < 128) :
    Calls Tryz.prog 377 #[.string s, .int .i32 r] w fun e w' => e = .returned (.int .i64 (Lib.indexByte s.data.toList r.toNat.toUInt8)) ∧ w' = w := Any.strings_IndexRune_ascii Tryz.lays152 s r w h0 h1
def Tryz.lays226_ren : Go.Shelf.Ren := ⟨fun | 226 => 378 | n => n, fun | 3 => 3 | 4 => 4 | n => n, fun | n => n⟩
theorem Tryz.lays226 : Go.Proofs.Lays.n226 Tryz.prog Tryz.lays226_ren := {
  mixed := by kernel_rfl
  f226 := Tryz.func378.trans (congrArg some (by kernel_rfl))
  t3 := Tryz.underlying3
  a3 := Tryz.isAgg3
  z3 := Tryz.sizeOf3
  v3 := Tryz.zeroValue3
  t4 := Tryz.underlying4
  a4 := Tryz.isAgg4
  z4 := Tryz.sizeOf4
  v4 := Tryz.zeroValue4 }
open Go.RowKit Go.Lib in
theorem Tryz.strings_shouldUseASCIISet (n : Int) (w : World) :
    Calls Tryz.prog 378 #[.int .i64 n] w fun e w' => e = .returned (.bool (decide (8 < n))) ∧ w' = w := Any.strings_shouldUseASCIISet Tryz.lays226 n w
def Tryz.lays153_ren : Go.Shelf.Ren := ⟨fun | 153 => 324 | 152 => 377 | 226 => 378 | 227 => 260 | 228 => 334 | 137 => 401 | 119 => 402 | 224 => 374 | 225 => 373 | 217 => 372 | 266 => 399 | n => n, fun | 9 => 9 | 3 => 3 | 4 => 4 | 5 => 5 | 21 => 21 | 117 => 309 | 116 => 308 | 0 => 0 | 46 => 253 | 124 => 312 | n => n, fun | n => n⟩
theorem Tryz.lays153 : Go.Proofs.Lays.n153 Tryz.prog Tryz.lays153_ren := {
  mixed := by kernel_rfl
  f119 := Tryz.func402.trans (congrArg some (by kernel_rfl))
  f137 := Tryz.func401.trans (congrArg some (by kernel_rfl))
  f152 := Tryz.func377.trans (congrArg some (by kernel_rfl))
  f153 := Tryz.func324.trans (congrArg some (by kernel_rfl))
  f217 := Tryz.func372.trans (congrArg some (by kernel_rfl))
  f224 := Tryz.func374.trans (congrArg some (by kernel_rfl))
  f225 := Tryz.func373.trans (congrArg some (by kernel_rfl))
  f226 := Tryz.func378.trans (congrArg some (by kernel_rfl))
  f227 := Tryz.func260.trans (congrArg some (by kernel_rfl))
  f228 := Tryz.func334.trans (congrArg some (by kernel_rfl))
  f266 := Tryz.func399.trans (congrArg some (by kernel_rfl))
  t0 := Tryz.underlying0
  a0 := Tryz.isAgg0
  z0 := Tryz.sizeOf0
  v0 := Tryz.zeroValue0
  t3 := Tryz.underlying3
  a3 := Tryz.isAgg3
  z3 := Tryz.sizeOf3
  v3 := Tryz.zeroValue3
  t4 := Tryz.underlying4
  a4 := Tryz.isAgg4
  z4 := Tryz.sizeOf4
  v4 := Tryz.zeroValue4
  t5 := Tryz.underlying5
  a5 := Tryz.isAgg5
  z5 := Tryz.sizeOf5
  v5 := Tryz.zeroValue5
  t9 := Tryz.underlying9
  a9 := Tryz.isAgg9
  z9 := Tryz.sizeOf9
  v9 := Tryz.zeroValue9
  t21 := Tryz.underlying21
  a21 := Tryz.isAgg21
  z21 := Tryz.sizeOf21
  v21 := Tryz.zeroValue21
  t46 := Tryz.underlying253
  a46 := Tryz.isAgg253
  z46 := Tryz.sizeOf253
  v46 := Tryz.zeroValue253
  t116 := Tryz.underlying308
  a116 := Tryz.isAgg308
  z116 := Tryz.sizeOf308
  t117 := Tryz.underlying309
  a117 := Tryz.isAgg309
  z117 := Tryz.sizeOf309
  v117 := Tryz.zeroValue309
  t124 := Tryz.underlying312
  a124 := Tryz.isAgg312
  z124 := Tryz.sizeOf312
  v124 := Tryz.zeroValue312 }
open Go.RowKit Go.Lib in
theorem Tryz.strings_IndexAny_long (hv116 : ∀ w, (zeroValue 308).run Tryz.prog w = .ok (.agg (Array.replicate 256 (.bool false))) w) (s chars : ByteArray) (w : World) (h2 : 2 ≤ chars.size) (h8 : 8 < s.size) (hs : s.size < 4294967281) (hcs : chars.size < 4294967281) (hascii : ∀ (j : Nat) b, chars.data.toList[j]? = some b → b.toNat < 128) :
    Calls Tryz.prog 324 #[.string s, .string chars] w fun e w' => e = .returned (.int .i64 (Lib.indexAny s.data.toList chars.data.toList)) ∧ w' = ((w.alloc (.cells (Lib.setCells chars.data.toList) 308)).alloc (.cells (Lib.setCells chars.data.toList) 308)) := Any.strings_IndexAny_long Tryz.lays153 hv116 (by kernel_rfl) s chars w h2 h8 hs hcs hascii
open Go.RowKit Go.Lib in
theorem Tryz.utf8_DecodeRuneInString (s : ByteArray) (w : World) (hT : Lib.Utf8Tabs 1 2 w) :
    Calls Tryz.prog 322 #[.string s] w fun e w' => e = .returned (.tuple #[.int .i32 (Lib.decodeGo s).1, .int .i64 (Lib.decodeGo s).2]) ∧ Below w.heap.size w w' := Any.utf8_DecodeRuneInString Tryz.lays197 s w hT
end Go.Proofs
namespace Go.Proofs.YthciejabapdbgaaGreatDoor
section
open Go.RowKit Go.Op
def str (b : ByteArray) : Str := b.data.toList
theorem str_size (b : ByteArray) : (str b).length = b.size := Array.length_toList
theorem str_inj {a b : ByteArray} (h : str a = str b) : a = b := by
  cases a; cases b; unfold str at h; congr 1; exact Array.toList_inj.1 h
theorem str_append (a b : ByteArray) : str (a ++ b) = str a ++ str b := by unfold str; rw [ByteArray.data_append, Array.toList_append]
theorem str_extract (b : ByteArray) (i j : Nat) : str (b.extract i j) = ((str b).drop i).take (j - i) := by
  unfold str; rw [ByteArray.data_extract, Array.toList_extract, List.extract_eq_take_drop]
theorem toList_str (b : ByteArray) : b.toList = str b := ByteArray.toList_eq b
theorem less_cmp : ∀ a b : Str, bytesLess a b = decide (Lib.compareBytes a b < 0)
  | [], [] => by simp [bytesLess, Lib.compareBytes]
  | [], _ :: _ => by simp [bytesLess, Lib.compareBytes]
  | _ :: _, [] => by simp [bytesLess, Lib.compareBytes]
  | x :: a, y :: b => by
    unfold bytesLess Lib.compareBytes
    by_cases h1 : x < y
    · simp [h1]
    by_cases h2 : y < x
    · have : x ≠ y := fun e => UInt8.lt_irrefl _ (e ▸ h2)
      simp [h1, h2, this]
    have : x = y := UInt8.le_antisymm (UInt8.not_lt.1 h2) (UInt8.not_lt.1 h1)
    subst this; simp [h1, less_cmp a b]
set_option maxRecDepth 100000 in
theorem cmp_any (a b : ByteArray) (w : World) : Calls Tryz.prog 218 #[.string a, .string b] w fun e w' => e = .returned (.int .i64 (Lib.compareBytes (str a) (str b))) ∧ w = w' := by
  have hl : bytesLess a.toList b.toList = decide (Lib.compareBytes (str a) (str b) < 0) := by rw [toList_str, toList_str]; exact less_cmp _ _
  have he : (a.toList == b.toList) = decide (Lib.compareBytes (str a) (str b) = 0) := by
    rw [toList_str, toList_str]
    by_cases h : Lib.compareBytes (str a) (str b) = 0
    · rw [cmpB_eq h]; simp [cmpB_self]
    have : str a ≠ str b := fun e => h (by rw [e]; exact cmpB_self _)
    simp [h, this]
  have hr := cmpB_range (str a) (str b); generalize Lib.compareBytes (str a) (str b) = c at *; have hc1 := Lib.hid hl; have hc2 := Lib.hid he; clear hl he
  rcases hr with rfl | rfl | rfl
  · have h1 : bytesLess a.toList b.toList = true := by rw [hc1.out]; decide
    clear hc1 hc2
    go_enter Tryz.func218, Tryz.ntmps218
    go_wp2
    go_ret
    exact ⟨rfl, rfl⟩
  · have h1 : bytesLess a.toList b.toList = false := by rw [hc1.out]; decide
    have h2 : (a.toList == b.toList) = true := by rw [hc2.out]; decide
    clear hc1 hc2
    go_enter Tryz.func218, Tryz.ntmps218
    go_wp2
    go_ret
    exact ⟨rfl, rfl⟩
  have h1 : bytesLess a.toList b.toList = false := by rw [hc1.out]; decide
  have h2 : (a.toList == b.toList) = false := by rw [hc2.out]; decide
  clear hc1 hc2
  go_enter Tryz.func218, Tryz.ntmps218
  go_wp2
  go_ret
  exact ⟨rfl, rfl⟩
theorem slash_cases (b : ByteArray) : (Lib.indexByte (str b) 47 = -1 ∧ 47 ∉ str b) ∨ ∃ i : Nat, Lib.indexByte (str b) 47 = i ∧ i < b.size ∧ 47 ∉ (str b).take i ∧ str b = (str b).take i ++ 47 :: (str b).drop (i + 1) := by
  have hge := Lib.indexByte_ge (str b) 47
  by_cases h : Lib.indexByte (str b) 47 = -1
  · refine .inl ⟨h, fun hm => ?_⟩
    obtain ⟨k, hk, e⟩ := List.getElem_of_mem hm; exact Lib.indexByte_none h k (by rw [List.getElem?_eq_getElem hk, e])
  refine .inr ⟨(Lib.indexByte (str b) 47).toNat, by omega, ?_⟩
  obtain ⟨h1, h2⟩ := Lib.indexByte_some (l := str b) (c := 47) (o := (Lib.indexByte (str b) 47).toNat) (by omega); generalize (Lib.indexByte (str b) 47).toNat = i at *; obtain ⟨hi, e⟩ := List.getElem?_eq_some_iff.1 h1; refine ⟨by rw [← str_size]; exact hi, fun hm => ?_, ?_⟩
  · obtain ⟨k, hk, e⟩ := List.getElem_of_mem hm
    rw [List.length_take] at hk; rw [List.getElem_take] at e; exact h2 k (by omega) (by rw [List.getElem?_eq_getElem (by omega), e])
  have := List.take_append_drop i (str b); rw [List.drop_eq_getElem_cons hi, e] at this; exact this.symm
theorem lindex_any (s : ByteArray) (w : World) : Calls Tryz.prog 320 #[.string s, .string ⟨#[47]⟩] w fun e w' => e = .returned (.int .i64 (Lib.indexByte (str s) 47)) ∧ w = w' :=
  (Tryz.stringslite_Index_one s 47 w).mono fun _ _ ⟨a, b⟩ => ⟨a, b.symm⟩
theorem index_any (s : ByteArray) (w : World) : Calls Tryz.prog 244 #[.string s, .string ⟨#[47]⟩] w fun e w' => e = .returned (.int .i64 (Lib.indexByte (str s) 47)) ∧ w = w' :=
  (Tryz.strings_Index_one s 47 w).mono fun _ _ ⟨a, b⟩ => ⟨a, b.symm⟩
set_option maxRecDepth 100000 in
theorem lcut_none (s : ByteArray) (w : World) (h : Lib.indexByte (str s) 47 = -1) :
    Calls Tryz.prog 302 #[.string s, .string ⟨#[47]⟩] w fun e w' => e = .returned (.tuple #[.string s, .string ⟨#[]⟩, .bool false]) ∧ w = w' := by
  have H := Lib.hid h; clear h
  go_enter Tryz.func302, Tryz.ntmps302
  go_wp2_with fail
  refine (lindex_any s w).mono ?_
  rintro e w' ⟨rfl, e1⟩; subst e1; rw [H.out]
  go_wp2_with fail
  go_ret3
  exact ⟨rfl, rfl⟩
set_option maxRecDepth 100000 in
theorem lcut_some (s : ByteArray) (i : Nat) (w : World) (h : Lib.indexByte (str s) 47 = i) (hi : i < s.size) (hs : s.size ≤ maxLen) :
    Calls Tryz.prog 302 #[.string s, .string ⟨#[47]⟩] w fun e w' => e = .returned (.tuple #[.string (s.extract 0 i), .string (s.extract (i + 1) s.size), .bool true]) ∧ ∃ n, w' = w.drewN n := by
  have H := Lib.hid h; clear h; unfold maxLen at hs; have c1 : (0 : Int) ≤ ↑i := by omega
  have c2 : (↑i : Int) ≤ ↑s.size := by omega
  have c3 : (0 : Int) ≤ ↑i + 1 := by omega
  have c4 : (↑i + 1 : Int) ≤ ↑s.size := by omega
  go_enter Tryz.func302, Tryz.ntmps302
  go_wp2_with fail
  refine (lindex_any s w).mono ?_
  rintro e w' ⟨rfl, e1⟩; subst e1; rw [H.out]
  go_wp2_with fail
  go_region
  go_wp2
  go_ret3
  exact ⟨rfl, 1, rfl⟩
set_option maxRecDepth 100000 in
theorem cut_none (s : ByteArray) (w : World) (h : Lib.indexByte (str s) 47 = -1) :
    Calls Tryz.prog 217 #[.string s, .string ⟨#[47]⟩] w fun e w' => e = .returned (.tuple #[.string s, .string ⟨#[]⟩, .bool false]) ∧ w = w' := by
  have H := Lib.hid h; clear h
  go_enter Tryz.func217, Tryz.ntmps217
  go_wp2_with fail
  refine (lcut_none s w H.out).mono ?_
  rintro e w' ⟨rfl, e1⟩; subst e1
  go_wp2_with fail
  go_ret3
  exact ⟨rfl, rfl⟩
set_option maxRecDepth 100000 in
theorem cut_some (s : ByteArray) (i : Nat) (w : World) (h : Lib.indexByte (str s) 47 = i) (hi : i < s.size) (hs : s.size ≤ maxLen) :
    Calls Tryz.prog 217 #[.string s, .string ⟨#[47]⟩] w fun e w' => e = .returned (.tuple #[.string (s.extract 0 i), .string (s.extract (i + 1) s.size), .bool true]) ∧ ∃ n, w' = w.drewN n := by
  have H := Lib.hid h; clear h
  go_enter Tryz.func217, Tryz.ntmps217
  go_wp2_with fail
  refine (lcut_some s i w H.out hi hs).mono ?_
  rintro e w' ⟨rfl, n, rfl⟩
  go_wp2_with fail
  go_ret3
  exact ⟨rfl, n, rfl⟩
end
section
open Go.RowKit Go.Op
theorem Off.iterAt {l : List Nat} {w w' : World} (h : Off l w w') {k : Nat} (hk : w.heap.size ≤ k) (s : ByteArray) (p : Nat) : Off l w (w'.iterAt k s p) :=
  ⟨h.os, h.tape, h.output, by simpa [World.iterAt] using h.size, fun i hi hn => by
    show (w'.heap.setIfInBounds k _)[i]? = _
    rw [Array.getElem?_setIfInBounds_ne (by omega)]; exact h.block i hi hn⟩
theorem vrune_any (r : Int) (w : World) : Calls Tryz.prog 402 #[.int .i32 r] w fun e w' => e = .returned (.bool (Lib.validRune r)) ∧ w = w' :=
  (Tryz.utf8_ValidRune r w).mono fun _ _ ⟨a, b⟩ => ⟨a, b.symm⟩
set_option maxRecDepth 100000 in
set_option maxHeartbeats 4000000 in
theorem irune_err (w : World) :
    Calls Tryz.prog 377 #[.string ⟨#[47, 0]⟩, .int .i32 65533] w fun e w' => e = .returned (.int .i64 (-1)) ∧ Off [] w w' := by
  go_enter Tryz.func377, Tryz.ntmps377
  go_wp2_with fail
  go_loopw [5] (fun _ wr => ∃ p : Nat, p ≤ 2 ∧ wr = w.iter ⟨#[47, 0]⟩ p) (fun _ wr => 2 - wr.iterPos w.heap.size)
  case atStart => exact ⟨0, by omega, rfl⟩
  case round =>
    obtain ⟨p, hp, rfl⟩ := hrel
    match p, hp with
    | 0, _ =>
      have hnx := fun ty => run_next_ascii (P := Tryz.prog) w ⟨#[47, 0]⟩ 0 ty (by decide) (by decide)
      go_wp2_with fail
      exact ⟨⟨1, by omega, rfl⟩, by simp⟩
    | 1, _ =>
      have hnx := fun ty => run_next_ascii (P := Tryz.prog) w ⟨#[47, 0]⟩ 1 ty (by decide) (by decide)
      go_wp2_with fail
      exact ⟨⟨2, by omega, rfl⟩, by simp⟩
    | 2, _ =>
      have hnx := fun ty => run_next_end (P := Tryz.prog) w ⟨#[47, 0]⟩ 2 ty (by decide)
      go_wp2_with fail
      go_ret
      exact ⟨rfl, (Off.refl _ _).alloc _⟩
set_option maxRecDepth 100000 in
set_option maxHeartbeats 4000000 in
theorem irune_bad (r : Int) (w : World) (h1 : 128 ≤ r) (h2 : r ≤ 1114111) (h3 : r ≠ 65533) (hv : Lib.validRune r = false) :
    Calls Tryz.prog 377 #[.string ⟨#[47, 0]⟩, .int .i32 r] w fun e w' => e = .returned (.int .i64 (-1)) ∧ Off [] w w' := by
  have H := Lib.hid hv; clear hv; have e3 : (r == 65533) = false := beq_eq_false_iff_ne.2 h3
  have g1 : decide (r < 128) = false := decide_eq_false (by omega)
  have g0 : decide (0 ≤ r) = true := decide_eq_true (by omega)
  go_enter Tryz.func377, Tryz.ntmps377
  go_wp2_with fail
  refine (vrune_any r _).mono ?_
  rintro e w' ⟨rfl, e1⟩; subst e1; rw [H.out]
  go_wp2_with fail
  go_ret
  exact ⟨rfl, Off.refl _ _⟩
set_option maxRecDepth 100000 in
set_option maxHeartbeats 4000000 in
theorem irune_two (r : Int) (w : World) (h1 : 128 ≤ r) (h2 : r ≤ 1114111) (h3 : r ≠ 65533) (hv : Lib.validRune r = true) (c : ByteArray) (x y : UInt8) (hc : Utf8.encode r = c) (hs : c = ⟨#[x, y]⟩) (hy : 128 ≤ y.toNat) :
    Calls Tryz.prog 377 #[.string ⟨#[47, 0]⟩, .int .i32 r] w fun e w' => e = .returned (.int .i64 (-1)) ∧ Off [] w w' := by
  have H := Lib.hid hv; clear hv; subst hs; have e3 : (r == 65533) = false := beq_eq_false_iff_ne.2 h3
  have g1 : decide (r < 128) = false := decide_eq_false (by omega)
  have g0 : decide (0 ≤ r) = true := decide_eq_true (by omega)
  have gy : ((((⟨#[47, 0]⟩ : ByteArray)[1]'(by decide)).toNat : Int) != (((⟨#[x, y]⟩ : ByteArray)[1]'(by show 1 < 2; omega)).toNat : Int)) = true := by
    show ((0 : Int) != (y.toNat : Int)) = true
    simp
    omega
  go_enter Tryz.func377, Tryz.ntmps377
  go_wp2_with fail
  refine (vrune_any r _).mono ?_
  rintro e w' ⟨rfl, e1⟩; subst e1; rw [H.out]
  go_wp2_with fail
  go_step3
  go_wp2_with fail
  go_loopw [9] (fun i wr => i = .int .i64 1 ∧ wr = w) (fun _ _ => 0)
  case atStart => exact ⟨rfl, rfl⟩
  case round =>
    obtain ⟨rfl, rfl⟩ := hrel
    go_wp2_with fail
    go_step3
    go_wp2_with fail
    go_region
    go_wp2_with fail
    have gw : IntKind.i64.wrap 2 = 2 := by rfl
    refine code_gen (fun W => Off [] wr W) ((Off.refl _ _).drew) ?_
    rintro W ho
    go_quiet ((go_at_call 401; exact Calls.quiet_of_same (Tryz.strings_IndexByte ByteArray.empty _ _)))
    go_wp2_with fail
    rw [Exit.noGoto_ret]
    go_wp2_with fail
    try rw [Exit.noGoto_ret]
    go_ret
    exact ⟨rfl, ho.drewN _⟩
set_option maxRecDepth 100000 in
set_option maxHeartbeats 4000000 in
theorem irune_more (r : Int) (w : World) (h1 : 128 ≤ r) (h2 : r ≤ 1114111) (h3 : r ≠ 65533) (hv : Lib.validRune r = true) (c : ByteArray) (hc : Utf8.encode r = c) (hs : 3 ≤ c.size) (hs4 : c.size ≤ 4) :
    Calls Tryz.prog 377 #[.string ⟨#[47, 0]⟩, .int .i32 r] w fun e w' => e = .returned (.int .i64 (-1)) ∧ Off [] w w' := by
  have H := Lib.hid hv; clear hv; have e3 : (r == 65533) = false := beq_eq_false_iff_ne.2 h3
  have g1 : decide (r < 128) = false := decide_eq_false (by omega)
  have g0 : decide (0 ≤ r) = true := decide_eq_true (by omega)
  go_enter Tryz.func377, Tryz.ntmps377
  go_wp2_with fail
  refine (vrune_any r _).mono ?_
  rintro e w' ⟨rfl, e1⟩; subst e1; rw [H.out]
  go_wp2_with fail
  go_step3
  go_wp2_with fail
  go_loopw [9] (fun i wr => i = .int .i64 ((c.size : Int) - 1) ∧ wr = w) (fun _ _ => 0)
  case atStart => exact ⟨rfl, rfl⟩
  case round =>
    obtain ⟨rfl, rfl⟩ := hrel
    go_wp2_with fail
    rw [Exit.noGoto_ret]
    go_ret
    exact ⟨rfl, Off.refl _ _⟩
theorem irune_high (r : Int) (w : World) (h1 : 128 ≤ r) (h2 : r ≤ 1114111) :
    Calls Tryz.prog 377 #[.string ⟨#[47, 0]⟩, .int .i32 r] w fun e w' => e = .returned (.int .i64 (-1)) ∧ Off [] w w' := by
  by_cases h3 : r = 65533
  · subst h3; exact irune_err w
  cases hv : Lib.validRune r
  · exact irune_bad r w h1 h2 h3 hv
  have hu : Utf8.valid r = true := by
    simp [Lib.validRune] at hv
    simp [Utf8.valid]
    omega
  obtain ⟨k1, k2, k3⟩ := encode_facts r hu h1
  by_cases hs : (Utf8.encode r).size = 2
  · obtain ⟨c, hc⟩ : ∃ c, Utf8.encode r = c := ⟨_, rfl⟩
    rw [hc] at hs k3; obtain ⟨⟨l⟩⟩ := c
    match l, hs with
    | [x, y], _ => exact irune_two r w h1 h2 h3 hv _ x y hc rfl (k3 (by show 1 < 2; omega))
  exact irune_more r w h1 h2 h3 hv _ rfl (by omega) k2
theorem irune_low (r : Int) (w : World) (h0 : 0 ≤ r) (h1 : r < 128) :
    Calls Tryz.prog 377 #[.string ⟨#[47, 0]⟩, .int .i32 r] w fun e w' => e = .returned (.int .i64 (Lib.indexByte [47, 0] r.toNat.toUInt8)) ∧ Off [] w w' :=
  (Tryz.strings_IndexRune_ascii ⟨#[47, 0]⟩ r w h0 h1).mono fun _ _ ⟨a, b⟩ => ⟨a, b ▸ Off.refl _ _⟩
theorem skip_high (s : ByteArray) (p : Nat) (hp : p < s.size) (hx : 128 ≤ ((str s).getD p 0).toNat) :
    p + (Utf8.decode s p).2 ≤ s.size ∧ 1 ≤ (Utf8.decode s p).2 ∧ ∀ j b, p ≤ j → j < p + (Utf8.decode s p).2 → (str s)[j]? = some b → 128 ≤ b.toNat := by
  have hl := str_size s; rw [Lib.decode_N]
  show p + (Lib.decodeN ((str s).length - p) ((str s).getD p 0).toNat ((str s).getD (p + 1) 0).toNat ((str s).getD (p + 2) 0).toNat ((str s).getD (p + 3) 0).toNat).2 ≤ s.size ∧ 1 ≤ (Lib.decodeN ((str s).length - p) ((str s).getD p 0).toNat ((str s).getD (p + 1) 0).toNat ((str s).getD (p + 2) 0).toNat ((str s).getD (p + 3) 0).toNat).2 ∧ ∀ j b, p ≤ j → j < p + (Lib.decodeN ((str s).length - p) ((str s).getD p 0).toNat ((str s).getD (p + 1) 0).toNat ((str s).getD (p + 2) 0).toNat ((str s).getD (p + 3) 0).toNat).2 → (str s)[j]? = some b → 128 ≤ b.toNat
  have hget : ∀ j b, (str s)[j]? = some b → (str s).getD j 0 = b := fun j b h => by simp [List.getD, h]
  rcases Lib.decodeN_shape ((str s).length - p) ((str s).getD p 0).toNat ((str s).getD (p + 1) 0).toNat ((str s).getD (p + 2) 0).toNat ((str s).getD (p + 3) 0).toNat with ⟨c, e⟩ | ⟨c1, c2, c3, cv, e⟩ | ⟨c1, c2, c3, c4, cv, cs, e⟩ | ⟨c1, c2, c3, c4, c5, cv, cs, e⟩ | e
  · omega
  · rw [e]
    refine ⟨by dsimp only; omega, by dsimp only; omega, fun j b hj hj2 hb => ?_⟩
    dsimp only at hj2
    have hb' : ((str s).getD j 0).toNat = b.toNat := by rw [hget j b hb]
    obtain rfl | rfl : j = p ∨ j = p + 1 := by omega
    all_goals omega
  · rw [e]
    refine ⟨by dsimp only; omega, by dsimp only; omega, fun j b hj hj2 hb => ?_⟩
    dsimp only at hj2
    have hb' : ((str s).getD j 0).toNat = b.toNat := by rw [hget j b hb]
    obtain rfl | rfl | rfl : j = p ∨ j = p + 1 ∨ j = p + 2 := by omega
    all_goals omega
  · rw [e]
    refine ⟨by dsimp only; omega, by dsimp only; omega, fun j b hj hj2 hb => ?_⟩
    dsimp only at hj2
    have hb' : ((str s).getD j 0).toNat = b.toNat := by rw [hget j b hb]
    obtain rfl | rfl | rfl | rfl : j = p ∨ j = p + 1 ∨ j = p + 2 ∨ j = p + 3 := by omega
    all_goals omega
  rw [e]; refine ⟨by dsimp only; omega, by dsimp only; omega, fun j b hj hj2 hb => ?_⟩; dsimp only at hj2; obtain rfl : j = p := by omega
  rw [← hget j b hb]; exact hx
def AnyIt (w : World) (s : ByteArray) (p : Nat) (wr : World) : Prop := p ≤ s.size ∧ wr.heap[w.heap.size]? = some (.stringIter s p) ∧ Off [] w wr ∧ Lib.NoAny (str s) [47, 0] p
theorem shouldAscii_any (n : Int) (w : World) : Calls Tryz.prog 378 #[.int .i64 n] w fun e w' => e = .returned (.bool (decide (8 < n))) ∧ w = w' :=
  (Tryz.strings_shouldUseASCIISet n w).mono fun _ _ ⟨a, b⟩ => ⟨a, b.symm⟩
def iterOf (w : World) (k : Nat) : Nat := match w.heap[k]? with | some (.stringIter _ p) => p | _ => 0
set_option maxRecDepth 100000 in
set_option maxHeartbeats 4000000 in
theorem iany_short (s : ByteArray) (w : World) (h8 : s.size ≤ 8) :
    Calls Tryz.prog 324 #[.string s, .string ⟨#[47, 0]⟩] w fun e w' => e = .returned (.int .i64 (Lib.indexAny (str s) [47, 0])) ∧ Off [] w w' := by
  have h8z : decide ((8 : Int) < (s.size : Int)) = false := decide_eq_false (by omega)
  go_enter Tryz.func324, Tryz.ntmps324
  go_wp2_with fail
  refine (shouldAscii_any _ _).mono ?_
  rintro e w' ⟨rfl, e1⟩; subst e1; rw [h8z]
  go_wp2_with fail
  go_loopw [9] (fun _ wr => ∃ p : Nat, AnyIt w s p wr) (fun _ wr => s.size - iterOf wr w.heap.size)
  case atStart => exact ⟨0, by omega, World.iter_heap w s 0, (Off.refl _ _).alloc _, Lib.NoAny.zero _ _⟩
  case round =>
    obtain ⟨p, hI⟩ := hrel; have HI := Lib.hid hI; obtain ⟨hp, hk, ho, hno⟩ := hI; have hm : iterOf wr w.heap.size = p := by simp [iterOf, hk]
    have HM := Lib.hid hm; clear hno ho hm
    by_cases he : p = s.size
    · have hnx := fun ty => Lib.run_next_end_at (P := Tryz.prog) wr w.heap.size s p ty hk (by omega)
      have HE := Lib.hid he; clear he hk
      go_wp2_with fail
      go_ret
      exact ⟨by rw [Lib.indexAny_none (by rw [str_size, ← HE.out]; exact HI.out.2.2.2)]; rfl, HI.out.2.2.1⟩
    have hlt : p < s.size := by omega
    obtain ⟨x, hx⟩ : ∃ x : UInt8, s[p]'hlt = x := ⟨_, rfl⟩
    have hxl : (str s)[p]? = some x := by rw [← hx]; exact Lib.data_getElem? s p hlt
    have hnew : ∀ q, (wr.iterAt w.heap.size s q).heap[w.heap.size]? = some (.stringIter s q) := fun q => Lib.iterAt_heap wr w.heap.size s p q hk
    have HN := Lib.hid hnew; clear hnew
    by_cases hx8 : x.toNat < 128
    · have hnx := fun ty => Lib.run_next_ascii_at (P := Tryz.prog) wr w.heap.size s p ty hk hlt (by rw [hx]; exact hx8)
      rw [hx] at hnx; have HX := Lib.hid hx; have HL := Lib.hid hxl; clear hx hxl hk
      go_wp2_with fail
      refine (irune_low _ _ (by omega) (by omega)).mono ?_
      rintro e w2 ⟨rfl, ho2⟩
      by_cases hc : x = 47 ∨ x = 0
      · have hv : ∃ v : Nat, Lib.indexByte [47, 0] ((x.toNat : Int).toNat.toUInt8) = v := by
          rcases hc with rfl | rfl
          · exact ⟨0, rfl⟩
          exact ⟨1, rfl⟩
        obtain ⟨v, hv⟩ := hv; rw [hv]; have hcc : ([47, 0] : List UInt8).contains x = true := by rcases hc with rfl | rfl <;> rfl
        clear hv hc; have HC := Lib.hid hcc; clear hcc
        go_wp2_with fail
        go_ret
        exact ⟨by rw [Lib.indexAny_hit HI.out.2.2.2 HL.out HC.out]; rfl, (HI.out.2.2.1.iterAt (Nat.le_refl _) s _).trans_nil ho2⟩
      have hcc : ([47, 0] : List UInt8).contains x = false := by
        simp only [not_or] at hc
        simp [hc.1, hc.2]
      have hv : Lib.indexByte [47, 0] ((x.toNat : Int).toNat.toUInt8) = -1 := by
        simp only [not_or] at hc
        have h1 : ¬ ((47 : UInt8) = x) := fun e => hc.1 e.symm
        have h2 : ¬ ((0 : UInt8) = x) := fun e => hc.2 e.symm
        simp [Lib.indexByte, h1, h2]
      rw [hv]; clear hv hc; have HC := Lib.hid hcc; clear hcc
      go_wp2_with fail
      have hk2 := (ho2.block w.heap.size (by have := (Array.getElem?_eq_some_iff.1 (HN.out (p + 1))).1; exact this) (by simp)).trans (HN.out (p + 1)); refine ⟨⟨p + 1, by omega, hk2, (HI.out.2.2.1.iterAt (Nat.le_refl _) s _).trans_nil ho2, HI.out.2.2.2.succ HL.out HC.out⟩, ?_⟩; rw [HM.out]; simp [iterOf, hk2]; omega
    have hnx := fun ty => Lib.run_next_any_at (P := Tryz.prog) wr w.heap.size s p ty hk hlt
    have hxd : 128 ≤ ((str s).getD p 0).toNat := by simp [List.getD, hxl]; omega
    obtain ⟨q1, q2, q3⟩ := skip_high s p hlt hxd; have hr1 := (decode_high s p hlt (by rw [hx]; omega)).1; have hr2 : (Utf8.decode s p).1 ≤ 1114111 := by rw [← Lib.decodeL_drop]; exact Lib.decodeL_rune _
    generalize (Utf8.decode s p).1 = r at *
    generalize (Utf8.decode s p).2 = d at *
    clear hx hxl hk; have HQ := Lib.hid q3; clear q3
    go_wp2_with fail
    refine (irune_high _ _ (by omega) (by omega)).mono ?_
    rintro e w2 ⟨rfl, ho2⟩
    go_wp2_with fail
    have hk2 := (ho2.block w.heap.size (by have := (Array.getElem?_eq_some_iff.1 (HN.out (p + d))).1; exact this) (by simp)).trans (HN.out (p + d)); refine ⟨⟨p + d, by omega, hk2, (HI.out.2.2.1.iterAt (Nat.le_refl _) s _).trans_nil ho2, fun j b hj hb => ?_⟩, ?_⟩
    · by_cases hjp : j < p
      · exact HI.out.2.2.2 j b hjp hb
      have := HQ.out j b (by omega) hj hb; have h1 : ¬ b = 47 := fun e => by subst e; simp at this
      have h2 : ¬ b = 0 := fun e => by subst e; simp at this
      simp [h1, h2]
    rw [HM.out]; simp [iterOf, hk2]; omega
end
section
open Go.RowKit Go.Op
theorem asc2 : ∀ (j : Nat) (b : UInt8), (⟨#[47, 0]⟩ : ByteArray).data.toList[j]? = some b → b.toNat < 128 := by
  intro j b h
  have hm : b ∈ ([47, 0] : List UInt8) := List.mem_of_getElem? h
  simp at hm
  rcases hm with rfl | rfl <;> decide
theorem iany_any (s : ByteArray) (w : World) (hs : s.size ≤ 400) :
    Calls Tryz.prog 324 #[.string s, .string ⟨#[47, 0]⟩] w fun e w' => e = .returned (.int .i64 (Lib.indexAny (str s) [47, 0])) ∧ Off [] w w' := by
  by_cases h8 : s.size ≤ 8
  · exact iany_short s w h8
  refine (Tryz.strings_IndexAny_long (zero_of_info (P := Tryz.prog) (t := 308) (n := 256) (by kernel_rfl)).1 s ⟨#[47, 0]⟩ w (by decide) (by omega) (by omega) (by decide) asc2).mono fun e w' ⟨a, b⟩ => ⟨a, ?_⟩
  rw [b]; exact ((Off.refl _ _).alloc _).alloc _
theorem indexAny_sep : ∀ l : Str, decide (0 ≤ Lib.indexAny l [47, 0]) = !noSep l
  | [] => by simp [Lib.indexAny, noSep]
  | b :: l => by
    have ih := indexAny_sep l; have hge := Lib.indexAny_ge [47, 0] l; unfold Lib.indexAny
    by_cases hc : ([47, 0] : List UInt8).contains b = true
    · rw [if_pos hc]
      simp at hc
      rcases hc with rfl | rfl <;> simp [noSep]
    rw [if_neg hc]; simp at hc; have e : noSep (b :: l) = noSep l := by simp [noSep, hc.1, hc.2]
    rw [e, ← ih]
    by_cases h1 : Lib.indexAny l [47, 0] = -1
    · simp [h1]
    have : ¬ ((Lib.indexAny l [47, 0] == -1) = true) := by simp [h1]
    rw [if_neg this]; simp only [decide_eq_decide]; omega
set_option maxRecDepth 100000 in
theorem contAny_any (s : ByteArray) (w : World) (hs : s.size ≤ 400) :
    Calls Tryz.prog 247 #[.string s, .string ⟨#[47, 0]⟩] w fun e w' => e = .returned (.bool (!noSep (str s))) ∧ Off [] w w' := by
  have h := Lib.hid (indexAny_sep (str s))
  go_enter Tryz.func247, Tryz.ntmps247
  go_wp2_with fail
  refine (iany_any s _ hs).mono ?_
  rintro e w' ⟨rfl, ho⟩
  go_wp2_with fail
  go_ret
  exact ⟨by rw [← h.out]; rfl, ho⟩
def Tabs (w : World) : Prop := Lib.Utf8Tabs 1 2 w
theorem Tabs.off {w w' : World} (h : Tabs w) (ho : Off [] w w') : Tabs w' :=
  ⟨fun c hc => (ho.cell (World.block_lt_of_cell? _ _ (h.1 c hc)) (by simp)).trans (h.1 c hc),
    fun i hi => ⟨(ho.cell (World.block_lt_of_cell? _ _ (h.2 i hi).1) (by simp)).trans (h.2 i hi).1, (ho.cell (World.block_lt_of_cell? _ _ (h.2 i hi).2) (by simp)).trans (h.2 i hi).2⟩⟩
theorem valid_any (s : ByteArray) (w : World) (hs : s.size ≤ maxLen) (hT : Tabs w) :
    Calls Tryz.prog 246 #[.string s] w fun e w' => e = .returned (.bool (Lib.validD (str s))) ∧ Off [] w w' :=
  (Tryz.utf8_ValidString s w (by unfold maxLen at hs; omega) hT).mono fun _ _ ⟨a, b⟩ => ⟨a, Off.of_below b⟩
theorem okName_eq (s : ByteArray) : okName (str s) = (decide (¬ s.toList = []) && decide (s.size ≤ 64) && decide (¬ s.toList = [46]) && decide (¬ s.toList = [46, 46]) && Lib.validD (str s) && noSep (str s)) := by
  rw [toList_str]; simp [okName, str_size]
set_option maxRecDepth 100000 in
theorem name_any (s : ByteArray) (w : World) (hs : s.size ≤ maxLen) (hT : Tabs w) :
    Calls Tryz.prog 172 #[.string s] w fun e w' => e = .returned (.bool (okName (str s))) ∧ Off [] w w' := by
  have hk := Lib.hid (okName_eq s)
  by_cases h1 : s.toList = []
  · go_enter Tryz.func172, Tryz.ntmps172
    go_wp2_with fail
    go_ret
    exact ⟨by rw [hk.out]; simp [h1], Off.refl _ _⟩
  by_cases h2 : s.size ≤ 64
  · by_cases h3 : s.toList = [46]
    · go_enter Tryz.func172, Tryz.ntmps172
      go_wp2_with fail
      go_ret
      exact ⟨by rw [hk.out]; simp [h3], Off.refl _ _⟩
    by_cases h4 : s.toList = [46, 46]
    · go_enter Tryz.func172, Tryz.ntmps172
      go_wp2_with fail
      go_ret
      exact ⟨by rw [hk.out]; simp [h4], Off.refl _ _⟩
    have g1 : s.toList.isEmpty = false := by simpa using h1
    have g2 : (s.toList == [46]) = false := by simpa using h3
    have g3 : (s.toList == [46, 46]) = false := by simpa using h4
    cases hv : Lib.validD (str s)
    · have HV := Lib.hid hv
      clear hv
      go_enter Tryz.func172, Tryz.ntmps172
      go_wp2_with fail
      refine (valid_any s _ hs hT).mono ?_
      rintro e w1 ⟨rfl, ho⟩; rw [HV.out]
      go_wp2_with fail
      go_ret
      exact ⟨by rw [hk.out]; simp [HV.out], ho⟩
    have HV := Lib.hid hv; clear hv
    go_enter Tryz.func172, Tryz.ntmps172
    go_wp2_with fail
    refine (valid_any s _ hs hT).mono ?_
    rintro e w1 ⟨rfl, ho⟩; rw [HV.out]
    go_wp2_with fail
    refine (contAny_any s _ (by omega)).mono ?_
    rintro e w2 ⟨rfl, ho2⟩
    go_wp2_with fail
    go_ret
    exact ⟨by rw [hk.out]; simp [HV.out, h1, h2, h3, h4], ho.trans_nil ho2⟩
  go_enter Tryz.func172, Tryz.ntmps172
  go_wp2_with fail
  go_ret
  exact ⟨by rw [hk.out]; simp [h2], Off.refl _ _⟩
end
section
open Go.RowKit Go.Op
def SplitP (s : ByteArray) (w : World) (e : Ending) (w' : World) : Prop :=
  ∃ g, e = .returned (.func (.func 321) #[] #[.pointer (some ⟨g + 1, 0, none⟩), .pointer (some ⟨g, 0, none⟩), .pointer (some ⟨g + 2, 0, none⟩)]) ∧ w.heap.size ≤ g ∧
    Blk w' g 9 #[.string s] ∧ Blk w' (g + 1) 9 #[.string ⟨#[47]⟩] ∧ Blk w' (g + 2) 3 #[.int .i64 0] ∧ Off [] w w'
set_option maxRecDepth 100000 in
theorem splitSeq0 (s : ByteArray) (w : World) : Calls Tryz.prog 245 #[.string s, .string ⟨#[47]⟩, .int .i64 0] w (SplitP s w) := by
  go_enter Tryz.func245, Tryz.ntmps245
  go_wp2_with fail
  go_ret
  refine ⟨w.heap.size, rfl, Nat.le_refl _, ((Blk.new w 9 _).alloc _).alloc _, (Blk.new1 w _ _ _).alloc _, Blk.new2 w _ _ _ _, (((Off.refl _ _).alloc _).alloc _).alloc _⟩
set_option maxRecDepth 100000 in
theorem splitSeq_any (s : ByteArray) (w : World) : Calls Tryz.prog 171 #[.string s, .string ⟨#[47]⟩] w (SplitP s w) := by
  go_enter Tryz.func171, Tryz.ntmps171
  go_wp2_with fail
  refine (splitSeq0 s w).mono ?_
  rintro e w1 ⟨g, rfl, h1, h2, h3, h4, h5⟩
  go_wp2_with fail
  go_ret
  exact ⟨g, rfl, h1, h2, h3, h4, h5⟩
structure SplInv (l D g r : Nat) (rc : LoopState → Option Code → Loop) (w0 : World) (cur : ByteArray) (W : World) : Prop where
  rdy : W.heap[l]? = some (.loop (rc .ready none))
  dfr : W.heap[D]? = some (.deferred (some []))
  s : Blk W g 9 #[.string cur]
  sep : Blk W (g + 1) 9 #[.string ⟨#[47]⟩]
  sv : Blk W (g + 2) 3 #[.int .i64 0]
  res : Blk W r 4 #[.bool false]
  off : Off [] w0 W
  sz : cur.size ≤ 400
structure SplX (l D r : Nat) (rc : LoopState → Option Code → Loop) (w0 : World) (W : World) : Prop where
  don : W.heap[l]? = some (.loop (rc .done (some .ret)))
  dfr : W.heap[D]? = some (.deferred (some []))
  res : Blk W r 4 #[.bool false]
  off : Off [] w0 W
def curLen (W : World) (g : Nat) : Nat := match W.cell? ⟨g, 0, none⟩ with | some (.string c) => c.size | _ => 0
theorem SplInv.set {l D g r : Nat} {rc : LoopState → Option Code → Loop} {w0 W : World} {cur : ByteArray} (h : SplInv l D g r rc w0 cur W) (hg : w0.heap.size ≤ g) (hr : r < g) (c : ByteArray) (hc : c.size ≤ 400) :
    SplInv l D g r rc w0 c (W.setCell ⟨g, 0, none⟩ (.string c)) := by
  have hne : ∀ k o, W.heap[k]? = some o → k ≠ g → (W.setCell ⟨g, 0, none⟩ (.string c)).heap[k]? = some o := fun k o ho hk => (Below.heap_setCell W ⟨g, 0, none⟩ _ k hk).trans ho
  have hl : l ≠ g := by
    rintro rfl; have h1 := h.rdy; have h2 := h.s; unfold Blk at h2; rw [h1] at h2; simp at h2
  have hD : D ≠ g := by
    rintro rfl; have h1 := h.dfr; have h2 := h.s; unfold Blk at h2; rw [h1] at h2; simp at h2
  exact ⟨hne _ _ h.rdy hl, hne _ _ h.dfr hD, by simpa using h.s.set_ 0 (.string c), h.sep.far (by simp) _, h.sv.far (by simp) _, h.res.far (by simp; omega) _, h.off.setCell (.inl hg) _, hc⟩
theorem parts_cut {s : Str} {i : Nat} (h1 : 47 ∉ s.take i) (h2 : s = s.take i ++ 47 :: s.drop (i + 1)) : parts s = s.take i :: parts (s.drop (i + 1)) := by
  have := parts_append (s.drop (i + 1)) (s.take i); rw [← h2, parts_clean _ h1] at this; exact this
attribute [local go_sem] Oper.semAt_some
set_option maxRecDepth 100000 in
set_option maxHeartbeats 4000000 in
theorem split_in (n l D g r : Nat) (rc : LoopState → Option Code → Loop) (w0 : World) (hg : w0.heap.size ≤ g) (hr : r < g)
    (hY : ∀ cur x W1, SplInv l D g r rc w0 cur W1 → x.size ≤ 400 → YieldAt Fence.wide n Tryz.prog l #[.string x] W1 fun e W' =>
      (okName (str x) = true ∧ e = .returned (.bool true) ∧ SplInv l D g r rc w0 cur W') ∨ (okName (str x) = false ∧ e = .returned (.bool false) ∧ SplX l D r rc w0 W'))
    (s : ByteArray) (W : World) (hI : SplInv l D g r rc w0 s W) :
    CallsIn Fence.wide (n + 1) Tryz.prog 321 #[.func (.yield l) #[] #[], .pointer (some ⟨g + 1, 0, none⟩), .pointer (some ⟨g, 0, none⟩), .pointer (some ⟨g + 2, 0, none⟩)] W fun e W' =>
      (∃ v, e = .returned v) ∧ (((parts (str s)).all okName = true ∧ ∃ cur, SplInv l D g r rc w0 cur W') ∨ ((parts (str s)).all okName = false ∧ SplX l D r rc w0 W')) := by
  have hro : Fence.wide.round = none := rfl
  refine callsIn_of_wp Tryz.func321 rfl trivial ?_ hro
  simp only [Tryz.ntmps321, List.size_toArray, List.length_cons, List.length_nil, Nat.reduceAdd, Nat.reduceSub, Array.replicate_succ, Array.replicate_zero, List.push_toArray, List.append_toArray, List.nil_append, List.cons_append]
  have hc1 := hI.sep.cell 0; have HI := Lib.hid hI; clear hI
  gi_wp2
  gi_loopw [] (fun wr => ∃ cur, SplInv l D g r rc w0 cur wr ∧ (parts (str s)).all okName = (parts (str cur)).all okName) (fun wr => curLen wr g)
  case atStart => exact ⟨s, HI.out, rfl⟩
  case round =>
    obtain ⟨cur, hI, hp⟩ := hrel; have HP := Lib.hid hp; clear hp hc1; have hc0 := hI.s.cell 0; have hc1 := hI.sep.cell 0; have hc2 := hI.sv.cell 0; have hsz := hI.sz; have hf0 := hI.s.frozen 0; have HJ := Lib.hid hI; clear hI
    rcases slash_cases cur with ⟨hi, hn⟩ | ⟨i, hi, hlt, hn, hcut⟩
    · have HN := Lib.hid hi
      clear hi; obtain ⟨fn, tmps, assign, body, hy, hR⟩ := hY cur cur wr HJ.out hsz
      gi_wp2
      refine ⟨trivial, (callsIn_wide.2 (index_any _ _)).mono ?_⟩
      rintro e w' ⟨rfl, e1⟩; subst e1; rw [HN.out]
      gi_wp2
      refine hR.mono ?_
      rintro e W3 (⟨ho, rfl, hJ3⟩ | ⟨ho, rfl, hX3⟩)
      · gi_wp2
        go_end0
        exact ⟨⟨_, rfl⟩, .inl ⟨by rw [HP.out, parts_clean _ hn]; simp [ho], cur, hJ3⟩⟩
      gi_wp2
      go_end0
      exact ⟨⟨_, rfl⟩, .inr ⟨by rw [HP.out, parts_clean _ hn]; simp [ho], hX3⟩⟩
    have HN := Lib.hid hi; have HC := Lib.hid hcut; clear hi hcut; have c1 : (0 : Int) ≤ ↑i := by omega
    have c2 : (↑i : Int) ≤ ↑cur.size := by omega
    have c3 : (0 : Int) ≤ ↑i + 1 := by omega
    have c4 : (↑i + 1 : Int) ≤ ↑cur.size := by omega
    obtain ⟨fn, tmps, assign, body, hy, hR⟩ := hY cur (cur.extract 0 i) wr HJ.out (by simp; omega)
    gi_wp2
    refine ⟨trivial, (callsIn_wide.2 (index_any _ _)).mono ?_⟩
    rintro e w' ⟨rfl, e1⟩; subst e1; rw [HN.out]
    gi_wp2
    refine hR.mono ?_
    rintro e W3 (⟨ho, rfl, hJ3⟩ | ⟨ho, rfl, hX3⟩)
    · have hd0 := hJ3.s.cell 0
      have hd1 := hJ3.sep.cell 0; have hf3 := hJ3.s.frozen 0; have hls := hJ3.s.lt; have HJ3 := Lib.hid hJ3; clear hJ3 hc0 hc1 hc2 hf0
      gi_wp2
      have e1 : str (cur.extract 0 i) = (str cur).take i := by rw [str_extract]; simp
      have e2 : str (cur.extract (i + 1) cur.size) = (str cur).drop (i + 1) := by
        rw [str_extract, ← str_size]; exact List.take_of_length_le (by simp)
      have hpc := parts_cut hn HC.out; have k1 := HJ3.out.set hg hr (cur.extract (i + 1) cur.size) (by simp; omega); have k2 : curLen (W3.setCell ⟨g, 0, none⟩ (.string (cur.extract (i + 1) cur.size))) g = (cur.extract (i + 1) cur.size).size := by
        have := k1.s.cell 0; simp only [curLen, this]; rfl
      have k3 : curLen wr g = cur.size := by
        have := HJ.out.s.cell 0; simp only [curLen, this]; rfl
      refine ⟨⟨_, k1, ?_⟩, ?_⟩
      · rw [HP.out, hpc, List.all_cons, ← e1, ho, e2]; rfl
      rw [k2, k3]; simp; omega
    gi_wp2
    have e1 : str (cur.extract 0 i) = (str cur).take i := by rw [str_extract]; simp
    have hpc := parts_cut hn HC.out; refine bodyPost_ret (results_none rfl _ _ _) rfl ?_; exact ⟨⟨_, rfl⟩, .inr ⟨by rw [HP.out, hpc, List.all_cons, ← e1, ho]; rfl, hX3⟩⟩
end
section
open Go.RowKit Go.Op
attribute [local go_sem] Oper.semAt_some
def roundOut (r : Nat) (x : ByteArray) (W : World) : Exit → Act → World → Prop
  | .normal, _, W' => okName (str x) = true ∧ Off [] W W'
  | .ret, _, W' => okName (str x) = false ∧ Off [r] W W' ∧ Blk W' r 4 #[.bool false]
  | .exit _, _, _ => False
  | .goto _, _, _ => False
  | .panic _, _, _ => False
  | .outgrown, _, _ => False
theorem wpIn_split {gop : Operand} {p : Tmp} {assign body : Code} {Q : Exit → Act → World → Prop} {a : Act} {w0 w1 : World} {g r : Nat} {s : ByteArray}
    (hgo : a.eval gop = .func (.func 321) #[] #[.pointer (some ⟨g + 1, 0, none⟩), .pointer (some ⟨g, 0, none⟩), .pointer (some ⟨g + 2, 0, none⟩)])
    (hr : r < g) (hr0 : w0.heap.size ≤ r) (B0 : Blk w1 g 9 #[.string s]) (B1 : Blk w1 (g + 1) 9 #[.string ⟨#[47]⟩]) (B2 : Blk w1 (g + 2) 3 #[.int .i64 0]) (BR : Blk w1 r 4 #[.bool false])
    (ho : Off [] w0 w1) (hsz : s.size ≤ 400)
    (a₁ : ByteArray → Act)
    (hassign : ∀ (l : Nat) (x : ByteArray) (W : World) (K : Act → World → Prop), K (a₁ x) W →
      assign.wpIn (Fence.wide.inRound l) 1 Tryz.prog (Exit.then K (fun _ _ _ => False)) { tmps := ((#[p] : Array Tmp).zip #[Value.string x]).foldl (fun t (p, v) => t.setIfInBounds p v) a.tmps, defers := [] } W)
    (hbody : ∀ (l : Nat) (x : ByteArray) (W : World), x.size ≤ 400 → Off [] w0 W → Blk W r 4 #[.bool false] → body.wpIn (Fence.wide.inRound l) 1 Tryz.prog (roundOut r x W) (a₁ x) W)
    (hdone : (parts (str s)).all okName = true → ∀ (D : Nat) (W : World), w0.heap.size ≤ D → Off [] w0 W → Blk W r 4 #[.bool false] → W.heap[D]? = some (.deferred (some [])) → Q .normal { a with defers := { target := .collected D, args := #[] } :: a.defers } W)
    (hstop : (parts (str s)).all okName = false → ∀ (D : Nat) (W : World), w0.heap.size ≤ D → Off [] w0 W → Blk W r 4 #[.bool false] → W.heap[D]? = some (.deferred (some [])) → Code.ret.wpIn Fence.wide 3 Tryz.prog Q { a with defers := { target := .collected D, args := #[] } :: a.defers } W) :
    (Code.rangeFunc gop #[p] assign body).wpIn Fence.wide 3 Tryz.prog Q a w1 := by
  refine wpIn_rangeFunc ?_
  intro fn hfn
  have hro : Fence.wide.round = none := rfl
  rw [hro]; obtain ⟨rc, hrc⟩ : ∃ rc : LoopState → Option Code → Loop, rc = fun st pe => { state := st, pending := pe, fn, tmps := a.tmps, params := #[p], assign, body, defers := w1.heap.size } := ⟨_, rfl⟩
  obtain ⟨W1, hW1⟩ : ∃ W1, (w1.alloc (.deferred (some []))).alloc (.loop (rc .ready none)) = W1 := ⟨_, rfl⟩
  have hL1 : W1.heap[w1.heap.size + 1]? = some (.loop (rc .ready none)) := by
    rw [← hW1]; have := World.alloc_heap_new (w1.alloc (.deferred (some []))) (.loop (rc .ready none)); rwa [World.size_alloc] at this
  have hK1 : W1.heap[w1.heap.size]? = some (.deferred (some [])) := by
    rw [← hW1]; exact (Below.heap_alloc _ _ _ (by simp)).trans (World.alloc_heap_new w1 _)
  have hI1 : SplInv (w1.heap.size + 1) w1.heap.size g r rc w0 s W1 := by
    refine ⟨hL1, hK1, ?_, ?_, ?_, ?_, ?_, hsz⟩ <;> rw [← hW1]
    · exact (B0.alloc _).alloc _
    · exact (B1.alloc _).alloc _
    · exact (B2.alloc _).alloc _
    · exact (BR.alloc _).alloc _
    exact (ho.alloc _).alloc _
  have hle : w0.heap.size ≤ w1.heap.size := ho.size
  have hgl := B0.lt; have hgl1 := B1.lt; have hgl2 := B2.lt; have hrl := BR.lt; refine ⟨w1.heap.size + 1, [{ target := .collected w1.heap.size, args := #[] }], W1, { target := .fn (.func 321) #[.pointer (some ⟨g + 1, 0, none⟩), .pointer (some ⟨g, 0, none⟩), .pointer (some ⟨g + 2, 0, none⟩)], args := #[.func (.yield (w1.heap.size + 1)) #[] #[]] }, W1, 321,
    #[.func (.yield (w1.heap.size + 1)) #[] #[]] ++ #[.pointer (some ⟨g + 1, 0, none⟩), .pointer (some ⟨g, 0, none⟩), .pointer (some ⟨g + 2, 0, none⟩)], W1, ?_, ?_, ?_, ?_, fun _ => by omega, ?_⟩
  · rw [← hW1, hrc]; exact run_enterLoop_outer _ _ _ _ _
  · simp only [resolve, hgo]
    simp [go_sem]
  · intro f' _; trivial
  · have eg : ∀ args w, (callFunc 321 args).run Tryz.prog w = .ok (.enter 321 args) w := enters_of Tryz.func321 (by kernel_rfl) rfl
    simp [invoke, go_sem, eg]
  refine (split_in 1 (w1.heap.size + 1) w1.heap.size g r rc w0 (by omega) hr ?_ s W1 hI1).mono ?_
  · -- one round
    intro cur x W hI hx
    have hlt : w1.heap.size + 1 < W.heap.size := (Array.getElem?_eq_some_iff.1 hI.rdy).1
    have hy := run_yield (P := Tryz.prog) (args := #[.string x]) hI.rdy (by rw [hrc]; rfl); rw [hrc] at hy; have hy2 : (Instr.yield (w1.heap.size + 1) #[.string x]).run Tryz.prog W = .ok (.round (w1.heap.size + 1) fn (((#[p] : Array Tmp).zip #[Value.string x]).foldl (fun t (p, v) => t.setIfInBounds p v) a.tmps) assign body) W := hy
    refine ⟨fn, _, assign, body, hy2, roundIn_of_wpIn hfn ?_⟩
    refine hassign _ x W (fun a₁ w₁ => ∃ w₂, (Instr.beginRound (w1.heap.size + 1)).run Tryz.prog w₁ = .ok () w₂ ∧ body.wpIn (Fence.wide.inRound (w1.heap.size + 1)) 1 Tryz.prog (roundPost Tryz.prog (w1.heap.size + 1) _) a₁ w₂) ?_
    refine ⟨_, run_beginRound hI.rdy (by rw [hrc]), ?_⟩
    obtain ⟨W2, hW2⟩ : ∃ W2, W.putObj (w1.heap.size + 1) (.loop { rc .ready none with state := .busy }) = W2 := ⟨_, rfl⟩
    rw [hW2]; have oth : ∀ k, k ≠ w1.heap.size + 1 → W2.heap[k]? = W.heap[k]? := fun k hk => by rw [← hW2]; exact World.putObj_heap_other hk
    have hl2 : W2.heap[w1.heap.size + 1]? = some (.loop { rc .ready none with state := .busy }) := by rw [← hW2]; exact World.putObj_heap_same hlt
    have hz2 : W2.heap.size = W.heap.size := by rw [← hW2]; simp [World.putObj]
    have ho2 : Off [] w0 W2 := hI.off.grown (by rw [← hW2]; exact grownBy_putObj' W _ _) (fun k e => by cases e; exact .inl (by omega))
    have hr2 : Blk W2 r 4 #[.bool false] := (oth r (by omega)).trans hI.res
    refine wpIn_mono (hbody _ x W2 hx ho2 hr2) ?_
    rintro e a3 W3 hp
    cases e with
    | normal =>
      obtain ⟨hok, h3⟩ := hp; have keep : ∀ k o, W2.heap[k]? = some o → W3.heap[k]? = some o := fun k o hk => (h3.block k (Array.getElem?_eq_some_iff.1 hk).1 (by simp)).trans hk
      have hl3 := keep _ _ hl2; have he := run_endRound (P := Tryz.prog) none hl3; refine ⟨_, _, he, .inl ⟨hok, rfl, ?_⟩⟩; have ot4 : ∀ k, k ≠ w1.heap.size + 1 → ∀ o, W.heap[k]? = some o → (W3.putObj (w1.heap.size + 1) (.loop { { rc .ready none with state := .busy } with state := if (none : Option Code).isNone then .ready else .done, pending := none })).heap[k]? = some o :=
        fun k hk o hko => (World.putObj_heap_other hk).trans (keep _ _ ((oth k hk).trans hko))
      refine ⟨?_, ot4 _ (by omega) _ hI.dfr, ot4 _ (by omega) _ hI.s, ot4 _ (by omega) _ hI.sep, ot4 _ (by omega) _ hI.sv, ot4 _ (by omega) _ hI.res, ?_, hI.sz⟩
      · rw [World.putObj_heap_same (Array.getElem?_eq_some_iff.1 hl3).1, hrc]; rfl
      exact (ho2.trans_nil h3).grown (grownBy_putObj' _ _ _) (fun k e => by cases e; exact .inl (by omega))
    | ret =>
      obtain ⟨hok, h3, hb3⟩ := hp; have keep : ∀ k o, k ≠ r → W2.heap[k]? = some o → W3.heap[k]? = some o := fun k o hkr hk => (h3.block k (Array.getElem?_eq_some_iff.1 hk).1 (by simpa using hkr)).trans hk
      have hl3 := keep _ _ (by omega) hl2; have he := run_endRound (P := Tryz.prog) (some .ret) hl3; refine ⟨_, _, he, .inr ⟨hok, rfl, ?_⟩⟩
      have ot4 : ∀ k, k ≠ w1.heap.size + 1 → k ≠ r → ∀ o, W.heap[k]? = some o → (W3.putObj (w1.heap.size + 1) (.loop { { rc .ready none with state := .busy } with state := if (some Code.ret).isNone then .ready else .done, pending := some .ret })).heap[k]? = some o :=
        fun k hk hkr o hko => (World.putObj_heap_other hk).trans (keep _ _ hkr ((oth k hk).trans hko))
      refine ⟨?_, ot4 _ (by omega) (by omega) _ hI.dfr, (World.putObj_heap_other (by omega)).trans hb3, ?_⟩
      · rw [World.putObj_heap_same (Array.getElem?_eq_some_iff.1 hl3).1, hrc]; rfl
      exact (ho2.trans h3 (by simp; omega)).grown (grownBy_putObj' _ _ _) (fun k e => by cases e; exact .inl (by omega))
    | exit id => exact hp.elim
    | goto t => exact hp.elim
    | panic ch => exact hp.elim
    | outgrown => exact hp.elim
  rintro e W2 ⟨⟨v, rfl⟩, (⟨hall, cur, hI⟩ | ⟨hall, hX⟩)⟩
  · have hend := run_endLoop (P := Tryz.prog) hI.rdy (by rw [hrc]; simp)
    refine ⟨_, _, hend, ?_⟩
    rw [hrc]; exact hdone hall w1.heap.size _ hle (hI.off.grown (grownBy_putObj' _ _ _) (fun k e => by cases e; exact .inl (by omega))) ((World.putObj_heap_other (by omega)).trans hI.res) ((World.putObj_heap_other (by omega)).trans hI.dfr)
  have hend := run_endLoop (P := Tryz.prog) hX.don (by rw [hrc]; simp); refine ⟨_, _, hend, ?_⟩; rw [hrc]; exact hstop hall w1.heap.size _ hle (hX.off.grown (grownBy_putObj' _ _ _) (fun k e => by cases e; exact .inl (by omega))) ((World.putObj_heap_other (by omega)).trans hX.res) ((World.putObj_heap_other (by omega)).trans hX.dfr)
theorem count_any (s : ByteArray) (w : World) : Calls Tryz.prog 170 #[.string s, .string ⟨#[47]⟩] w fun e w' => e = .returned (.int .i64 ((str s).count 47 : Nat)) ∧ w = w' :=
  (Tryz.strings_Count_one s 47 w).mono fun _ _ ⟨a, b⟩ => ⟨a, b.symm⟩
theorem okPath_eq (s : ByteArray) : okPath (str s) = (decide (s.size ≤ 400) && decide ((str s).count 47 < 16) && (parts (str s)).all okName) := by
  unfold okPath; rw [str_size]
set_option maxRecDepth 100000 in
set_option maxHeartbeats 4000000 in
theorem path_any (s : ByteArray) (w : World) (hT : Tabs w) :
    Calls Tryz.prog 93 #[.string s] w fun e w' => e = .returned (.bool (okPath (str s))) ∧ Off [] w w' := by
  have hk := Lib.hid (okPath_eq s); refine callsIn_wide (n := 3).1 ?_; refine callsIn_of_wp_marks Tryz.func93 rfl trivial ?_ rfl; simp only [Tryz.ntmps93, List.size_toArray, List.length_cons, List.length_nil, Nat.reduceAdd, Nat.reduceSub, Array.replicate_succ, Array.replicate_zero, List.push_toArray, List.append_toArray, List.nil_append, List.cons_append]
  by_cases h1 : s.size ≤ 400
  · gi_wp2
    refine ⟨trivial, (callsIn_wide.2 (count_any s _)).mono ?_⟩
    rintro e w' ⟨rfl, e1⟩; subst e1
    by_cases h2 : (str s).count 47 < 16
    · generalize hcn : (str s).count 47 = cn at *
      have HC := Lib.hid hcn; clear hcn
      gi_wp2
      refine ⟨trivial, (callsIn_wide.2 (splitSeq_any s _)).mono ?_⟩
      rintro e w1 ⟨g, rfl, hg, B0, B1, B2, ho⟩
      gi_wp2
      have BR : Blk w1 w.heap.size 4 #[.bool false] := (Blk.new w 4 #[.bool false]).off ho (by simp)
      have how : Off [] w w1 := ((Off.refl _ _).alloc _).trans_nil ho
      have hgw : w.heap.size < g := by rw [World.size_alloc] at hg; omega
      clear ho hg; refine wpIn_split (g := g) (r := w.heap.size) (w0 := w) (s := s) rfl hgw (Nat.le_refl _) B0 B1 B2 BR how h1
        (fun x => { tmps := #[.string s, undef, .pointer (some ⟨w.heap.size, 0, none⟩), .string x, .string s, .int .i64 s.size, .bool (decide (400 < (s.size : Int))), .bool (decide (400 < (s.size : Int))), .string s, .int .i64 cn, .bool (decide (16 ≤ (cn : Int))), .bool (decide (400 < (s.size : Int)) || decide (16 ≤ (cn : Int))), .string s, .func (.func 321) #[] #[.pointer (some ⟨g + 1, 0, none⟩), .pointer (some ⟨g, 0, none⟩), .pointer (some ⟨g + 2, 0, none⟩)], .string x, undef, undef, undef], defers := [] }) ?assign ?body ?done ?stop
      case assign =>
        intro l x W K hK
        gi_wp2
        exact hK
      case body =>
        intro l x W hx ho hb
        have hcell := hb.cell 0; have hfr := hb.frozen 0; have hbl := hb.lt
        cases hv : okName (str x)
        · have HV := Lib.hid hv
          clear hv
          gi_wp2
          refine ⟨trivial, (CallsIn.inRound l (callsIn_wide.2 (name_any x W (by unfold maxLen; omega) (hT.off ho)))).mono ?_⟩
          rintro e w2 ⟨rfl, ho2⟩; rw [HV.out]; have hb2 := hb.off ho2 (by simp); have hcell2 := hb2.cell 0; have hfr2 := hb2.frozen 0
          gi_wp2
          exact ⟨HV.out, (ho2.mono (fun _ _ h => by cases h)).setCell (.inr (by simp)) _, by simpa using hb2.set_ 0 (.bool false)⟩
        have HV := Lib.hid hv; clear hv
        gi_wp2
        refine ⟨trivial, (CallsIn.inRound l (callsIn_wide.2 (name_any x W (by unfold maxLen; omega) (hT.off ho)))).mono ?_⟩
        rintro e w2 ⟨rfl, ho2⟩; rw [HV.out]
        gi_wp2
        exact ⟨HV.out, ho2⟩
      case done =>
        intro hall D W hD ho hb hK
        have hcell := hb.cell 0; have hfr := hb.frozen 0; have hbl := hb.lt
        gi_wp2
        have hne : D ≠ w.heap.size := by
          rintro rfl; unfold Blk at hb; rw [hb] at hK; simp at hK
        have hb' : Blk (W.setCell ⟨w.heap.size, 0, none⟩ (.bool true)) w.heap.size 4 #[.bool true] := by simpa using hb.set_ 0 (.bool true)
        have hK' := (Below.heap_setCell W ⟨w.heap.size, 0, none⟩ (.bool true) D hne).trans hK; have hb2 : Blk ((W.setCell ⟨w.heap.size, 0, none⟩ (.bool true)).putObj D (.deferred none)) w.heap.size 4 #[.bool true] := (World.putObj_heap_other (Ne.symm hne)).trans hb'
        have hcl := hb2.cell 0; refine ⟨by simp, .inl ⟨_, _, rfl, run_takeDeferred hK', .bool true, by simp [results, Tryz.f93, go_sem, hcl], ?_⟩⟩; exact ⟨by rw [hk.out, hall]; simp [h1, h2], (ho.setCell (.inl (Nat.le_refl _)) _).grown (grownBy_putObj' _ _ _) (fun k e => by cases e; exact .inl hD)⟩
      case stop =>
        intro hall D W hD ho hb hK
        have hcell := hb.cell 0
        gi_wp2
        have hne : D ≠ w.heap.size := by
          rintro rfl; unfold Blk at hb; rw [hb] at hK; simp at hK
        have hb2 : Blk (W.putObj D (.deferred none)) w.heap.size 4 #[.bool false] := (World.putObj_heap_other (Ne.symm hne)).trans hb
        have hcl := hb2.cell 0; refine ⟨by simp, .inl ⟨_, _, rfl, run_takeDeferred hK, .bool false, by simp [results, Tryz.f93, go_sem, hcl], ?_⟩⟩; exact ⟨by rw [hk.out, hall]; simp, ho.grown (grownBy_putObj' _ _ _) (fun k e => by cases e; exact .inl hD)⟩
    generalize hcn : (str s).count 47 = cn at *
    have HC := Lib.hid hcn; clear hcn; have hcl := (Blk.new w 4 #[.bool false]).cell 0
    gi_wp2
    refine ⟨.bool false, by simp [results, Tryz.f93, go_sem, hcl], ?_⟩
    exact ⟨by rw [hk.out]; simp [h2], (Off.refl _ _).alloc _⟩
  have hcl := (Blk.new w 4 #[.bool false]).cell 0
  gi_wp2
  refine ⟨trivial, ?_⟩
  gi_wp2
  refine ⟨.bool false, by simp [results, Tryz.f93, go_sem, hcl], ?_⟩
  exact ⟨by rw [hk.out]; simp [h1], (Off.refl _ _).alloc _⟩
end
section
open Go.RowKit Go.Op
def lenOf : Value → Nat
  | .string s => s.size
  | _ => 0
def headOf (s : ByteArray) : ByteArray := match Lib.indexByte (str s) 47 with | .ofNat i => s.extract 0 i | _ => s
def restOf (s : ByteArray) : ByteArray := match Lib.indexByte (str s) 47 with | .ofNat i => s.extract (i + 1) s.size | _ => ⟨#[]⟩
def moreOf (s : ByteArray) : Bool := match Lib.indexByte (str s) 47 with | .ofNat _ => true | _ => false
theorem cut_any (s : ByteArray) (w : World) (hs : s.size ≤ maxLen) :
    Calls Tryz.prog 217 #[.string s, .string ⟨#[47]⟩] w fun e w' => e = .returned (.tuple #[.string (headOf s), .string (restOf s), .bool (moreOf s)]) ∧ Off [] w w' := by
  rcases slash_cases s with ⟨h, _⟩ | ⟨i, h, hi, _, _⟩
  · refine (cut_none s w h).mono fun e w' ⟨he, hw⟩ => ⟨?_, hw ▸ Off.refl _ _⟩
    rw [he, headOf, restOf, moreOf, h]
    rfl
  refine (cut_some s i w h hi hs).mono fun e w' ⟨he, n, hw⟩ => ⟨?_, hw ▸ (Off.refl _ _).drewN n⟩
  rw [he, headOf, restOf, moreOf, h]
theorem cut_parts (s : ByteArray) : (moreOf s = false ∧ parts (str s) = [str (headOf s)] ∧ headOf s = s) ∨ (moreOf s = true ∧ parts (str s) = str (headOf s) :: parts (str (restOf s)) ∧ (restOf s).size < s.size) := by
  rcases slash_cases s with ⟨h, hn⟩ | ⟨i, h, hi, hn, hc⟩
  · left
    have e : headOf s = s := by rw [headOf, h]; rfl
    exact ⟨by rw [moreOf, h]; rfl, by rw [e, parts_clean _ hn], e⟩
  right
  have e1 : headOf s = s.extract 0 i := by rw [headOf, h]
  have e2 : restOf s = s.extract (i + 1) s.size := by rw [restOf, h]
  refine ⟨by rw [moreOf, h], ?_, by rw [e2]; simp; omega⟩
  rw [e1, e2, parts_cut hn hc, str_extract, str_extract]; have k : (str s).drop (i + 1) = ((str s).drop (i + 1)).take (s.size - (i + 1)) := (List.take_of_length_le (by simp [str_size])).symm
  rw [← k]; simp
set_option maxRecDepth 100000 in
set_option maxHeartbeats 4000000 in
theorem order_any (a b : ByteArray) (w : World) (ha : a.size ≤ maxLen) (hb : b.size ≤ maxLen) :
    Calls Tryz.prog 141 #[.string a, .string b] w fun e w' => e = .returned (.int .i64 (order (str a) (str b))) ∧ Off [] w w' := by
  go_enter Tryz.func141, Tryz.ntmps141
  go_wp2_with fail
  go_loopw [0, 1] (fun x y wr => ∃ a' b' : ByteArray, x = .string a' ∧ y = .string b' ∧ a'.size ≤ maxLen ∧ b'.size ≤ maxLen ∧ Off [] w wr ∧ order (str a) (str b) = order (str a') (str b')) (fun x _ _ => lenOf x)
  case atStart => exact ⟨a, b, rfl, rfl, ha, hb, Off.refl _ _, rfl⟩
  case round =>
    obtain ⟨a', b', rfl, rfl, ha', hb', ho, hord⟩ := hrel; have HO := Lib.hid hord; clear hord
    by_cases hab : a' = b'
    · subst hab
      go_wp2_with fail
      go_ret
      exact ⟨by rw [HO.out, order_self]; rfl, ho⟩
    have hne : (a'.toList == b'.toList) = false := by
      rw [toList_str, toList_str]; exact beq_eq_false_iff_ne.2 (fun e => hab (str_inj e))
    have HS := Lib.hid (fun e : str a' = str b' => hab (str_inj e)); have hca := cut_parts a'; have hcb := cut_parts b'; have HA := Lib.hid hca; have HB := Lib.hid hcb; clear hca hcb hab
    go_wp2_with fail
    refine (cut_any a' _ ha').mono ?_
    rintro e w1 ⟨rfl, ho1⟩
    go_wp2_with fail
    refine (cut_any b' _ hb').mono ?_
    rintro e w2 ⟨rfl, ho2⟩
    go_wp2_with fail
    refine (cmp_any _ _ _).mono ?_
    rintro e w3 ⟨rfl, e3⟩; subst e3; have hoff := (ho.trans_nil ho1).trans_nil ho2; clear ho ho1 ho2; have hunf : order (str a') (str b') = cmpN (parts (str a')) (parts (str b')) := rfl
    have HU := Lib.hid hunf; clear hunf
    by_cases hc : Lib.compareBytes (str (headOf a')) (str (headOf b')) = 0
    · rw [hc]
      have HC := Lib.hid hc; clear hc
      rcases HA.out with ⟨m1, p1, q1⟩ | ⟨m1, p1, q1⟩
      · rcases HB.out with ⟨m2, p2, q2⟩ | ⟨m2, p2, q2⟩
        · exact absurd (cmpB_eq (q1 ▸ q2 ▸ HC.out)) (fun e => HS.out e)
        have P1 := Lib.hid p1; have P2 := Lib.hid p2; clear p1 p2 m2 q1
        go_wp2_with fail
        go_ret
        refine ⟨?_, hoff⟩
        rw [HO.out, HU.out, P1.out, P2.out, cmpN, if_pos HC.out]; have := parts_ne (str (restOf b'))
        cases hh : parts (str (restOf b')) with
        | nil => exact absurd hh this
        | cons _ _ => rfl
      rcases HB.out with ⟨m2, p2, q2⟩ | ⟨m2, p2, q2⟩
      · have P1 := Lib.hid p1
        have P2 := Lib.hid p2; clear p1 p2 q2
        go_wp2_with fail
        go_ret
        refine ⟨?_, hoff⟩
        rw [HO.out, HU.out, P1.out, P2.out, cmpN, if_pos HC.out]; have := parts_ne (str (restOf a'))
        cases hh : parts (str (restOf a')) with
        | nil => exact absurd hh this
        | cons _ _ => rfl
      have P1 := Lib.hid p1; have P2 := Lib.hid p2; clear p1 p2
      go_wp2_with fail
      refine ⟨⟨restOf a', restOf b', rfl, rfl, by omega, by omega, hoff, ?_⟩, ?_⟩
      · rw [HO.out, HU.out, P1.out, P2.out, cmpN, if_pos HC.out]; rfl
      simp only [lenOf]; omega
    have hv : order (str a') (str b') = Lib.compareBytes (str (headOf a')) (str (headOf b')) := by
      rw [HU.out]
      rcases HA.out with ⟨m1, p1, q1⟩ | ⟨m1, p1, q1⟩ <;> rcases HB.out with ⟨m2, p2, q2⟩ | ⟨m2, p2, q2⟩ <;> rw [p1, p2, cmpN, if_neg hc]
    have HV := Lib.hid hv; clear hv; generalize Lib.compareBytes (str (headOf a')) (str (headOf b')) = c at *; have hc0 : (c == 0) = false := beq_eq_false_iff_ne.2 hc
    go_wp2_with fail
    go_ret
    exact ⟨by rw [HO.out, HV.out]; rfl, hoff⟩
end
end Go.Proofs.YthciejabapdbgaaGreatDoor
