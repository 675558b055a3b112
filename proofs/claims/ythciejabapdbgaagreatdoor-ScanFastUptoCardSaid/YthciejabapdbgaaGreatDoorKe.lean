/- Texts of this claim, one behind the other: Disk DiskN DiskI DiskM DAt DFirst Big DMake DChange DChg DLay DLay2 DCrash DFind. Conditions: what each lemma states. -/
import Derived.Test.YthciejabapdbgaaGreatDoorKb
import Derived.Maps.OwnSet
import Derived.Maps.OwnOps
import Derived.Maps.RangeWalk
import Derived.StringKeys
import Derived.Shelf.SlMaps.Clone
import Derived.Deep.AppendLies
import Derived.Shelf.Abstract
import Derived.Deep.RegionLaw
import Derived.Deep.RegionHeld3
import Derived.ArgAppend
import Derived.BigRegion
set_option linter.unusedVariables false
set_option linter.unusedSimpArgs false
namespace Go.Proofs.YthciejabapdbgaaGreatDoor
section
structure Ino where
  node : Node
  time : Int
  dirty : Bool
structure FateP where
  at_ : Int
  what : Int
  keep : Int
  torn : Int
structure EditP where
  at_ : Int
  path : ByteArray
  value : List Node
structure DidP where
  call : ByteArray
  path : ByteArray
  dest : ByteArray
abbrev NameL := List (ByteArray × Nat)
structure PDisk where
  names : NameL
  safe : NameL
  later : List NameL
  inos : List Ino
  off : Bool
  clock : Nat
  trace : List DidP
  fates : List FateP
  edits : List EditP
  ev : Value
def lookN : NameL → ByteArray → Nat
  | [], _ => 0
  | x :: l, p => if x.1 = p then x.2 else lookN l p
def hasN : NameL → ByteArray → Bool
  | [], _ => false
  | x :: l, p => decide (x.1 = p) || hasN l p
def delN (l : NameL) (p : ByteArray) : NameL := l.filter fun x => !decide (x.1 = p)
def putN (l : NameL) (p : ByteArray) (i : Nat) : NameL := if hasN l p then l.map fun x => if x.1 = p then (p, i) else x else l ++ [(p, i)]
def Apart (l : NameL) : Prop := l.Pairwise fun x y => x.1 ≠ y.1
namespace PDisk
def inode (D : PDisk) (i : Nat) : Option Ino := if i = 0 then none else D.inos[i - 1]?
def at_ (D : PDisk) (p : ByteArray) : Option Ino := D.inode (lookN D.names p)
def dir (D : PDisk) (p : ByteArray) : Bool := decide (p = ⟨#[]⟩) || match D.at_ p with | none => false | some n => decide (n.node.kind = 2)
def make (D : PDisk) (n : Node) (time : Int) (dirty : Bool) : PDisk := { D with inos := D.inos ++ [⟨n, time, dirty⟩] }
def change (D : PDisk) (l : NameL) : PDisk := { D with names := l, later := D.later ++ [l] }
def tear (torn : Int) (n : Ino) : Ino :=
  if n.dirty then { n with node := { n.node with data := n.node.data.extract 0 (min torn.toNat n.node.data.size) }, dirty := false } else n
def crash (D : PDisk) (f : FateP) : PDisk :=
  let l := match D.later[(min f.keep D.later.length).toNat - 1]? with
    | some l => if 0 < min f.keep D.later.length then l else D.safe
    | none => D.safe
  { D with names := l, safe := l, later := [], off := true, inos := D.inos.map (tear f.torn) }
def step (D : PDisk) (call p q : ByteArray) : Bool × Int × PDisk :=
  if D.off then (false, 75, D) else
    let E := { D with clock := D.clock + 1, trace := D.trace ++ [⟨call, p, q⟩] }
    match D.fates.find? fun f => decide (f.at_ = (D.trace.length : Int)) with
    | none => (false, 0, E)
    | some f => if f.what = 3 then (false, 75, E.crash f) else if f.what = 1 then (false, 70, E) else (decide (f.what = 2), 0, E)
end PDisk
def firstE : List (Bool × Int) → Int
  | [] => 0
  | x :: l => if x.1 then x.2 else firstE l
namespace PDisk
def no (p : ByteArray) : Bool × Int := (!okPath (str p), 11)
def parentE (D : PDisk) (p : ByteArray) : Bool × Int := (!D.dir (bs (parent (str p))), 62)
def there (D : PDisk) (p : ByteArray) : Bool × Int := ((D.at_ p).isSome, 72)
def gone (D : PDisk) (p : ByteArray) : Bool × Int := ((D.at_ p).isNone, 74)
def lay (D : PDisk) (p : ByteArray) (n : Node) (full : Bool) (l : List (Bool × Int)) : Int × PDisk :=
  let e := firstE (l ++ [(full || decide (1000 ≤ D.names.length), 71)])
  if e ≠ 0 then (e, D) else (0, (D.make n D.clock (decide (n.kind = 1))).change (putN D.names p (D.inos.length + 1)))
def write_ (D : PDisk) (full : Bool) (p data : ByteArray) (mode : Int) : Int × PDisk :=
  let n : Node := ⟨⟨#[]⟩, 1, data, mode⟩
  let l := [no p, (decide (65536 < data.size) || decide (mode < 0) || decide (511 < mode), 2), D.parentE p, (match D.at_ p with | none => false | some o => !decide (o.node.kind = 1), 73)]
  match D.at_ p with
  | none => D.lay p n full l
  | some _ =>
    let e := firstE (l ++ [(full, 71)])
    if e ≠ 0 then (e, D) else (0, { D with inos := D.inos.set (lookN D.names p - 1) ⟨n, D.clock, true⟩ })
def sync_ (D : PDisk) (p : ByteArray) : Int × PDisk :=
  let e := firstE [no p, D.gone p]
  if e ≠ 0 then (e, D) else (0, match D.at_ p with | none => D | some n => { D with inos := D.inos.set (lookN D.names p - 1) { n with dirty := false } })
def replace_ (D : PDisk) (p q : ByteArray) : Int × PDisk :=
  let e := firstE [no p, no q, (decide (p = q), 2), D.gone p, (D.dir p || D.dir q, 73), D.parentE q]
  if e ≠ 0 then (e, D) else (0, D.change (delN (putN D.names q (lookN D.names p)) p))
def flush_ (D : PDisk) : PDisk := { D with safe := D.names, later := [] }
def boot (D : PDisk) (fates : List FateP) : PDisk := { D with off := false, trace := [], fates := fates, edits := [], ev := .slice none 0 0 }
def bootE (D : PDisk) (fates : List FateP) (edits : List EditP) (ev : Value) : PDisk := { D with off := false, trace := [], fates := fates, edits := edits, ev := ev }
def call (D : PDisk) (nm p q : ByteArray) (k : PDisk → Bool → Int × PDisk) : Int × PDisk :=
  match D.step nm p q with
  | (full, e, E) => if e ≠ 0 then (e, E) else k E full
def write (D : PDisk) (p data : ByteArray) (mode : Int) : Int × PDisk := D.call ⟨#[87, 114, 105, 116, 101]⟩ p ⟨#[]⟩ fun E full => E.write_ full p data mode
def sync (D : PDisk) (p : ByteArray) : Int × PDisk := D.call ⟨#[83, 121, 110, 99]⟩ p ⟨#[]⟩ fun E _ => E.sync_ p
def replace (D : PDisk) (p q : ByteArray) : Int × PDisk := D.call ⟨#[82, 101, 112, 108, 97, 99, 101]⟩ p q fun E _ => E.replace_ p q
def get_ (D : PDisk) (p : ByteArray) : Int × Node × Int × Int × Int :=
  if p = ⟨#[]⟩ then (0, ⟨⟨#[]⟩, 2, ⟨#[]⟩, 0⟩, 0, 0, 0) else
    let e := firstE [no p, D.gone p]
    if e ≠ 0 then (e, ⟨⟨#[]⟩, 0, ⟨#[]⟩, 0⟩, 0, 0, 0) else
      match D.at_ p with
      | none => (0, ⟨⟨#[]⟩, 0, ⟨#[]⟩, 0⟩, 0, 0, 0)
      | some n => (0, { n.node with path := p }, lookN D.names p, n.node.data.size, n.time)
def get (D : PDisk) (p : ByteArray) : (Int × Node × Int × Int × Int) × PDisk :=
  match D.step ⟨#[71, 101, 116]⟩ p ⟨#[]⟩ with
  | (_, e, E) => if e ≠ 0 then ((e, ⟨⟨#[]⟩, 0, ⟨#[]⟩, 0⟩, 0, 0, 0), E) else (E.get_ p, E)
def sortN (l : NameL) : NameL := l.mergeSort fun x y => !decide (order (str y.1) (str x.1) < 0)
def tree (D : PDisk) : List Node := (sortN D.names).filterMap fun x => (D.inode x.2).map fun n => { n.node with path := x.1 }
def flush (D : PDisk) : Int × PDisk := D.call ⟨#[70, 108, 117, 115, 104]⟩ ⟨#[]⟩ ⟨#[]⟩ fun E _ => (0, E.flush_)
end PDisk
end
section
open Go.RowKit Go.Maps
theorem lookN_of_not {l : NameL} {p : ByteArray} (h : hasN l p = false) : lookN l p = 0 := by
  induction l with
  | nil => rfl
  | cons x l ih =>
    simp only [hasN, Bool.or_eq_false_iff, decide_eq_false_iff_not] at h
    simp only [lookN, if_neg h.1, ih h.2]
theorem hasN_append (l m : NameL) (p : ByteArray) : hasN (l ++ m) p = (hasN l p || hasN m p) := by
  induction l with
  | nil => simp [hasN]
  | cons x l ih => simp [hasN, ih, Bool.or_assoc]
theorem lookN_append (l m : NameL) (p : ByteArray) : lookN (l ++ m) p = if hasN l p then lookN l p else lookN m p := by
  induction l with
  | nil => simp [hasN]
  | cons x l ih =>
    by_cases h : x.1 = p <;> simp [hasN, lookN, h, ih]
theorem hasN_map (l : NameL) (p q : ByteArray) (i : Nat) : hasN (l.map fun x => if x.1 = p then (p, i) else x) q = hasN l q := by
  induction l with
  | nil => rfl
  | cons x l ih =>
    simp only [List.map_cons, hasN, ih]
    by_cases h : x.1 = p
    · simp [h]
    simp [h]
theorem lookN_map_same (l : NameL) (p : ByteArray) (i : Nat) (h : hasN l p = true) : lookN (l.map fun x => if x.1 = p then (p, i) else x) p = i := by
  induction l with
  | nil => simp [hasN] at h
  | cons x l ih =>
    simp only [List.map_cons, lookN]
    by_cases hx : x.1 = p
    · simp [hx]
    simp only [hx, if_false]
    simp only [hasN, hx, decide_false, Bool.false_or] at h
    exact ih h
theorem lookN_map_other (l : NameL) (p q : ByteArray) (i : Nat) (h : q ≠ p) : lookN (l.map fun x => if x.1 = p then (p, i) else x) q = lookN l q := by
  induction l with
  | nil => rfl
  | cons x l ih =>
    simp only [List.map_cons, lookN, ih]
    by_cases hx : x.1 = p
    · rw [if_pos hx, hx, if_neg (Ne.symm h), if_neg (Ne.symm h)]
    rw [if_neg hx]
theorem hasN_putN (l : NameL) (p q : ByteArray) (i : Nat) : hasN (putN l p i) q = (hasN l q || decide (p = q)) := by
  unfold putN
  split
  · rename_i h
    rw [hasN_map]
    by_cases hq : p = q
    · subst hq; simp [h]
    simp [hq]
  rw [hasN_append]; simp [hasN]
theorem lookN_putN (l : NameL) (p q : ByteArray) (i : Nat) : lookN (putN l p i) q = if p = q then i else lookN l q := by
  unfold putN
  split
  · rename_i h
    by_cases hq : p = q
    · subst hq; rw [if_pos rfl, lookN_map_same _ _ _ h]
    rw [if_neg hq, lookN_map_other _ _ _ _ (Ne.symm hq)]
  rename_i h
  rw [lookN_append]
  by_cases hq : p = q
  · subst hq; simp [h, lookN]
  simp only [lookN, if_neg hq]
  split
  · rfl
  rename_i h2; rw [lookN_of_not (by simpa using h2)]
theorem length_putN (l : NameL) (p : ByteArray) (i : Nat) : (putN l p i).length = if hasN l p then l.length else l.length + 1 := by
  unfold putN; split <;> simp
theorem hasN_delN (l : NameL) (p q : ByteArray) : hasN (delN l p) q = (hasN l q && !decide (p = q)) := by
  induction l with
  | nil => rfl
  | cons x l ih =>
    unfold delN at ih ⊢
    by_cases hx : x.1 = p
    · rw [List.filter_cons_of_neg (by simp [hx]), ih]
      by_cases hq : p = q
      · simp [hq]
      simp [hasN, hx, hq]
    rw [List.filter_cons_of_pos (by simp [hx])]; simp only [hasN, ih]
    by_cases hq : p = q
    · subst hq; simp [hx]
    simp [hq]
theorem lookN_delN (l : NameL) (p q : ByteArray) : lookN (delN l p) q = if p = q then 0 else lookN l q := by
  induction l with
  | nil => simp [delN, lookN]
  | cons x l ih =>
    unfold delN at ih ⊢
    by_cases hx : x.1 = p
    · rw [List.filter_cons_of_neg (by simp [hx]), ih]
      by_cases hq : p = q
      · simp [hq]
      simp [hq, lookN, hx]
    rw [List.filter_cons_of_pos (by simp [hx])]; simp only [lookN, ih]
    by_cases hq : p = q
    · subst hq; simp [hx]
    simp [hq]
theorem hasN_iff (l : NameL) (p : ByteArray) : hasN l p = true ↔ ∃ x ∈ l, x.1 = p := by
  induction l with
  | nil => simp [hasN]
  | cons x l ih => simp [hasN, ih]
theorem delN_of_not {l : NameL} {p : ByteArray} (h : hasN l p = false) : delN l p = l := by
  unfold delN; rw [List.filter_eq_self]
  intro x hx
  have : ¬ ∃ x ∈ l, x.1 = p := fun hh => by rw [(hasN_iff l p).2 hh] at h; cases h
  simpa using fun e => this ⟨x, hx, e⟩
theorem length_delN {l : NameL} (hl : Apart l) (p : ByteArray) : (delN l p).length + (if hasN l p then 1 else 0) = l.length := by
  induction l with
  | nil => rfl
  | cons x l ih =>
    obtain ⟨h1, h2⟩ := List.pairwise_cons.1 hl
    by_cases hx : x.1 = p
    · have hn : hasN l p = false := by
        cases hh : hasN l p
        · rfl
        obtain ⟨y, hy, e⟩ := (hasN_iff l p).1 hh; exact absurd (hx.trans e.symm) (h1 y hy)
      have : delN (x :: l) p = delN l p := by unfold delN; rw [List.filter_cons_of_neg (by simp [hx])]
      rw [this, delN_of_not hn]; simp [hasN, hx]
    have : delN (x :: l) p = x :: delN l p := by unfold delN; rw [List.filter_cons_of_pos (by simp [hx])]
    rw [this]; have := ih h2; simp only [hasN, hx, decide_false, Bool.false_or, List.length_cons]; omega
theorem Apart.del {l : NameL} (h : Apart l) (p : ByteArray) : Apart (delN l p) := List.Pairwise.filter _ h
theorem map_fst (l : NameL) (p : ByteArray) (i : Nat) : (l.map fun x => if x.1 = p then (p, i) else x).map (·.1) = l.map (·.1) := by
  rw [List.map_map]; refine List.map_congr_left fun x _ => ?_
  simp only [Function.comp]
  split
  · rename_i h; exact h.symm
  rfl
theorem apart_iff (l : NameL) : Apart l ↔ (l.map (·.1)).Nodup := by
  unfold Apart List.Nodup; rw [List.pairwise_map]
theorem Apart.put {l : NameL} (h : Apart l) (p : ByteArray) (i : Nat) : Apart (putN l p i) := by
  unfold putN
  split
  · rw [apart_iff] at h ⊢
    rw [map_fst]; exact h
  rename_i hn
  unfold Apart; rw [List.pairwise_append]; refine ⟨h, by simp, fun a ha b hb => ?_⟩; rw [List.mem_singleton] at hb; subst hb
  intro e
  exact hn ((hasN_iff l p).2 ⟨a, ha, e⟩)
def strL (p : ByteArray) : Lit := .string p.data.toList
theorem strL_inj {p q : ByteArray} (h : strL p = strL q) : p = q := by
  unfold strL at h; injection h with h
  exact ByteArray.ext (Array.toList_inj.1 h)
theorem isKey_str (p : ByteArray) : WideAt.IsKeyLit (strL p) := by first | trivial | exact Or.inl trivial | simp [strL, WideAt.IsKeyLit]
theorem strK : Keyed Tryz.prog 9 := string_keyed Tryz.underlying9
theorem intK : Keyed Tryz.prog 3 := int_keyed Tryz.underlying3
def NMat (w : World) (b : Nat) (l : NameL) : Prop :=
  Apart l ∧ ∃ D : DataW Unit, w.ownsMap Tryz.prog 9 (plainElem Tryz.prog 3) b l.length D ∧ size D = l.length ∧
    ∀ p, has D (strL p) = hasN l p ∧ D.atKey (strL p) (.lit (.int .i64 0)) = .lit (.int .i64 (lookN l p))
theorem NMat.kept {w w' : World} {b : Nat} {l : NameL} {row : Option Nat} (h : NMat w b l) (hg : w.grownBy w' row) (hne : some b ≠ row) : NMat w' b l := by
  obtain ⟨ha, D, hD, hr⟩ := h; exact ⟨ha, D, hD.kept hg hne, hr⟩
theorem NMat.lt {w : World} {b : Nat} {l : NameL} (h : NMat w b l) : b < w.heap.size := by
  obtain ⟨_, D, hD, _⟩ := h; exact hD.lt
theorem ownsMap_off {k : TypeId} {R : Value → Option (DataW Unit × List MemPlace)} {D : DataW Unit} {w w' : World} {b n : Nat} {l : List Nat} (h : w.ownsMap Tryz.prog k R b n D) (ho : Off l w w') (hb : b ∉ l) : w'.ownsMap Tryz.prog k R b n D := by
  have hlt := h.lt; obtain ⟨es, clock, hh, r⟩ := h; exact ⟨es, clock, (ho.block b hlt hb).trans hh, r⟩
theorem NMat.off {w w' : World} {b : Nat} {l : NameL} {k : List Nat} (h : NMat w b l) (ho : Off k w w') (hb : b ∉ k) : NMat w' b l := by
  obtain ⟨ha, D, hD, hr⟩ := h; exact ⟨ha, D, ownsMap_off hD ho hb, hr⟩
theorem ownsMap_exact {k : TypeId} {R : Value → Option (DataW Unit × List MemPlace)} {D : DataW Unit} {w : World} {b n : Nat} (h : w.ownsMap Tryz.prog k R b n D) : w.ownsMap Tryz.prog k R b (size D) D := by
  obtain ⟨es, clock, hh, F, _, rfl⟩ := h; exact ⟨es, clock, hh, F, by simp [Maps.size, length_sorted], rfl⟩
theorem NMat.put {w w' : World} {b : Nat} {l : NameL} (hl : Apart l) {D : DataW Unit} (hD : w.ownsMap Tryz.prog 9 (plainElem Tryz.prog 3) b l.length D) (hs : size D = l.length)
    (hr : ∀ p, has D (strL p) = hasN l p ∧ D.atKey (strL p) (.lit (.int .i64 0)) = .lit (.int .i64 (lookN l p))) (p : ByteArray) (i : Nat)
    (h' : w'.ownsMap Tryz.prog 9 (plainElem Tryz.prog 3) b (l.length + 1) (D.put (strL p) (.lit (.int .i64 i)))) : NMat w' b (putN l p i) := by
  refine ⟨hl.put p i, D.put (strL p) (.lit (.int .i64 i)), ?_, ?_, fun q => ?_⟩
  · have := ownsMap_exact h'
    rw [size_put (hD.tidy strK), (hr p).1, hs] at this; rw [length_putN]; exact this
  · rw [size_put (hD.tidy strK), (hr p).1, hs, length_putN]
  by_cases hq : p = q
  · subst hq
    rw [has_put_same hD.isMap (isKey_str p), atKey_put_same hD.isMap (isKey_str p), hasN_putN, lookN_putN]; simp
  have hne : strL q ≠ strL p := fun e => hq (strL_inj e).symm
  rw [has_put_other hne, atKey_put_other hne, hasN_putN, lookN_putN, (hr q).1, (hr q).2]; simp [hq]
theorem NMat.del {w w' : World} {b n : Nat} {l : NameL} (hl : Apart l) {D : DataW Unit} (hD : w.ownsMap Tryz.prog 9 (plainElem Tryz.prog 3) b n D) (hs : size D = l.length)
    (hr : ∀ p, has D (strL p) = hasN l p ∧ D.atKey (strL p) (.lit (.int .i64 0)) = .lit (.int .i64 (lookN l p))) (p : ByteArray)
    (h' : w'.ownsMap Tryz.prog 9 (plainElem Tryz.prog 3) b n (D.del (strL p))) : NMat w' b (delN l p) := by
  have hsz : size (D.del (strL p)) = (delN l p).length := by
    have h1 := size_del (k := strL p) (hD.tidy strK); have h2 := length_delN hl p; rw [(hr p).1] at h1; omega
  refine ⟨hl.del p, D.del (strL p), ?_, hsz, fun q => ?_⟩
  · have := ownsMap_exact h'
    rw [hsz] at this; exact this
  by_cases hq : p = q
  · subst hq
    rw [has_del_same, atKey_del_same, hasN_delN, lookN_delN]; simp
  have hne : strL q ≠ strL p := fun e => hq (strL_inj e).symm
  rw [has_del_other hne, atKey_del_other hne, hasN_delN, lookN_delN, (hr q).1, (hr q).2]; simp [hq]
end
section
open Go.RowKit Go.Maps
def ptrElem (v : Value) : Option (DataW Unit × List MemPlace) :=
  match v with
  | .pointer none => some (.nil, [])
  | .pointer (some ⟨b, 0, none⟩) => some (.lit (.int .i64 b), [])
  | _ => none
theorem ptrElem_nil : ptrElem (.pointer none) = some (.nil, []) := rfl
theorem ptrElem_some (b : Nat) : ptrElem (.pointer (some ⟨b, 0, none⟩)) = some (.lit (.int .i64 b), []) := rfl
theorem ptrElem_inv_nil {v : Value} {ps : List MemPlace} (h : ptrElem v = some (.nil, ps)) : v = .pointer none := by
  unfold ptrElem at h
  split at h
  · rfl
  · cases h
  cases h
theorem ptrElem_inv {v : Value} {ps : List MemPlace} {q : Nat} (h : ptrElem v = some (.lit (.int .i64 q), ps)) : v = .pointer (some ⟨q, 0, none⟩) := by
  unfold ptrElem at h
  split at h
  · cases h
  · simp only [Option.some.injEq, Prod.mk.injEq, DataW.lit.injEq, Lit.int.injEq, true_and] at h
    obtain ⟨h, -⟩ := h; have := Int.ofNat_inj.1 h; subst this
    rfl
  cases h
def numL (i : Int) : Lit := .int .i64 i
theorem numL_inj {i j : Int} (h : numL i = numL j) : i = j := by unfold numL at h; injection h
theorem isKey_num (i : Int) : WideAt.IsKeyLit (numL i) := by first | trivial | exact Or.inl trivial | simp [numL, WideAt.IsKeyLit]
def ptrV (qs : List Nat) (i : Nat) : Value := match (if i = 0 then none else qs[i - 1]?) with | none => .pointer none | some q => .pointer (some ⟨q, 0, none⟩)
def IMat (w : World) (b : Nat) (qs : List Nat) : Prop :=
  ∃ D : DataW Unit, w.ownsMap Tryz.prog 3 ptrElem b qs.length D ∧ size D = qs.length ∧
    (∀ (k q : Nat), qs[k]? = some q → has D (numL (k + 1)) = true ∧ D.atKey (numL (k + 1)) .nil = .lit (.int .i64 q)) ∧
    (∀ i : Int, (i < 1 ∨ (qs.length : Int) < i) → has D (numL i) = false)
theorem IMat.lt {w : World} {b : Nat} {qs : List Nat} (h : IMat w b qs) : b < w.heap.size := by
  obtain ⟨D, hD, _⟩ := h; exact hD.lt
theorem IMat.off {w w' : World} {b : Nat} {qs : List Nat} {k : List Nat} (h : IMat w b qs) (ho : Off k w w') (hb : b ∉ k) : IMat w' b qs := by
  obtain ⟨D, hD, hr⟩ := h; exact ⟨D, ownsMap_off hD ho hb, hr⟩
theorem IMat.put {w w' : World} {b : Nat} {qs : List Nat} {D : DataW Unit} (hD : w.ownsMap Tryz.prog 3 ptrElem b qs.length D) (hs : size D = qs.length)
    (h1 : ∀ (k q : Nat), qs[k]? = some q → has D (numL (k + 1)) = true ∧ D.atKey (numL (k + 1)) .nil = .lit (.int .i64 q)) (h2 : ∀ i : Int, (i < 1 ∨ (qs.length : Int) < i) → has D (numL i) = false) (q : Nat)
    (h' : w'.ownsMap Tryz.prog 3 ptrElem b (qs.length + 1) (D.put (numL (qs.length + 1)) (.lit (.int .i64 q)))) : IMat w' b (qs ++ [q]) := by
  have hn := h2 (qs.length + 1) (.inr (by omega)); refine ⟨D.put (numL (qs.length + 1)) (.lit (.int .i64 q)), ?_, ?_, fun k r hk => ?_, fun i hi => ?_⟩
  · simpa using h'
  · rw [size_put (hD.tidy intK), hn, hs]; simp
  · rw [List.getElem?_append] at hk
    split at hk
    · rename_i hlt
      have hne : numL ((k : Int) + 1) ≠ numL (qs.length + 1) := fun e => by have := numL_inj e; omega
      rw [has_put_other hne, atKey_put_other hne]; exact h1 k r hk
    rename_i hge
    have hk0 : k = qs.length := by
      have := (List.getElem?_eq_some_iff.1 hk).1; simp at this; omega
    subst hk0; simp only [Nat.sub_self, List.getElem?_cons_zero, Option.some.injEq] at hk; subst hk; exact ⟨has_put_same hD.isMap (isKey_num _) _, atKey_put_same hD.isMap (isKey_num _) _ _⟩
  simp only [List.length_append, List.length_cons, List.length_nil] at hi
  have hne : numL i ≠ numL (qs.length + 1) := fun e => by have := numL_inj e; omega
  rw [has_put_other hne]; exact h2 i (by omega)
set_option maxRecDepth 100000 in
theorem NMat.look {w : World} {b : Nat} {l : NameL} (h : NMat w b l) (p : ByteArray) (hp : p.size ≤ maxLen) :
    (Instr.lookup 122 (.map (some b)) (.string p) false).run Tryz.prog w = .ok (.int .i64 (lookN l p)) w := by
  obtain ⟨ha, D, hD, hs, hr⟩ := h; obtain ⟨c, hrun, hat, -⟩ := hD.lookup_int strK Tryz.underlying122 Tryz.underlying3 (Tryz.zeroValue3 w) (WideMaps.keyOf_string_mk Tryz.underlying9 hp); rw [show Lit.string p.data.toList = strL p from rfl, (hr p).2] at hat; injection hat with hat
  injection hat with _ hat
  rw [hat]; exact hrun
theorem NMat.len {w : World} {b : Nat} {l : NameL} (h : NMat w b l) (ty : TypeId) : (Builtin.len_ #[122] ty #[.map (some b)]).run Tryz.prog w = .ok (.int .i64 l.length) w := by
  obtain ⟨ha, D, hD, hs, hr⟩ := h; rw [← hs]; exact hD.len Tryz.underlying122 ty
set_option maxRecDepth 100000 in
theorem IMat.look {w : World} {b : Nat} {qs : List Nat} (h : IMat w b qs) (i : Nat) (hi : i ≤ 4611686018427387904) :
    (Instr.lookup 123 (.map (some b)) (.int .i64 i) false).run Tryz.prog w = .ok (ptrV qs i) w := by
  obtain ⟨D, hD, hs, h1, h2⟩ := h; have hwf : (Lit.int .i64 (i : Int)).wf = true := WalkArith.wf_i64 (by omega)
  obtain ⟨v, ps, hrun, hv⟩ := hD.lookup intK Tryz.underlying123 (Tryz.zeroValue160 w) ptrElem_nil (keyOf_int_mk Tryz.underlying3 hwf); rw [hrun]
  congr 1
  unfold ptrV
  by_cases h0 : i = 0
  · subst h0
    simp only [if_true]
    rw [show ((0 : Nat) : Int) = 0 from rfl] at hv; have := h2 0 (.inl (by omega)); rw [show Lit.int .i64 0 = numL 0 from rfl, atKey_of_not_has this] at hv; exact ptrElem_inv_nil hv
  simp only [if_neg h0]
  cases hq : qs[i - 1]? with
  | none =>
    have hl := List.getElem?_eq_none_iff.1 hq; have := h2 i (.inr (by omega)); rw [show Lit.int .i64 (i : Int) = numL i from rfl, atKey_of_not_has this] at hv; exact ptrElem_inv_nil hv
  | some q =>
    have := (h1 (i - 1) q hq).2; rw [show ((i - 1 : Nat) : Int) + 1 = i by omega] at this; rw [show Lit.int .i64 (i : Int) = numL i from rfl, this] at hv; exact ptrElem_inv hv
end
section
open Go.RowKit Go.Maps
structure Geo where
  nb : Nat
  sb : Option Nat
  ib : Nat
  lv : Value
  tv : Value
  fv : Value
  fb : List Nat
  lb : List Nat
  qs : List Nat
def inoCells (n : Ino) : Array Value := #[.string n.node.path, .int .i64 n.node.kind, .string n.node.data, .int .i64 n.node.mode, .int .i64 n.time, .bool n.dirty]
def didCells (l : List DidP) : List Value := l.flatMap fun d => [.string d.call, .string d.path, .string d.dest]
def fateCells (f : FateP) : List Value := [.int .i64 f.at_, .int .i64 f.what, .int .i64 f.keep, .int .i64 f.torn]
def Geo.rest (G : Geo) : List Nat := G.sb.toList ++ (G.ib :: (G.lb ++ (G.qs ++ (G.lv.ownBlock.toList ++ (G.tv.ownBlock.toList ++ G.fb)))))
def Geo.parts (G : Geo) : List Nat := G.nb :: G.rest
def diskCells (G : Geo) (D : PDisk) : Array Value :=
  #[.map (some G.nb), .map G.sb, G.lv, .map (some G.ib), .int .i64 (D.inos.length + 1), .bool D.off, .int .i64 D.clock, G.tv, G.fv, D.ev]
def FatesAt (w : World) (v : Value) (fb : List Nat) (fs : List FateP) : Prop :=
  ∃ p c, v = .slice p fs.length c ∧ fs.length ≤ c ∧ (fs ≠ [] → ∃ g, p = some ⟨g, 0, none⟩ ∧ g ∈ fb ∧ g < w.heap.size ∧ ∀ (j : Nat) (f : FateP), fs[j]? = some f → ∀ (i : Nat) (u : Value), (fateCells f)[i]? = some u → w.cell? ⟨g, j * 4 + i, none⟩ = some u)
def editCells (e : EditP) (v : Value) : List Value := [.int .i64 e.at_, .string e.path, v]
def ValueAt (w : World) (v : Value) (fb : List Nat) (t : List Node) : Prop :=
  ∃ p c, v = .slice p t.length c ∧ t.length ≤ c ∧ c ≤ maxLen ∧ (p = none → t = [] ∧ c = 0) ∧ Fits t ∧ (∀ a, p = some a → a.block ∈ fb) ∧ Row w p t
def EditsAt (w : World) (v : Value) (fb : List Nat) (es : List EditP) : Prop :=
  ∃ p c, v = .slice p es.length c ∧ es.length ≤ c ∧ es.length ≤ maxLen ∧ (es ≠ [] → ∃ g, p = some ⟨g, 0, none⟩ ∧ g ∈ fb ∧ g < w.heap.size ∧ ∀ (j : Nat) (e : EditP), es[j]? = some e → ∃ u, ValueAt w u fb e.value ∧ ∀ (i : Nat) (x : Value), (editCells e u)[i]? = some x → w.cell? ⟨g, j * 3 + i, none⟩ = some x)
structure WeatherAt (w : World) (fv ev : Value) (fb : List Nat) (fs : List FateP) (es : List EditP) : Prop where
  fates : FatesAt w fv fb fs
  edits : EditsAt w ev fb es
def Weath (t : TypeId) : Prop := t = 96 ∨ t = 36 ∨ t = 105
theorem Weath.ne {t u : TypeId} (h : Weath t) (hu : u ≠ 96 ∧ u ≠ 36 ∧ u ≠ 105) : t ≠ u := by
  rcases h with rfl | rfl | rfl
  · exact Ne.symm hu.1
  · exact Ne.symm hu.2.1
  exact Ne.symm hu.2.2
def SafeAt (w : World) (b : Option Nat) (l : NameL) : Prop := match b with | none => l = [] | some b => NMat w b l
structure DiskP (w : World) (G : Geo) (D : PDisk) : Prop where
  names : NMat w G.nb D.names
  safe : SafeAt w G.sb D.safe
  later : w.ownsRow 0 122 1 G.lv D.later.length (G.lb.map fun b => .map (some b))
  lbl : G.lb.length = D.later.length
  laters : ∀ (i : Nat) (b : Nat) (l : NameL), G.lb[i]? = some b → D.later[i]? = some l → NMat w b l
  ino : IMat w G.ib G.qs
  qsl : G.qs.length = D.inos.length
  inos : ∀ (i q : Nat) (n : Ino), G.qs[i]? = some q → D.inos[i]? = some n → Blk w q 159 (inoCells n)
  nodup : G.qs.Nodup
  trace : w.ownsRow 0 155 3 G.tv D.trace.length (didCells D.trace)
  fates : WeatherAt w G.fv D.ev G.fb D.fates D.edits
  fbl : ∀ g ∈ G.fb, ∃ t cs, Blk w g t cs ∧ Weath t
  apart : G.ib ≠ G.nb ∧ G.sb ≠ some G.ib ∧ G.ib ∉ G.lb
structure DiskM (w : World) (p : Nat) (G : Geo) (D : PDisk) : Prop where
  blk : Blk w p 126 (diskCells G D)
  parts : DiskP w G D
theorem own_offk {w w' : World} {base e sz n : Nat} {v : Value} {xs : List Value} {k : List Nat} (h : w.ownsRow base e sz v n xs) (ho : Off k w w') (hv : ∀ b ∈ v.ownBlock.toList, b ∉ k) : w'.ownsRow base e sz v n xs := by
  refine ⟨h.1, ?_⟩
  rcases h.2 with h | ⟨g, cap, cur, h1, h2, h3, h4⟩
  · exact .inl h
  subst h1; have hlt : g < w.heap.size := (Array.getElem?_eq_some_iff.1 h3).1
  exact .inr ⟨g, cap, cur, rfl, h2, (ho.block g hlt (hv g (by simp [Value.ownBlock]))).trans h3, h4⟩
theorem own_blks {w : World} {base e sz n : Nat} {v : Value} {xs : List Value} (h : w.ownsRow base e sz v n xs) : ∀ b ∈ v.ownBlock.toList, ∃ cs, Blk w b e cs := by
  rcases h.2 with ⟨rfl, _⟩ | ⟨g, cap, cur, rfl, h2, h3, h4⟩
  · intro b hb; simp [Value.ownBlock] at hb
  intro b hb
  simp [Value.ownBlock] at hb
  subst hb; exact ⟨_, h3⟩
theorem FatesAt.off {w w' : World} {v : Value} {fb : List Nat} {fs : List FateP} {k : List Nat} (h : FatesAt w v fb fs) (ho : Off k w w') (hb : ∀ b ∈ fb, b ∉ k) : FatesAt w' v fb fs := by
  obtain ⟨p, c, rfl, hc, hf⟩ := h; refine ⟨p, c, rfl, hc, fun hne => ?_⟩; obtain ⟨g, rfl, hg, hlt, hcell⟩ := hf hne; refine ⟨g, rfl, hg, Nat.lt_of_lt_of_le hlt ho.size, fun j f hj i u hu => ?_⟩; rw [ho.cell (p := ⟨g, j * 4 + i, none⟩) hlt (hb g hg)]; exact hcell j f hj i u hu
theorem ValueAt.off {w w' : World} {v : Value} {fb : List Nat} {t : List Node} {k : List Nat} (h : ValueAt w v fb t) (ho : Off k w w') (hb : ∀ b ∈ fb, b ∉ k) : ValueAt w' v fb t := by
  obtain ⟨p, c, rfl, hc, hcm, hp, hF, ha, hR⟩ := h; refine ⟨p, c, rfl, hc, hcm, hp, hF, ha, fun hne => ?_⟩; obtain ⟨a, rfl, hlt, hn⟩ := hR hne; have hk : a.block ∉ k := hb _ (ha a rfl)
  refine ⟨a, rfl, Nat.lt_of_lt_of_le hlt ho.size, fun i n hi => ?_⟩
  have h1 := hn i n hi; have hbk : (a.add (i * 4)).block ∉ k := by rw [add_block]; exact hk
  have hbl : (a.add (i * 4)).block < w.heap.size := by rw [add_block]; exact hlt
  exact ⟨(ho.cell hbl hbk).trans h1.path, (ho.cell (p := ⟨(a.add (i * 4)).block, (a.add (i * 4)).off + 1, none⟩) hbl hbk).trans h1.kind, (ho.cell (p := ⟨(a.add (i * 4)).block, (a.add (i * 4)).off + 2, none⟩) hbl hbk).trans h1.data, (ho.cell (p := ⟨(a.add (i * 4)).block, (a.add (i * 4)).off + 3, none⟩) hbl hbk).trans h1.mode⟩
theorem EditsAt.off {w w' : World} {v : Value} {fb : List Nat} {es : List EditP} {k : List Nat} (h : EditsAt w v fb es) (ho : Off k w w') (hb : ∀ b ∈ fb, b ∉ k) : EditsAt w' v fb es := by
  obtain ⟨p, c, rfl, hc, hm, hf⟩ := h; refine ⟨p, c, rfl, hc, hm, fun hne => ?_⟩; obtain ⟨g, rfl, hg, hlt, hcell⟩ := hf hne; refine ⟨g, rfl, hg, Nat.lt_of_lt_of_le hlt ho.size, fun j e hj => ?_⟩; obtain ⟨u, hu, hx⟩ := hcell j e hj; refine ⟨u, hu.off ho hb, fun i x hi => ?_⟩; rw [ho.cell (p := ⟨g, j * 3 + i, none⟩) hlt (hb g hg)]; exact hx i x hi
theorem EditsAt.nil (w : World) (fb : List Nat) : EditsAt w (.slice none 0 0) fb [] := ⟨none, 0, rfl, Nat.le_refl _, by decide, fun h => absurd rfl h⟩
theorem WeatherAt.off {w w' : World} {fv ev : Value} {fb : List Nat} {fs : List FateP} {es : List EditP} {k : List Nat} (h : WeatherAt w fv ev fb fs es) (ho : Off k w w') (hb : ∀ b ∈ fb, b ∉ k) : WeatherAt w' fv ev fb fs es := ⟨h.fates.off ho hb, h.edits.off ho hb⟩
theorem SafeAt.off {w w' : World} {b : Option Nat} {l : NameL} {k : List Nat} (h : SafeAt w b l) (ho : Off k w w') (hb : ∀ x ∈ b.toList, x ∉ k) : SafeAt w' b l := by
  cases b with
  | none => exact h
  | some b => exact NMat.off h ho (hb b (by simp))
section
variable {w w' : World} {p : Nat} {G : Geo} {D : PDisk} {k : List Nat}
theorem mem_rest {b : Nat} : b ∈ G.rest ↔ b ∈ G.sb.toList ∨ b = G.ib ∨ b ∈ G.lb ∨ b ∈ G.qs ∨ b ∈ G.lv.ownBlock.toList ∨ b ∈ G.tv.ownBlock.toList ∨ b ∈ G.fb := by
  unfold Geo.rest; simp only [List.mem_append, List.mem_cons]
theorem DiskP.off (h : DiskP w G D) (ho : Off k w w') (hb : ∀ b ∈ G.parts, b ∉ k) : DiskP w' G D where
  names := h.names.off ho (hb _ (List.mem_cons_self ..))
  safe := h.safe.off ho (fun x hx => hb x (List.mem_cons_of_mem _ (mem_rest.2 (.inl hx))))
  later := own_offk h.later ho (fun x hx => hb x (List.mem_cons_of_mem _ (mem_rest.2 (.inr (.inr (.inr (.inr (.inl hx))))))))
  lbl := h.lbl
  laters := fun i b l h1 h2 => (h.laters i b l h1 h2).off ho (hb b (List.mem_cons_of_mem _ (mem_rest.2 (.inr (.inr (.inl (List.mem_of_getElem? h1)))))))
  ino := h.ino.off ho (hb _ (List.mem_cons_of_mem _ (mem_rest.2 (.inr (.inl rfl)))))
  qsl := h.qsl
  inos := fun i q n h1 h2 => (h.inos i q n h1 h2).off ho (hb q (List.mem_cons_of_mem _ (mem_rest.2 (.inr (.inr (.inr (.inl (List.mem_of_getElem? h1))))))))
  nodup := h.nodup
  trace := own_offk h.trace ho (fun x hx => hb x (List.mem_cons_of_mem _ (mem_rest.2 (.inr (.inr (.inr (.inr (.inr (.inl hx)))))))))
  fates := h.fates.off ho (fun x hx => hb x (List.mem_cons_of_mem _ (mem_rest.2 (.inr (.inr (.inr (.inr (.inr (.inr hx)))))))))
  fbl := fun g hg => by
    obtain ⟨t, cs, hB, hW⟩ := h.fbl g hg; exact ⟨t, cs, hB.off ho (hb g (List.mem_cons_of_mem _ (mem_rest.2 (.inr (.inr (.inr (.inr (.inr (.inr hg))))))))), hW⟩
  apart := h.apart
theorem DiskM.off (h : DiskM w p G D) (ho : Off k w w') (hp : p ∉ k) (hb : ∀ b ∈ G.parts, b ∉ k) : DiskM w' p G D := ⟨h.blk.off ho hp, h.parts.off ho hb⟩
def IsMapB (w : World) (b : Nat) : Prop := ∃ es c, w.heap[b]? = some (.map es c)
theorem NMat.isMap {b : Nat} {l : NameL} (h : NMat w b l) : IsMapB w b := by
  obtain ⟨_, D, ⟨es, c, hh, _⟩, _⟩ := h; exact ⟨es, c, hh⟩
theorem IMat.isMap {b : Nat} {l : List Nat} (h : IMat w b l) : IsMapB w b := by
  obtain ⟨D, ⟨es, c, hh, _⟩, _⟩ := h; exact ⟨es, c, hh⟩
theorem IsMapB.ne {b g : Nat} {t : TypeId} {cs : Array Value} (h : IsMapB w b) (hB : Blk w g t cs) : b ≠ g := by
  rintro rfl; obtain ⟨es, c, hh⟩ := h; unfold Blk at hB; rw [hh] at hB
  cases hB
theorem IsMapB.lt {b : Nat} (h : IsMapB w b) : b < w.heap.size := by
  obtain ⟨es, c, hh⟩ := h; exact (Array.getElem?_eq_some_iff.1 hh).1
theorem DiskP.kind (h : DiskP w G D) {b : Nat} (hb : b ∈ G.parts) : IsMapB w b ∨ (∃ cs, Blk w b 159 cs) ∨ (∃ cs, Blk w b 122 cs) ∨ (∃ cs, Blk w b 155 cs) ∨ (∃ t cs, Blk w b t cs ∧ Weath t) := by
  rcases List.mem_cons.1 hb with rfl | hb
  · exact .inl h.names.isMap
  rcases mem_rest.1 hb with hb | rfl | hb | hb | hb | hb | hb
  · have := h.safe
    cases hs : G.sb with
    | none => rw [hs] at hb; simp at hb
    | some s =>
      rw [hs] at hb this; simp at hb; subst hb; exact .inl (NMat.isMap this)
  · exact .inl h.ino.isMap
  · obtain ⟨i, hi, rfl⟩ := List.getElem_of_mem hb
    have hl : i < D.later.length := by rw [← h.lbl]; exact hi
    exact .inl (h.laters i _ _ (List.getElem?_eq_getElem hi) (List.getElem?_eq_getElem hl)).isMap
  · obtain ⟨i, hi, rfl⟩ := List.getElem_of_mem hb
    have hl : i < D.inos.length := by rw [← h.qsl]; exact hi
    exact .inr (.inl ⟨_, h.inos i _ _ (List.getElem?_eq_getElem hi) (List.getElem?_eq_getElem hl)⟩)
  · exact .inr (.inr (.inl (own_blks h.later b hb)))
  · exact .inr (.inr (.inr (.inl (own_blks h.trace b hb))))
  exact .inr (.inr (.inr (.inr (h.fbl b hb))))
theorem DiskP.lt (h : DiskP w G D) {b : Nat} (hb : b ∈ G.parts) : b < w.heap.size := by
  rcases h.kind hb with h | ⟨_, h⟩ | ⟨_, h⟩ | ⟨_, h⟩ | ⟨_, _, h, _⟩
  · exact h.lt
  all_goals exact h.lt
theorem DiskP.far (h : DiskP w G D) {g : Nat} {t : TypeId} {cs : Array Value} (hB : Blk w g t cs) (ht : t ≠ 159 ∧ t ≠ 122 ∧ t ≠ 155 ∧ t ≠ 96 ∧ t ≠ 36 ∧ t ≠ 105) : g ∉ G.parts := by
  intro hb
  rcases h.kind hb with h | ⟨_, h⟩ | ⟨_, h⟩ | ⟨_, h⟩ | ⟨_, _, h, hw⟩
  · exact h.ne hB rfl
  · exact h.ne_ hB (Ne.symm ht.1) rfl
  · exact h.ne_ hB (Ne.symm ht.2.1) rfl
  · exact h.ne_ hB (Ne.symm ht.2.2.1) rfl
  exact h.ne_ hB (hw.ne ht.2.2.2) rfl
theorem DiskM.far (h : DiskM w p G D) : p ∉ G.parts := h.parts.far h.blk (by decide)
theorem DiskM.drew (h : DiskM w p G D) : DiskM w.drew p G D := h.off (k := []) ((Off.refl _ _).drew) (by simp) (by simp)
theorem DiskM.alloc (h : DiskM w p G D) (o : Obj) : DiskM (w.alloc o) p G D := h.off (k := []) ((Off.refl _ _).alloc _) (by simp) (by simp)
end
def DiskTo (w : World) (p : Nat) (L : List Nat) (w' : World) (D : PDisk) : Prop := ∃ G, DiskM w' p G D ∧ Off (p :: L) w w' ∧ (∀ b ∈ G.parts, b ∈ L ∨ w.heap.size ≤ b) ∧ G.sb.isSome = true
theorem DiskTo.refl {w : World} {p : Nat} {G : Geo} {D : PDisk} (h : DiskM w p G D) (hs : G.sb.isSome = true) : DiskTo w p G.parts w D := ⟨G, h, Off.refl _ _, fun _ hb => .inl hb, hs⟩
theorem DiskTo.next {w w1 w2 : World} {p : Nat} {L : List Nat} {G : Geo} {D' : PDisk} (ho : Off (p :: L) w w1) (hp : ∀ b ∈ G.parts, b ∈ L ∨ w.heap.size ≤ b) (h : DiskTo w1 p G.parts w2 D') : DiskTo w p L w2 D' := by
  obtain ⟨G2, hM, h2, h3, h4⟩ := h; refine ⟨G2, hM, ho.trans h2 (fun x hx hm => ?_), fun b hb => ?_, h4⟩
  · rcases List.mem_cons.1 hm with rfl | hm
    · exact List.mem_cons_self ..
    rcases hp x hm with h | h
    · exact List.mem_cons_of_mem _ h
    omega
  rcases h3 b hb with h | h
  · exact hp b h
  exact .inr (Nat.le_trans ho.size h)
end
section
open Go.RowKit Go.Op
theorem DiskM.drewN {w : World} {p : Nat} {G : Geo} {D : PDisk} (h : DiskM w p G D) (n : Nat) : DiskM (w.drewN n) p G D := h.off (k := []) ((Off.refl _ _).drewN n) (by simp) (by simp)
set_option maxRecDepth 100000 in
set_option maxHeartbeats 4000000 in
theorem dat_any (p : Nat) (G : Geo) (D : PDisk) (path : ByteArray) (w : World) (hM : DiskM w p G D) (hs : path.size ≤ maxLen) (hi : lookN D.names path ≤ 4611686018427387904) :
    Calls Tryz.prog 82 #[.pointer (some ⟨p, 0, none⟩), .string path] w fun e w' => e = .returned (ptrV G.qs (lookN D.names path)) ∧ Off [] w w' := by
  have h1 : ∀ n, (Instr.lookup 122 (.map (some G.nb)) (.string path) false).run Tryz.prog (w.drewN n) = .ok (.int .i64 (lookN D.names path)) (w.drewN n) := fun n => (hM.drewN n).parts.names.look path hs
  have h2 : ∀ n, (Instr.lookup 123 (.map (some G.ib)) (.int .i64 (lookN D.names path)) false).run Tryz.prog (w.drewN n) = .ok (ptrV G.qs (lookN D.names path)) (w.drewN n) := fun n => (hM.drewN n).parts.ino.look _ hi
  have hc := hM.blk.cell; generalize ptrV G.qs (lookN D.names path) = v at h2 ⊢; generalize (lookN D.names path : Int) = i at h1 h2; unfold diskCells at hc; clear hM hs hi
  go_enter Tryz.func82, Tryz.ntmps82
  go_wp2_with fail
  go_quiet (fail)
  go_wp2_with fail
  go_ret
  exact ⟨rfl, (Off.refl _ _).drewN _⟩
def rsn (x : Bool × Int) : Value := .agg #[.bool x.1, .int .i64 x.2]
theorem at_none {w : World} {p : Nat} {G : Geo} {D : PDisk} {path : ByteArray} (h : DiskM w p G D) (ha : D.at_ path = none) : ptrV G.qs (lookN D.names path) = .pointer none := by
  unfold PDisk.at_ PDisk.inode at ha; unfold ptrV
  by_cases h0 : lookN D.names path = 0
  · rw [h0]; rfl
  rw [if_neg h0] at ha ⊢; have := List.getElem?_eq_none_iff.1 ha; rw [List.getElem?_eq_none_iff.2 (by rw [h.parts.qsl]; exact this)]
theorem at_some {w : World} {p : Nat} {G : Geo} {D : PDisk} {path : ByteArray} {n : Ino} (h : DiskM w p G D) (ha : D.at_ path = some n) :
    ∃ q, ptrV G.qs (lookN D.names path) = .pointer (some ⟨q, 0, none⟩) ∧ Blk w q 159 (inoCells n) ∧ lookN D.names path ≠ 0 ∧ G.qs[lookN D.names path - 1]? = some q ∧ D.inos[lookN D.names path - 1]? = some n := by
  unfold PDisk.at_ PDisk.inode at ha; unfold ptrV
  by_cases h0 : lookN D.names path = 0
  · rw [if_pos h0] at ha; cases ha
  rw [if_neg h0] at ha ⊢; have hl := (List.getElem?_eq_some_iff.1 ha).1; have hq : lookN D.names path - 1 < G.qs.length := by rw [h.parts.qsl]; exact hl
  refine ⟨G.qs[lookN D.names path - 1], by rw [List.getElem?_eq_getElem hq], h.parts.inos _ _ n (List.getElem?_eq_getElem hq) ha, h0, List.getElem?_eq_getElem hq, ha⟩
theorem dat_none (p : Nat) (G : Geo) (D : PDisk) (path : ByteArray) (w : World) (hM : DiskM w p G D) (hs : path.size ≤ maxLen) (hi : lookN D.names path ≤ 4611686018427387904) (ha : D.at_ path = none) :
    Calls Tryz.prog 82 #[.pointer (some ⟨p, 0, none⟩), .string path] w fun e w' => e = .returned (.pointer none) ∧ Off [] w w' := by
  have := dat_any p G D path w hM hs hi; rw [at_none hM ha] at this; exact this
theorem dat_some (p : Nat) (G : Geo) (D : PDisk) (path : ByteArray) (w : World) (hM : DiskM w p G D) (hs : path.size ≤ maxLen) (hi : lookN D.names path ≤ 4611686018427387904) (q : Nat) (ha : ptrV G.qs (lookN D.names path) = .pointer (some ⟨q, 0, none⟩)) :
    Calls Tryz.prog 82 #[.pointer (some ⟨p, 0, none⟩), .string path] w fun e w' => e = .returned (.pointer (some ⟨q, 0, none⟩)) ∧ Off [] w w' := by
  have := dat_any p G D path w hM hs hi; rw [ha] at this; exact this
theorem emp_ne {s : ByteArray} (h : s ≠ ⟨#[]⟩) : s.toList.isEmpty = false ∧ ¬ s.toList = [] := by
  have hn : ¬ s.toList = [] := by
    rw [toList_str]
    intro e
    exact h (str_inj e)
  exact ⟨by rw [List.isEmpty_eq_false_iff]; exact hn, hn⟩
set_option maxRecDepth 100000 in
set_option maxHeartbeats 4000000 in
theorem ddir_v (p : Nat) (G : Geo) (D : PDisk) (path : ByteArray) (w : World) (hM : DiskM w p G D) (hs : path.size ≤ maxLen) (hi : lookN D.names path ≤ 4611686018427387904) (v : Bool) (hv : D.dir path = v) :
    Calls Tryz.prog 95 #[.pointer (some ⟨p, 0, none⟩), .string path] w fun e w' => e = .returned (.bool v) ∧ Off [] w w' := by
  unfold PDisk.dir at hv; have HC := Lib.hid (dat_any p G D path w hM hs hi)
  by_cases hp : path = ⟨#[]⟩
  · rw [decide_eq_true hp, Bool.true_or] at hv
    subst hv; subst hp; have HV : Hid (∃ q, ptrV G.qs (lookN D.names (⟨#[]⟩ : ByteArray)) = q) := Lib.hid ⟨_, rfl⟩
    generalize ptrV G.qs (lookN D.names (⟨#[]⟩ : ByteArray)) = v at HC
    clear hM hs hi HV
    go_enter Tryz.func95, Tryz.ntmps95
    go_wp2_with fail
    refine HC.out.mono ?_
    rintro e w1 ⟨rfl, ho⟩
    go_wp2_with fail
    go_ret
    exact ⟨rfl, ho⟩
  obtain ⟨hp1, hp2⟩ := emp_ne hp; rw [decide_eq_false hp, Bool.false_or] at hv
  cases ha : D.at_ path with
  | none =>
    rw [ha] at hv; subst hv; rw [at_none hM ha] at HC; clear ha hM hs hi hp
    go_enter Tryz.func95, Tryz.ntmps95
    go_wp2_with fail
    refine HC.out.mono ?_
    rintro e w1 ⟨rfl, ho⟩
    go_wp2_with fail
    go_ret
    exact ⟨rfl, ho⟩
  | some n =>
    rw [ha] at hv; obtain ⟨q, hq, hB, -⟩ := at_some hM ha; rw [hq] at HC; have HV := Lib.hid hv; have HB := Lib.hid hB; clear ha hv hM hs hi hq hB hp
    go_enter Tryz.func95, Tryz.ntmps95
    go_wp2_with fail
    refine HC.out.mono ?_
    rintro e w1 ⟨rfl, ho⟩; have hB := HB.out.off ho (by simp); have hc := hB.cell; unfold inoCells at hc
    go_wp2_with fail
    go_ret
    refine ⟨?_, ho⟩
    rw [← HV.out]
    rfl
set_option maxRecDepth 100000 in
theorem dno_any (path : ByteArray) (w : World) (hT : Tabs w) :
    Calls Tryz.prog 84 #[.string path] w fun e w' => e = .returned (rsn (PDisk.no path)) ∧ Off [] w w' := by
  unfold PDisk.no rsn; obtain ⟨v, hv⟩ : ∃ v, okPath (str path) = v := ⟨_, rfl⟩
  have HP := Lib.hid (fun (W : World) (h : Off [] w W) => path_v path W (hT.off h) v hv); rw [hv]; clear hv hT
  go_enter Tryz.func84, Tryz.ntmps84
  go_wp2_with fail
  have hB := Blk.new w 164 #[.bool false, .int .i64 0]; have hof := (Off.refl [] w).alloc (.cells #[.bool false, .int .i64 0] 164); refine (HP.out _ hof).mono ?_; rintro e w1 ⟨rfl, ho⟩; have hB := hB.off ho (by simp); have ho := hof.trans_nil ho; have hc := hB.cell; have hf := hB.frozen; have hl := hB.lt; clear hof
  go_wp2_with fail
  have hB2 := (hB.set_ 0 (.bool (!v))).set_ 1 (.int .i64 11); have ho2 := (ho.setCell (p := ⟨w.heap.size, 0, none⟩) (.inl (Nat.le_refl _)) (.bool (!v))).setCell (p := ⟨w.heap.size, 1, none⟩) (.inl (Nat.le_refl _)) (.int .i64 11); have hc2 := hB2.cell; clear hB hB2 ho hc hf hl; refine bodyPost_ret (v := .agg #[.bool (!v), .int .i64 11]) ?_ rfl ?_
  · have hres : Tryz.f84.results = #[.cell 2 164] := rfl
    simp only [results, hres]
    go_simp
  exact ⟨rfl, ho2⟩
end
section
open Go.RowKit Go.Op
set_option maxRecDepth 100000 in
set_option maxHeartbeats 4000000 in
theorem dgone_any (p : Nat) (G : Geo) (D : PDisk) (path : ByteArray) (w : World) (hM : DiskM w p G D) (hs : path.size ≤ maxLen) (hi : lookN D.names path ≤ 4611686018427387904) :
    Calls Tryz.prog 89 #[.pointer (some ⟨p, 0, none⟩), .string path] w fun e w' => e = .returned (rsn (D.gone path)) ∧ Off [] w w' := by
  unfold PDisk.gone rsn
  cases ha : D.at_ path with
  | none =>
    have HC := Lib.hid (fun (W : World) (h : Off [] w W) => dat_none p G D path W (hM.off h (by simp) (by simp)) hs hi ha); clear hM hs hi ha
    go_enter Tryz.func89, Tryz.ntmps89
    go_wp2_with fail
    have hB := Blk.new w 164 #[.bool false, .int .i64 0]; have hof := (Off.refl [] w).alloc (.cells #[.bool false, .int .i64 0] 164); refine (HC.out _ hof).mono ?_; rintro e w1 ⟨rfl, ho⟩; have hB := hB.off ho (by simp); have ho := hof.trans_nil ho; have hc := hB.cell; have hf := hB.frozen; have hl := hB.lt; clear hof
    go_wp2_with fail
    have hB2 := (hB.set_ 0 (.bool true)).set_ 1 (.int .i64 74); have ho2 := (ho.setCell (p := ⟨w.heap.size, 0, none⟩) (.inl (Nat.le_refl _)) (.bool true)).setCell (p := ⟨w.heap.size, 1, none⟩) (.inl (Nat.le_refl _)) (.int .i64 74); have hc2 := hB2.cell; clear hB hB2 ho hc hf hl; refine bodyPost_ret (v := .agg #[.bool true, .int .i64 74]) ?_ rfl ?_
    · have hres : Tryz.f89.results = #[.cell 4 164] := rfl
      simp only [results, hres]
      go_simp
    exact ⟨rfl, ho2⟩
  | some n =>
    obtain ⟨q, hq, -⟩ := at_some hM ha; have HC := Lib.hid (fun (W : World) (h : Off [] w W) => dat_some p G D path W (hM.off h (by simp) (by simp)) hs hi q hq); clear hM hs hi ha hq
    go_enter Tryz.func89, Tryz.ntmps89
    go_wp2_with fail
    have hB := Blk.new w 164 #[.bool false, .int .i64 0]; have hof := (Off.refl [] w).alloc (.cells #[.bool false, .int .i64 0] 164); refine (HC.out _ hof).mono ?_; rintro e w1 ⟨rfl, ho⟩; have hB := hB.off ho (by simp); have ho := hof.trans_nil ho; have hc := hB.cell; have hf := hB.frozen; have hl := hB.lt; clear hof
    go_wp2_with fail
    have hB2 := (hB.set_ 0 (.bool false)).set_ 1 (.int .i64 74); have ho2 := (ho.setCell (p := ⟨w.heap.size, 0, none⟩) (.inl (Nat.le_refl _)) (.bool false)).setCell (p := ⟨w.heap.size, 1, none⟩) (.inl (Nat.le_refl _)) (.int .i64 74); have hc2 := hB2.cell; clear hB hB2 ho hc hf hl; refine bodyPost_ret (v := .agg #[.bool false, .int .i64 74]) ?_ rfl ?_
    · have hres : Tryz.f89.results = #[.cell 4 164] := rfl
      simp only [results, hres]
      go_simp
    exact ⟨rfl, ho2⟩
set_option maxRecDepth 100000 in
set_option maxHeartbeats 4000000 in
theorem dthere_any (p : Nat) (G : Geo) (D : PDisk) (path : ByteArray) (w : World) (hM : DiskM w p G D) (hs : path.size ≤ maxLen) (hi : lookN D.names path ≤ 4611686018427387904) :
    Calls Tryz.prog 92 #[.pointer (some ⟨p, 0, none⟩), .string path] w fun e w' => e = .returned (rsn (D.there path)) ∧ Off [] w w' := by
  unfold PDisk.there rsn
  cases ha : D.at_ path with
  | none =>
    have HC := Lib.hid (fun (W : World) (h : Off [] w W) => dat_none p G D path W (hM.off h (by simp) (by simp)) hs hi ha); clear hM hs hi ha
    go_enter Tryz.func92, Tryz.ntmps92
    go_wp2_with fail
    have hB := Blk.new w 164 #[.bool false, .int .i64 0]; have hof := (Off.refl [] w).alloc (.cells #[.bool false, .int .i64 0] 164); refine (HC.out _ hof).mono ?_; rintro e w1 ⟨rfl, ho⟩; have hB := hB.off ho (by simp); have ho := hof.trans_nil ho; have hc := hB.cell; have hf := hB.frozen; have hl := hB.lt; clear hof
    go_wp2_with fail
    have hB2 := (hB.set_ 0 (.bool false)).set_ 1 (.int .i64 72); have ho2 := (ho.setCell (p := ⟨w.heap.size, 0, none⟩) (.inl (Nat.le_refl _)) (.bool false)).setCell (p := ⟨w.heap.size, 1, none⟩) (.inl (Nat.le_refl _)) (.int .i64 72); have hc2 := hB2.cell; clear hB hB2 ho hc hf hl; refine bodyPost_ret (v := .agg #[.bool false, .int .i64 72]) ?_ rfl ?_
    · have hres : Tryz.f92.results = #[.cell 4 164] := rfl
      simp only [results, hres]
      go_simp
    exact ⟨rfl, ho2⟩
  | some n =>
    obtain ⟨q, hq, -⟩ := at_some hM ha; have HC := Lib.hid (fun (W : World) (h : Off [] w W) => dat_some p G D path W (hM.off h (by simp) (by simp)) hs hi q hq); clear hM hs hi ha hq
    go_enter Tryz.func92, Tryz.ntmps92
    go_wp2_with fail
    have hB := Blk.new w 164 #[.bool false, .int .i64 0]; have hof := (Off.refl [] w).alloc (.cells #[.bool false, .int .i64 0] 164); refine (HC.out _ hof).mono ?_; rintro e w1 ⟨rfl, ho⟩; have hB := hB.off ho (by simp); have ho := hof.trans_nil ho; have hc := hB.cell; have hf := hB.frozen; have hl := hB.lt; clear hof
    go_wp2_with fail
    have hB2 := (hB.set_ 0 (.bool true)).set_ 1 (.int .i64 72); have ho2 := (ho.setCell (p := ⟨w.heap.size, 0, none⟩) (.inl (Nat.le_refl _)) (.bool true)).setCell (p := ⟨w.heap.size, 1, none⟩) (.inl (Nat.le_refl _)) (.int .i64 72); have hc2 := hB2.cell; clear hB hB2 ho hc hf hl; refine bodyPost_ret (v := .agg #[.bool true, .int .i64 72]) ?_ rfl ?_
    · have hres : Tryz.f92.results = #[.cell 4 164] := rfl
      simp only [results, hres]
      go_simp
    exact ⟨rfl, ho2⟩
def RsnsAt (w : World) (g : Nat) (l : List (Bool × Int)) : Prop := g < w.heap.size ∧ ∀ (j : Nat) (x : Bool × Int), l[j]? = some x → w.cell? ⟨g, j * 2, none⟩ = some (.bool x.1) ∧ w.cell? ⟨g, j * 2 + 1, none⟩ = some (.int .i64 x.2)
theorem RsnsAt.off {w w' : World} {g : Nat} {l : List (Bool × Int)} (h : RsnsAt w g l) (ho : Off [] w w') : RsnsAt w' g l :=
  ⟨Nat.lt_of_lt_of_le h.1 ho.size, fun j x hj => ⟨(ho.cell (p := ⟨g, j * 2, none⟩) h.1 (by simp)).trans (h.2 j x hj).1, (ho.cell (p := ⟨g, j * 2 + 1, none⟩) h.1 (by simp)).trans (h.2 j x hj).2⟩⟩
set_option maxRecDepth 100000 in
set_option maxHeartbeats 4000000 in
theorem dfirst_any (g c n : Nat) (l : List (Bool × Int)) (w : World) (h : RsnsAt w g l) (hn : l.length = n) (hb : n ≤ 1000000) :
    Calls Tryz.prog 87 #[.slice (some ⟨g, 0, none⟩) n c] w fun e w' => e = .returned (.int .i64 (firstE l)) ∧ Off [] w w' := by
  have HN := Lib.hid hn; have HR := Lib.hid h; obtain ⟨v, hv⟩ : ∃ v, firstE l = v := ⟨_, rfl⟩
  have HV := Lib.hid hv; rw [hv]; clear hn h hv
  go_enter Tryz.func87, Tryz.ntmps87
  go_wp2_with fail
  go_loopw [7] (fun x wr => ∃ i : Nat, x = .int .i64 i ∧ i ≤ n ∧ Off [] w wr ∧ Hid (firstE (l.drop i) = v)) (fun x _ => n - (intOf x).toNat)
  case atStart => exact ⟨0, rfl, by omega, Off.refl _ _, HV⟩
  case round =>
    obtain ⟨i, rfl, hi, ho, HD⟩ := hrel
    by_cases hlt : i < n
    · have hil : i < l.length := by rw [HN.out]; exact hlt
      have hx := List.getElem?_eq_getElem hil; obtain ⟨h1, h2⟩ := (HR.out.off ho).2 i _ hx; have hgl := (HR.out.off ho).1; have hd := HD.out; rw [List.drop_eq_getElem_cons hil] at hd; generalize l[i] = x at *; obtain ⟨b, e⟩ := x; simp only [firstE] at hd; clear hx
      cases b
      · have HD2 := Lib.hid (show firstE (l.drop (i + 1)) = v by simpa using hd)
        clear hd HD
        go_wp2_with fail
        exact ⟨⟨i + 1, by congr 1, by omega, (ho.alloc _).trans_nil (by first | exact Off.refl _ _), HD2⟩, by simp only [intOf]; omega⟩
      obtain rfl : e = v := by simpa using hd
      clear HD
      go_wp2_with fail
      go_ret
      exact ⟨rfl, ho.alloc _⟩
    obtain rfl : i = n := by omega
    have hv : 0 = v := by
      rw [← HD.out, List.drop_eq_nil_of_le (by rw [HN.out]; exact Nat.le_refl _)]; rfl
    subst hv; clear HD HV
    go_wp2_with fail
    go_ret
    exact ⟨rfl, ho⟩
end
section
open Go.RowKit Go.Op Go.Maps
set_option maxRecDepth 100000 in
set_option maxHeartbeats 4000000 in
theorem lastB_big (s : ByteArray) (w : World) (hs : s.size ≤ 9223372036854775807) :
    Calls Tryz.prog 306 #[.string s, .int .u8 47] w fun e w' => e = .returned (.int .i64 (Lib.lastIndexByte s 47)) ∧ w = w' := by
  go_enter Tryz.func306, Tryz.ntmps306
  go_wp2
  go_loop [5] (fun x => ∃ k : Nat, k ≤ s.size ∧ x = .int .i64 ((k : Int) - 1) ∧ Hid (Lib.lastIndexByte s 47 = Lib.lastIdx s 47 k)) (fun x => (intOf x + 1).toNat)
  case atStart => exact ⟨s.size, Nat.le_refl _, by first | rfl | go_num | (congr 1; omega), Lib.hid rfl⟩
  case round =>
    obtain ⟨k, hk, rfl, hh⟩ := hrel; have hat : ∀ j : Nat, (hj : j < s.size) → s.data[j]! = s[j] := fun j hj => by rw [getElem!_pos s.data j (by simpa using hj)]; rfl
    go_wp2
    · have hc : (((s[k - 1]).toNat : Int) == 47) = true := by assumption
      have k1 : 1 ≤ k := by omega
      have e1 : Lib.lastIdx s 47 k = ((k - 1 : Nat) : Int) := by
        have := Lib.lastIdx_hit s 47 (k - 1) (by rw [hat (k - 1) (by omega)]; simpa using hc)
        rwa [show k - 1 + 1 = k by omega] at this
      have e2 : ((k - 1 : Nat) : Int) = (k : Int) - 1 := by omega
      go_ret
      rw [hh.out, e1, e2]; exact ⟨rfl, rfl⟩
    · have hc : (((s[k - 1]).toNat : Int) == 47) = false := by assumption
      have k1 : 1 ≤ k := by omega
      have e1 : Lib.lastIdx s 47 k = Lib.lastIdx s 47 (k - 1) := by
        have := Lib.lastIdx_miss s 47 (k - 1) (by rw [hat (k - 1) (by omega)]; simpa using hc)
        rwa [show k - 1 + 1 = k by omega] at this
      refine ⟨⟨k - 1, by omega, by congr 1; omega, Lib.hid (hh.out.trans e1)⟩, ?_⟩
      simp [intOf]; omega
    have k0 : k = 0 := by omega
    subst k0
    go_ret
    rw [hh.out]; exact ⟨rfl, rfl⟩
set_option maxRecDepth 100000 in
theorem lastIdx_big (s : ByteArray) (w : World) (hs : s.size ≤ 9223372036854775807) : Calls Tryz.prog 220 #[.string s, .int .u8 47] w fun e w' => e = .returned (.int .i64 (Lib.lastIndexByte s 47)) ∧ w = w' := by
  go_enter Tryz.func220, Tryz.ntmps220
  go_wp2_with fail
  refine (lastB_big s w hs).mono ?_
  rintro e w1 ⟨rfl, rfl⟩
  go_wp2_with fail
  go_ret
  exact ⟨rfl, rfl⟩
set_option maxRecDepth 100000 in
theorem parent_big (s : ByteArray) (w : World) (hs : s.size ≤ 9223372036854775807) (hT : Tabs w) :
    Calls Tryz.prog 143 #[.string s] w fun e w' => e = .returned (.string (bs (parent (str s)))) ∧ Off [] w w' := by
  rcases last_cases s with ⟨h, hn⟩ | ⟨i, h, hi, hc, hn⟩
  · have e1 : bs (parent (str s)) = ⟨#[]⟩ := by
      unfold parent; rw [parts_clean _ hn]; split <;> rfl
    have H := Lib.hid h; have E := Lib.hid e1; clear h e1
    go_enter Tryz.func143, Tryz.ntmps143
    go_wp2_with fail
    refine (lastIdx_big s _ hs).mono ?_
    rintro e w1 ⟨rfl, e1⟩; subst e1; rw [H.out]
    go_wp2_with fail
    go_ret
    exact ⟨by rw [E.out]; rfl, Off.refl _ _⟩
  have H := Lib.hid h; have HC := Lib.hid hc; clear h hc; have c1 : (0 : Int) ≤ ↑i := by omega
  have c2 : (↑i : Int) ≤ ↑s.size := by omega
  cases hk : okPath (str s)
  · have e1 : bs (parent (str s)) = ⟨#[]⟩ := by unfold parent; rw [hk]; rfl
    have HK := Lib.hid hk; have E := Lib.hid e1; clear hk e1
    go_enter Tryz.func143, Tryz.ntmps143
    go_wp2_with fail
    refine (lastIdx_big s _ (by omega)).mono ?_
    rintro e w1 ⟨rfl, e1⟩; subst e1; rw [H.out]
    go_wp2_with fail
    refine (path_any s _ hT).mono ?_
    rintro e w2 ⟨rfl, ho⟩; rw [HK.out]
    go_wp2_with fail
    go_ret
    exact ⟨by rw [E.out]; rfl, ho⟩
  have e1 : bs (parent (str s)) = s.extract 0 i := by
    apply str_inj
    unfold parent; rw [hk, str_bs, if_pos rfl, parts_last HC.out hn, List.dropLast_concat, joinP_parts, str_extract]; simp
  have HK := Lib.hid hk; have E := Lib.hid e1; clear hk e1
  go_enter Tryz.func143, Tryz.ntmps143
  go_wp2_with fail
  refine (lastIdx_big s _ (by omega)).mono ?_
  rintro e w1 ⟨rfl, e1⟩; subst e1; rw [H.out]
  go_wp2_with fail
  refine (path_any s _ hT).mono ?_
  rintro e w2 ⟨rfl, ho⟩; rw [HK.out]
  go_wp2_with fail
  go_ret
  exact ⟨by rw [E.out]; rfl, ho⟩
theorem dparent_big (p : Nat) (G : Geo) (D : PDisk) (path : ByteArray) (w : World) (hM : DiskM w p G D) (hs : path.size ≤ 9223372036854775807) (hi : ∀ x, lookN D.names x ≤ 4611686018427387904) (hT : Tabs w) :
    Calls Tryz.prog 85 #[.pointer (some ⟨p, 0, none⟩), .string path] w fun e w' => e = .returned (rsn (D.parentE path)) ∧ Off [] w w' := by
  unfold PDisk.parentE rsn; obtain ⟨v, hv⟩ : ∃ v, D.dir (bs (parent (str path))) = v := ⟨_, rfl⟩
  have HP := Lib.hid (fun (W : World) (h : Off [] w W) => parent_big path W hs (hT.off h)); have HD := Lib.hid (fun (W : World) (h : Off [] w W) => ddir_v p G D (bs (parent (str path))) W (hM.off h (by simp) (by simp)) (Nat.le_trans (bs_parent_size path) (Nat.le_trans hs (by decide))) (hi _) v hv); rw [hv]; generalize bs (parent (str path)) = u at HP HD; clear hv hT hM hs hi
  go_enter Tryz.func85, Tryz.ntmps85
  go_wp2_with fail
  have hB := Blk.new w 164 #[.bool false, .int .i64 0]; have hof := (Off.refl [] w).alloc (.cells #[.bool false, .int .i64 0] 164); refine (HP.out _ hof).mono ?_; rintro e w1 ⟨rfl, ho⟩; have hB := hB.off ho (by simp); have hof := hof.trans_nil ho; clear ho
  go_wp2_with fail
  refine (HD.out _ hof).mono ?_
  rintro e w2 ⟨rfl, ho⟩; have hB := hB.off ho (by simp); have ho := hof.trans_nil ho; have hc := hB.cell; have hf := hB.frozen; have hl := hB.lt; clear hof
  go_wp2_with fail
  have hB2 := (hB.set_ 0 (.bool (!v))).set_ 1 (.int .i64 62); have ho2 := (ho.setCell (p := ⟨w.heap.size, 0, none⟩) (.inl (Nat.le_refl _)) (.bool (!v))).setCell (p := ⟨w.heap.size, 1, none⟩) (.inl (Nat.le_refl _)) (.int .i64 62); have hc2 := hB2.cell; clear hB hB2 ho hc hf hl; refine bodyPost_ret (v := .agg #[.bool (!v), .int .i64 62]) ?_ rfl ?_
  · have hres : Tryz.f85.results = #[.cell 4 164] := rfl
    simp only [results, hres]
    go_simp
  exact ⟨rfl, ho2⟩
end
section
open Go.RowKit Go.Op Go.Maps
theorem DiskP.addIno {w w' : World} {G : Geo} {D : PDisk} {k : List Nat} {q : Nat} {n : Ino} (h : DiskP w G D) (ho : Off k w w') (hk : ∀ b ∈ G.parts, b ∈ k → b = G.ib)
    (hI : IMat w' G.ib (G.qs ++ [q])) (hB : Blk w' q 159 (inoCells n)) (hq : w.heap.size ≤ q) : DiskP w' { G with qs := G.qs ++ [q] } { D with inos := D.inos ++ [n] } := by
  have ne : ∀ b ∈ G.parts, b ≠ G.ib → b ∉ k := fun b hb hne hm => hne (hk b hb hm)
  have hib := h.ino.isMap; have r1 : ∀ b ∈ G.rest, b ∈ G.parts := fun b hb => List.mem_cons_of_mem _ hb
  exact {
    names := h.names.off ho (ne _ (List.mem_cons_self ..) (Ne.symm h.apart.1))
    safe := h.safe.off ho (fun x hx => ne x (r1 _ (mem_rest.2 (.inl hx))) (fun e => h.apart.2.1 (by subst e; simpa using hx)))
    later := own_offk h.later ho (fun x hx => ne x (r1 _ (mem_rest.2 (.inr (.inr (.inr (.inr (.inl hx))))))) (by obtain ⟨cs, hb⟩ := own_blks h.later x hx; exact Ne.symm (hib.ne hb)))
    lbl := h.lbl
    laters := fun i b l h1 h2 => (h.laters i b l h1 h2).off ho (ne b (r1 _ (mem_rest.2 (.inr (.inr (.inl (List.mem_of_getElem? h1)))))) (fun e => h.apart.2.2 (by subst e; exact List.mem_of_getElem? h1)))
    ino := hI
    qsl := by simp [h.qsl]
    inos := fun i r x h1 h2 => by
      rw [List.getElem?_append] at h1 h2; have := h.qsl
      split at h1
      · rename_i hlt
        rw [if_pos (by omega)] at h2; have hb := h.inos i r x h1 h2; exact hb.off ho (ne r (r1 _ (mem_rest.2 (.inr (.inr (.inr (.inl (List.mem_of_getElem? h1))))))) (Ne.symm (hib.ne hb)))
      rename_i hge
      rw [if_neg (by omega)] at h2; have e1 : i - G.qs.length = 0 := by
        have := (List.getElem?_eq_some_iff.1 h1).1; simp at this; omega
      have e2 : i - D.inos.length = 0 := by omega
      rw [e1] at h1; rw [e2] at h2; simp at h1 h2; subst h1; subst h2; exact hB
    nodup := by
      rw [List.nodup_append]; refine ⟨h.nodup, by simp, fun a ha b hb => ?_⟩; simp at hb; subst hb; have := h.lt (r1 _ (mem_rest.2 (.inr (.inr (.inr (.inl ha)))))); omega
    trace := own_offk h.trace ho (fun x hx => ne x (r1 _ (mem_rest.2 (.inr (.inr (.inr (.inr (.inr (.inl hx)))))))) (by obtain ⟨cs, hb⟩ := own_blks h.trace x hx; exact Ne.symm (hib.ne hb)))
    fates := h.fates.off ho (fun x hx => ne x (r1 _ (mem_rest.2 (.inr (.inr (.inr (.inr (.inr (.inr hx)))))))) (by obtain ⟨t, cs, hb, hW⟩ := h.fbl x hx; exact Ne.symm (hib.ne hb)))
    fbl := fun g hg => by
      obtain ⟨t, cs, hb, hW⟩ := h.fbl g hg; exact ⟨t, cs, hb.off ho (ne g (r1 _ (mem_rest.2 (.inr (.inr (.inr (.inr (.inr (.inr hg)))))))) (Ne.symm (hib.ne hb))), hW⟩
    apart := h.apart }
theorem IMat.add {w : World} {b q : Nat} {qs : List Nat} (h : IMat w b qs) (hl : qs.length ≤ 1152921504606846976) :
    ∃ w', (Instr.mapUpdate 123 (.map (some b)) (.int .i64 (qs.length + 1)) (.pointer (some ⟨q, 0, none⟩))).run Tryz.prog w = .ok () w' ∧ IMat w' b (qs ++ [q]) ∧ w.grownBy w' (some b) := by
  obtain ⟨D, hD, hs, h1, h2⟩ := h; have hwf : (Lit.int .i64 ((qs.length : Int) + 1)).wf = true := WalkArith.wf_i64 (by omega)
  obtain ⟨w', hrun, hown, hg⟩ := hD.update intK Tryz.underlying123 (by unfold maxLen; omega) (keyOf_int_mk Tryz.underlying3 hwf) (ptrElem_some q); exact ⟨w', hrun, IMat.put hD hs h1 h2 q hown, hg⟩
set_option maxRecDepth 100000 in
set_option maxHeartbeats 4000000 in
theorem dmake_any (p : Nat) (G : Geo) (D : PDisk) (n : Node) (t : Int) (b : Bool) (w : World) (hM : DiskM w p G D) (hl : D.inos.length ≤ 1152921504606846976) :
    Calls Tryz.prog 62 #[.pointer (some ⟨p, 0, none⟩), .agg #[.string n.path, .int .i64 n.kind, .string n.data, .int .i64 n.mode], .int .i64 t, .bool b] w fun e w' => e = .returned (.int .i64 (D.inos.length + 1)) ∧
      ∃ q, DiskM w' p { G with qs := G.qs ++ [q] } (D.make n t b) ∧ Off [p, G.ib] w w' ∧ w.heap.size ≤ q := by
  have HM := Lib.hid hM; have hc := hM.blk.cell; have hf := hM.blk.frozen; have hlt := hM.blk.lt; unfold diskCells at hc; obtain ⟨L, hL⟩ : ∃ L, D.inos.length = L := ⟨_, rfl⟩
  have HL := Lib.hid hL; have hI := hM.parts.ino.off (k := []) (((Off.refl [] w).alloc (.cells #[.string n.path, .int .i64 n.kind, .string n.data, .int .i64 n.mode] 105)).alloc (.cells #[.string n.path, .int .i64 n.kind, .string n.data, .int .i64 n.mode, .int .i64 t, .bool b] 159)).drew (by simp); obtain ⟨w2, hrun, hI2, hg⟩ := hI.add (q := w.heap.size + 1) (by rw [hM.parts.qsl]; exact hl)
  rw [hM.parts.qsl, hL] at hrun; rw [hL] at hc hl ⊢; have HI2 := Lib.hid hI2; have HG := Lib.hid hg; clear hI hI2 hg hM hL
  go_enter Tryz.func62, Tryz.ntmps62
  go_wp2_with fail
  go_region
  have hpi : p ≠ G.ib := Ne.symm (HM.out.parts.ino.isMap.ne HM.out.blk)
  have hB2 : Blk w2 p 126 (diskCells G D) := (((HM.out.blk.alloc _).alloc _).drew).grown HG.out (by simpa using hpi)
  have hN2 : Blk w2 (w.heap.size + 1) 159 (inoCells ⟨n, t, b⟩) := (Blk.new1 w _ _ _).drew.grown HG.out (by have := HM.out.parts.ino.lt; simp; omega)
  have HB := Lib.hid hB2; have HN := Lib.hid hN2; have hc2 := hB2.cell; have hf2 := hB2.frozen; have hl2 := hB2.lt; unfold diskCells at hc2; rw [HL.out] at hc2
  have HO : Hid (Off [p, G.ib] w (w2.setCell ⟨p, 4, none⟩ (.int .i64 (L + 1 + 1)))) := Lib.hid (((((Off.refl [p, G.ib] w).alloc _).alloc _).drew.grown HG.out (fun k hk => by cases hk; exact .inr (by simp))).setCell (p := ⟨p, 4, none⟩) (.inr (by simp)) _)
  have HO2 := Lib.hid (show Off [G.ib] w w2 from (((Off.refl [G.ib] w).alloc _).alloc _).drew.grown HG.out (fun k hk => by cases hk; exact .inr (by simp))); clear hB2 hN2 hc hf hlt hrun hpi HG
  go_wp2_with fail
  go_ret
  refine ⟨by congr 2, w.heap.size + 1, ⟨?_, ?_⟩, HO.out, by omega⟩
  · have := HB.out.set_ 4 (.int .i64 (L + 1 + 1))
    unfold diskCells at this ⊢
    simpa [PDisk.make, HL.out] using this
  have h1 := HM.out.parts.addIno (q := w.heap.size + 1) (n := ⟨n, t, b⟩) HO2.out (fun x _ hx => by simpa using hx) HI2.out HN.out (by omega); have hp := HM.out.far; refine h1.off (k := [p]) ((Off.refl [p] w2).setCell (.inr (by simp)) _) (fun x hx hm => ?_); simp at hm; subst hm; have h2 := h1.far HB.out (by decide); exact h2 hx
end
section
open Go.RowKit Go.Op Go.Maps
set_option maxRecDepth 100000 in
set_option maxHeartbeats 2000000 in
theorem mclone_any (b : Nat) (l : NameL) (w : World) (h : NMat w b l) :
    Calls Tryz.prog 63 #[.map (some b)] w fun e w' => e = .returned (.map (some w.heap.size)) ∧ NMat w' w.heap.size l ∧ Off [] w w' := by
  have hlt := h.lt; obtain ⟨hA, D, hD, hr⟩ := h; obtain ⟨es, clock, hb, F, hs, hE⟩ := hD; have HR := Lib.hid (show NMat (w.alloc (.map es clock)) w.heap.size l from ⟨hA, D, ⟨es, clock, (MapKept.heap_alloc w _).1, F, hs, hE⟩, hr⟩); have hq := fun w => run_eql_map_nil_sl (P := Tryz.prog) w 122 _ _ (some b) Tryz.underlying122
  clear F hs hE hA hr
  go_enter Tryz.func63, Tryz.ntmps63
  go_wp2_with fail
  rw [run_callFunc_extern Tryz.func144 (by kernel_rfl) (by kernel_rfl) (by kernel_rfl) (e := Extern.MapsClone.clone) (by kernel_rfl), run_maps_clone_sl w 122 hb]; simp only [Result.andThen]; rw [Oper.upon_value]
  go_wp2_with fail
  rw [run_typeAssert_map_sl _ 122 20 _ _ _ Tryz.underlying122]; simp only [Result.andThen]; rw [Oper.upon_value]
  go_wp2_with fail
  go_ret
  exact ⟨rfl, HR.out, (Off.refl _ _).alloc _⟩
def TurnP (p m : Nat) (G : Geo) (D1 : PDisk) (W : World) (e : Ending) (W' : World) : Prop :=
  e = .returned (.tuple #[]) ∧ ∃ G', G'.nb = m ∧ G'.sb = G.sb ∧ DiskM W' p G' D1 ∧ m ∉ G'.rest ∧ Off (p :: m :: G.rest) W W' ∧ ∀ b ∈ G'.rest, b ∈ G.rest ∨ W.heap.size ≤ b
theorem infoNames : (Tryz.prog.info? 122).map (fun i => (i.zero, i.size, i.bytes)) = some (some (.map none), 1, 8) := by kernel_rfl
theorem DiskP.named {w w' : World} {G : Geo} {D : PDisk} {k : List Nat} {m : Nat} {l : NameL} (h : DiskP w G D) (ho : Off k w w') (hk : ∀ b ∈ G.rest, b ∉ k) (hN : NMat w' m l) (hm : m ∉ G.rest) : DiskP w' { G with nb := m } { D with names := l } where
  names := hN
  safe := h.safe.off ho (fun x hx => hk x (mem_rest.2 (.inl hx)))
  later := own_offk h.later ho (fun x hx => hk x (mem_rest.2 (.inr (.inr (.inr (.inr (.inl hx)))))))
  lbl := h.lbl
  laters := fun i b l h1 h2 => (h.laters i b l h1 h2).off ho (hk b (mem_rest.2 (.inr (.inr (.inl (List.mem_of_getElem? h1))))))
  ino := h.ino.off ho (hk _ (mem_rest.2 (.inr (.inl rfl))))
  qsl := h.qsl
  inos := fun i q n h1 h2 => (h.inos i q n h1 h2).off ho (hk q (mem_rest.2 (.inr (.inr (.inr (.inl (List.mem_of_getElem? h1)))))))
  nodup := h.nodup
  trace := own_offk h.trace ho (fun x hx => hk x (mem_rest.2 (.inr (.inr (.inr (.inr (.inr (.inl hx))))))))
  fates := h.fates.off ho (fun x hx => hk x (mem_rest.2 (.inr (.inr (.inr (.inr (.inr (.inr hx))))))))
  fbl := fun g hg => by
    obtain ⟨t, cs, hB, hW⟩ := h.fbl g hg; exact ⟨t, cs, hB.off ho (hk g (mem_rest.2 (.inr (.inr (.inr (.inr (.inr (.inr hg)))))))), hW⟩
  apart := ⟨fun e => hm (mem_rest.2 (.inr (.inl (by exact e.symm)))), h.apart.2⟩
theorem DiskP.pushed {w w' : World} {G : Geo} {D : PDisk} {lv : Value} {k : List Nat} (h : DiskP w G D) (ho : Off k w w') (hk : ∀ b ∈ k, b ∈ G.parts → b ∈ G.lv.ownBlock.toList)
    (hv : w'.ownsRow 0 122 1 lv (D.later.length + 1) ((G.lb.map fun b => .map (some b)) ++ [.map (some G.nb)])) :
    DiskP w' { G with lv := lv, lb := G.lb ++ [G.nb] } { D with later := D.later ++ [D.names] } := by
  have hl : ∀ b ∈ k, b ∈ G.parts → ∃ cs, Blk w b 122 cs := fun b hb hp => own_blks h.later b (hk b hb hp)
  have mp : ∀ b ∈ G.parts, IsMapB w b → b ∉ k := fun b hb hm hin => by
    obtain ⟨cs, hB⟩ := hl b hin hb; exact hm.ne hB rfl
  have ty : ∀ b ∈ G.parts, ∀ t cs, Blk w b t cs → t ≠ 122 → b ∉ k := fun b hb t cs hB ht hin => by
    obtain ⟨cs', hB'⟩ := hl b hin hb; exact hB.ne_ hB' ht rfl
  have r1 : ∀ b ∈ G.rest, b ∈ G.parts := fun b hb => List.mem_cons_of_mem _ hb
  exact {
    names := h.names.off ho (mp _ (List.mem_cons_self ..) h.names.isMap)
    safe := h.safe.off ho (fun x hx => mp x (r1 _ (mem_rest.2 (.inl hx))) (by
      have := h.safe
      cases hs : G.sb with
      | none => rw [hs] at hx; simp at hx
      | some s =>
        rw [hs] at hx this; simp at hx; subst hx; exact NMat.isMap this))
    later := by
      show w'.ownsRow 0 122 1 lv (D.later ++ [D.names]).length ((G.lb ++ [G.nb]).map fun b => .map (some b))
      rw [List.length_append, List.map_append]; exact hv
    lbl := by simp [h.lbl]
    laters := fun i b l h1 h2 => by
      rw [List.getElem?_append] at h1 h2; have hll := h.lbl
      split at h1
      · rename_i hlt
        rw [if_pos (by omega)] at h2; have hN := h.laters i b l h1 h2; exact hN.off ho (mp b (r1 _ (mem_rest.2 (.inr (.inr (.inl (List.mem_of_getElem? h1)))))) hN.isMap)
      rename_i hge
      rw [if_neg (by omega)] at h2; have e1 : i - G.lb.length = 0 := by
        have := (List.getElem?_eq_some_iff.1 h1).1; simp at this; omega
      have e2 : i - D.later.length = 0 := by omega
      rw [e1] at h1; rw [e2] at h2; simp at h1 h2; subst h1; subst h2; exact h.names.off ho (mp _ (List.mem_cons_self ..) h.names.isMap)
    ino := h.ino.off ho (mp _ (r1 _ (mem_rest.2 (.inr (.inl rfl)))) h.ino.isMap)
    qsl := h.qsl
    inos := fun i q n h1 h2 => by
      have hB := h.inos i q n h1 h2; exact hB.off ho (ty q (r1 _ (mem_rest.2 (.inr (.inr (.inr (.inl (List.mem_of_getElem? h1))))))) _ _ hB (by decide))
    nodup := h.nodup
    trace := own_offk h.trace ho (fun x hx => by
      obtain ⟨cs, hB⟩ := own_blks h.trace x hx; exact ty x (r1 _ (mem_rest.2 (.inr (.inr (.inr (.inr (.inr (.inl hx)))))))) _ _ hB (by decide))
    fates := h.fates.off ho (fun x hx => by
      obtain ⟨t, cs, hB, hW⟩ := h.fbl x hx; exact ty x (r1 _ (mem_rest.2 (.inr (.inr (.inr (.inr (.inr (.inr hx)))))))) _ _ hB (hW.ne (by decide)))
    fbl := fun g hg => by
      obtain ⟨t, cs, hB, hW⟩ := h.fbl g hg; exact ⟨t, cs, hB.off ho (ty g (r1 _ (mem_rest.2 (.inr (.inr (.inr (.inr (.inr (.inr hg)))))))) _ _ hB (hW.ne (by decide))), hW⟩
    apart := ⟨h.apart.1, h.apart.2.1, fun hm => by
      rcases List.mem_append.1 hm with hm | hm
      · exact h.apart.2.2 hm
      simp at hm; exact h.apart.1 hm⟩ }
end
section
open Go.RowKit Go.Op Go.Maps
theorem dchg_end {w W w2 w3 : World} {p k gg cap : Nat} {G G' : Geo} {D D1 : PDisk} {o : Obj} (hM : DiskM w p G D) (hOS : Off [p] w W) (hM2 : DiskM w2 p G' D1) (hO2 : Off (p :: w.heap.size :: G.rest) W w2) (hP2 : ∀ b ∈ G'.rest, b ∈ G.rest ∨ W.heap.size ≤ b) (hnb : G'.nb = w.heap.size)
    (hg : (w2.alloc o).drew.grownBy w3 G'.lv.ownBlock) (hown : w3.ownsRow 0 122 1 (.slice (some ⟨gg, 0, none⟩) (k + 1) cap) (k + 1) ((G'.lb.map fun b => .map (some b)) ++ [.map (some G'.nb)])) (hat : G'.lv.ownBlock = some gg ∨ gg = w2.heap.size + 1) (hK : D1.later.length = k) (hsb : G'.sb.isSome = true) :
    DiskTo w p G.parts (w3.setCell ⟨p, 2, none⟩ (.slice (some ⟨gg, 0, none⟩) (k + 1) cap)) { D1 with later := D1.later ++ [D1.names] } := by
  have hlr : ∀ b ∈ G'.lv.ownBlock.toList, b ∈ G'.rest := fun b hb => mem_rest.2 (.inr (.inr (.inr (.inr (.inl hb)))))
  have ho3 : Off G'.lv.ownBlock.toList w2 w3 := ((Off.refl _ w2).alloc o).drew.grown hg (fun x hx => .inr (by rw [hx]; simp))
  have hP := hM2.parts.pushed (lv := .slice (some ⟨gg, 0, none⟩) (k + 1) cap) ho3 (fun b hb _ => hb) (by rw [hK]; exact hown); have hpl : p ∉ G'.lv.ownBlock.toList := fun h => hM2.far (List.mem_cons_of_mem _ (hlr p h))
  have hB3 := hM2.blk.off ho3 hpl; have hOW : Off (p :: G.parts) w w2 := by
    refine (hOS.mono (fun x _ h => by simp at h; subst h; exact List.mem_cons_self ..)).trans hO2 (fun x hx h => ?_)
    simp only [List.mem_cons] at h
    rcases h with rfl | rfl | h
    · exact List.mem_cons_self ..
    · omega
    exact List.mem_cons_of_mem _ (List.mem_cons_of_mem _ h)
  have hOW3 : Off (p :: G.parts) w w3 := hOW.trans ho3 (fun x hx h => by
    rcases hP2 x (hlr x h) with h | h
    · exact List.mem_cons_of_mem _ (List.mem_cons_of_mem _ h)
    have := hOS.size; omega)
  refine ⟨_, ⟨?_, hP.off (k := [p]) ((Off.refl [p] w3).setCell (.inr (by simp)) _) (fun b hb h => ?_)⟩, hOW3.setCell (.inr (by simp)) _, fun b hb => ?_, hsb⟩
  · have := hB3.set_ 2 (.slice (some ⟨gg, 0, none⟩) (k + 1) cap)
    unfold diskCells at this ⊢
    simpa using this
  · simp at h
    subst h; exact hP.far hB3 (by decide) hb
  have hsz := hOS.size; have hsz2 := hOW.size; have key : b ∈ G'.rest ∨ b = G'.nb ∨ b = gg := by
    rcases List.mem_cons.1 hb with rfl | hb
    · exact .inr (.inl rfl)
    rcases mem_rest.1 hb with hb | hb | hb | hb | hb | hb | hb
    · exact .inl (mem_rest.2 (.inl hb))
    · exact .inl (mem_rest.2 (.inr (.inl hb)))
    · rcases List.mem_append.1 hb with hb | hb
      · exact .inl (mem_rest.2 (.inr (.inr (.inl hb))))
      simp at hb; exact .inr (.inl hb)
    · exact .inl (mem_rest.2 (.inr (.inr (.inr (.inl hb)))))
    · simp [Value.ownBlock] at hb; exact .inr (.inr hb)
    · exact .inl (mem_rest.2 (.inr (.inr (.inr (.inr (.inr (.inl hb)))))))
    exact .inl (mem_rest.2 (.inr (.inr (.inr (.inr (.inr (.inr hb)))))))
  have old : ∀ b ∈ G'.rest, b ∈ G.parts ∨ w.heap.size ≤ b := fun b hb => by
    rcases hP2 b hb with h | h
    · exact .inl (List.mem_cons_of_mem _ h)
    exact .inr (Nat.le_trans hsz h)
  rcases key with h | rfl | rfl
  · exact old b h
  · exact .inr (by omega)
  rcases hat with h | h
  · exact old b (hlr b (by rw [h]; simp))
  exact .inr (by omega)
set_option maxRecDepth 100000 in
set_option maxHeartbeats 8000000 in
theorem dchange_any (p : Nat) (G : Geo) (D D1 : PDisk) (g : Nat) (cb : Array Value) (w : World) (hM : DiskM w p G D) (hsb : G.sb.isSome = true) (hl : D1.later.length ≤ 1000000000)
    (eg : ∀ args w, (callFunc g args).run Tryz.prog w = .ok (.enter g args) w)
    (hturn : ∀ W : World, DiskM W p { G with nb := w.heap.size } D → Off [p] w W → Calls Tryz.prog g (#[.map (some w.heap.size)] ++ cb) W (TurnP p w.heap.size G D1 W)) :
    Calls Tryz.prog 90 #[.pointer (some ⟨p, 0, none⟩), .func (.func g) #[] cb] w fun e w' => e = .returned (.tuple #[]) ∧ DiskTo w p G.parts w' { D1 with later := D1.later ++ [D1.names] } := by
  obtain ⟨i0, hi, hz0, hz1, hz2⟩ := info_parts infoNames; have HM := Lib.hid hM; have HT := Lib.hid hturn; have hc := hM.blk.cell; have hf := hM.blk.frozen; have hlt := hM.blk.lt; have HC := Lib.hid (mclone_any G.nb D.names w hM.parts.names); unfold diskCells at hc; clear hM hturn
  go_enter Tryz.func90, Tryz.ntmps90
  go_wp2_with fail
  refine HC.out.mono ?_
  rintro e w1 ⟨rfl, hN, ho⟩; have hB1 := HM.out.blk.off ho (by simp); have hc1 := hB1.cell; have hf1 := hB1.frozen; have hl1 := hB1.lt; unfold diskCells at hc1; have hrl : w.heap.size ∉ G.rest := fun h => Nat.lt_irrefl _ (HM.out.parts.lt (List.mem_cons_of_mem _ h))
  have hoS : Off [p] w (w1.setCell ⟨p, 0, none⟩ (.map (some w.heap.size))) := (ho.mono (fun x _ h => by simp at h)).setCell (p := ⟨p, 0, none⟩) (.inr (by simp)) _
  have hM1 : DiskM (w1.setCell ⟨p, 0, none⟩ (.map (some w.heap.size))) p { G with nb := w.heap.size } D := by
    have hS : Off [p] w1 (w1.setCell ⟨p, 0, none⟩ (.map (some w.heap.size))) := (Off.refl [p] w1).setCell (p := ⟨p, 0, none⟩) (.inr (by simp)) _
    refine ⟨?_, ?_⟩
    · have := hB1.set_ 0 (.map (some w.heap.size))
      unfold diskCells at this ⊢
      simpa using this
    have hfar := HM.out.far; refine HM.out.parts.named hoS (fun b hb h => ?_) (hN.off hS ?_) hrl
    · simp at h; subst h; exact hfar (List.mem_cons_of_mem _ hb)
    intro h; simp at h; omega
  have HM1 := Lib.hid hM1; have HOS := Lib.hid hoS; have HRL := Lib.hid hrl; clear hN hrl hoS hM1 hc hf hlt HC
  go_wp2_with fail
  refine (HT.out _ HM1.out HOS.out).mono ?_
  rintro e w2 ⟨rfl, G', hnb, hsb2, hM2, hm2, ho2, hp2⟩; have HSB := Lib.hid (show G'.sb.isSome = true by rw [hsb2]; exact hsb); have HM2 := Lib.hid hM2; have HO2 := Lib.hid ho2; have HP2 := Lib.hid hp2; have HNB := Lib.hid hnb; have hc2 := hM2.blk.cell; have hf2 := hM2.blk.frozen; have hl2 := hM2.blk.lt; unfold diskCells at hc2
  have hpl : some p ≠ G'.lv.ownBlock := fun e => HM2.out.far (List.mem_cons_of_mem _ (mem_rest.2 (.inr (.inr (.inr (.inr (.inl (by rw [← e]; simp))))))))
  have HPL := Lib.hid hpl; have hown : (w2.alloc (.cells #[.map (some G'.nb)] 122)).drew.ownsRow 0 122 1 G'.lv D1.later.length (G'.lb.map fun b => .map (some b)) :=
    own_offk (k := []) hM2.parts.later (((Off.refl [] w2).alloc _).drew) (by simp)
  obtain ⟨k, hk⟩ : ∃ k, D1.later.length = k := ⟨_, rfl⟩
  have HK := Lib.hid hk; rw [hk] at hown hl; have HW := Lib.hid hown; clear hM2 ho2 hp2 hm2 hc1 hf1 hl1 hB1 HM1 hpl hk hnb hown hsb2 hsb
  go_wp2_with fail
  go_region_law ((refine step_append_lies _ (by rfl) _ _ _ (by rfl) 0 122 i0 (.map none) 1 8 Tryz.underlying124 hi hz0 hz1 hz2 rfl (by decide) _ k _ (by rfl) HW.out ⟨w2.heap.size, 0, none⟩ 1 1 [_] (by rfl) (by rfl) (cell_one_at (Blk.new w2 _ _)) (by simp [Value.oneCell']) (by omega) (by unfold maxLen; omega) (by omega) (by simp) (w2.heap.size + 1) (by simp) ?_; intro gg cap w3 hown3 hgrow3 hat3 hlt3; have hB3 := ((HM2.out.blk.alloc _).drew).grown hgrow3 HPL.out; have hc3 := hB3.cell; have hf3 := hB3.frozen; unfold diskCells at hc3))
  go_wp2_with fail
  all_goals refine bodyPost_end (results_none rfl _ _ _) rfl ?_
  all_goals exact ⟨rfl, dchg_end HM.out HOS.out HM2.out HO2.out HP2.out HNB.out (by assumption) (by assumption) (by assumption) HK.out HSB.out⟩
end
section
open Go.RowKit Go.Op Go.Maps
theorem NMat.add {w : World} {b : Nat} {l : NameL} (h : NMat w b l) (hl : l.length ≤ 1000000000) (p : ByteArray) (hp : p.size ≤ maxLen) (x : Int) (i : Nat) (hx : x = i) (hi : i ≤ 4611686018427387904) :
    ∃ w', (Instr.mapUpdate 122 (.map (some b)) (.string p) (.int .i64 x)).run Tryz.prog w = .ok () w' ∧ NMat w' b (putN l p i) ∧ w.grownBy w' (some b) := by
  subst hx; obtain ⟨ha, D, hD, hs, hr⟩ := h; have hwf : (Lit.int .i64 (i : Int)).wf = true := WalkArith.wf_i64 (by omega)
  obtain ⟨w', hrun, hown, hg⟩ := hD.update strK Tryz.underlying122 (by unfold maxLen; omega) (WideMaps.keyOf_string_mk Tryz.underlying9 hp) (plainElem_int Tryz.underlying3 hwf); exact ⟨w', hrun, NMat.put ha hD hs hr p i hown, hg⟩
theorem turn_end {W wA wU : World} {p m q : Nat} {G : Geo} {D : PDisk} {n : Node} {t : Int} {b : Bool} {path : ByteArray} (hM : DiskM W p { G with nb := m } D) (hm : m ∉ G.rest)
    (hMA : DiskM wA p { { G with nb := m } with qs := G.qs ++ [q] } (D.make n t b)) (hoA : Off [p, G.ib] W wA) (hq : W.heap.size ≤ q) (hNU : NMat wU m (putN D.names path (D.inos.length + 1))) (hgU : wA.grownBy wU (some m)) :
    TurnP p m G { (D.make n t b) with names := putN D.names path (D.inos.length + 1) } W (.returned (.tuple #[])) wU := by
  have hmW := hM.parts.names.lt; have hmr : m ∉ ({ { G with nb := m } with qs := G.qs ++ [q] } : Geo).rest := by
    intro h
    rcases mem_rest.1 h with h | h | h | h | h | h | h
    · exact hm (mem_rest.2 (.inl h))
    · exact hm (mem_rest.2 (.inr (.inl h)))
    · exact hm (mem_rest.2 (.inr (.inr (.inl h))))
    · rcases List.mem_append.1 h with h | h
      · exact hm (mem_rest.2 (.inr (.inr (.inr (.inl h)))))
      simp at h; dsimp only at hmW; omega
    · exact hm (mem_rest.2 (.inr (.inr (.inr (.inr (.inl h))))))
    · exact hm (mem_rest.2 (.inr (.inr (.inr (.inr (.inr (.inl h)))))))
    exact hm (mem_rest.2 (.inr (.inr (.inr (.inr (.inr (.inr h)))))))
  have hU : Off [m] wA wU := (Off.refl [m] wA).grown hgU (fun k hk => by cases hk; exact .inr (by simp))
  have hpm : p ≠ m := fun e => hM.far (by rw [e]; exact List.mem_cons_self ..)
  refine ⟨rfl, { { G with nb := m } with qs := G.qs ++ [q] }, rfl, rfl, ⟨hMA.blk.off hU (by simpa using hpm), hMA.parts.named hU (fun x hx h => ?_) hNU hmr⟩, hmr, ?_, fun x hx => ?_⟩
  · simp at h; subst h; exact hmr hx
  · refine (hoA.mono (fun x _ h => ?_)).trans hU (fun x _ h => ?_)
    · simp at h
      rcases h with rfl | rfl
      · exact List.mem_cons_self ..
      exact List.mem_cons_of_mem _ (List.mem_cons_of_mem _ (mem_rest.2 (.inr (.inl rfl))))
    simp at h; subst h; exact List.mem_cons_of_mem _ (List.mem_cons_self ..)
  rcases mem_rest.1 hx with h | h | h | h | h | h | h
  · exact .inl (mem_rest.2 (.inl h))
  · exact .inl (mem_rest.2 (.inr (.inl h)))
  · exact .inl (mem_rest.2 (.inr (.inr (.inl h))))
  · rcases List.mem_append.1 h with h | h
    · exact .inl (mem_rest.2 (.inr (.inr (.inr (.inl h)))))
    simp at h; subst h; exact .inr hq
  · exact .inl (mem_rest.2 (.inr (.inr (.inr (.inr (.inl h))))))
  · exact .inl (mem_rest.2 (.inr (.inr (.inr (.inr (.inr (.inl h)))))))
  exact .inl (mem_rest.2 (.inr (.inr (.inr (.inr (.inr (.inr h)))))))
set_option maxRecDepth 100000 in
set_option maxHeartbeats 8000000 in
theorem layc_any (p m gd gn gp : Nat) (G : Geo) (D : PDisk) (path : ByteArray) (n : Node) (W : World) (hM : DiskM W p { G with nb := m } D) (hm : m ∉ G.rest) (hl : D.inos.length ≤ 1152921504606846976) (hn : D.names.length ≤ 1000000000) (hs : path.size ≤ maxLen)
    (hd : Blk W gd 37 #[.pointer (some ⟨p, 0, none⟩)]) (hnd : Blk W gn 105 #[.string n.path, .int .i64 n.kind, .string n.data, .int .i64 n.mode]) (hp : Blk W gp 9 #[.string path]) :
    Calls Tryz.prog 168 #[.map (some m), .pointer (some ⟨gd, 0, none⟩), .pointer (some ⟨gn, 0, none⟩), .pointer (some ⟨gp, 0, none⟩)] W
      (TurnP p m G { (D.make n D.clock (decide (n.kind = 1))) with names := putN D.names path (D.inos.length + 1) } W) := by
  have HM := Lib.hid hM; have HMM := Lib.hid hm; have HS := Lib.hid hs; have HN := Lib.hid hn; have HL := Lib.hid hl; have hcd := hd.cell; have hcn := hnd.cell; have hcp := hp.cell; have HP := Lib.hid hp; have hld := hd.lt; have hln := hnd.lt; have hlp := hp.lt; have hc := hM.blk.cell; unfold diskCells at hc; clear hM hm hs hn hl
  go_enter Tryz.func168, Tryz.ntmps168
  go_wp2_with fail
  have HMd := Lib.hid HM.out.drew; have HP0 := Lib.hid hp.drew; have HD0 := Lib.hid hd.drew; have HN0 := Lib.hid hnd.drew
  have hS : (∀ i, W.drew.cell? ⟨gp, i, none⟩ = (#[.string path] : Array Value)[i]?) ∧ (∀ i, W.drew.cell? ⟨gd, i, none⟩ = (#[.pointer (some ⟨p, 0, none⟩)] : Array Value)[i]?) ∧ (∀ i, W.drew.cell? ⟨gn, i, none⟩ = (#[.string n.path, .int .i64 n.kind, .string n.data, .int .i64 n.mode] : Array Value)[i]?) ∧ W.drew.cell? ⟨p, 6, none⟩ = some (.int .i64 D.clock) :=
    ⟨hp.drew.cell, hd.drew.cell, hnd.drew.cell, by have := HM.out.drew.blk.cell 6; simpa [diskCells] using this⟩
  have KEEP := Lib.hid (show ∀ (wA wU : World) (q : Nat), DiskM wA p { { G with nb := m } with qs := G.qs ++ [q] } (D.make n D.clock (decide (n.kind = 1))) → Off [p, G.ib] W.drew wA → wA.grownBy wU (some m) →
      ((∀ i, wA.cell? ⟨gp, i, none⟩ = (#[.string path] : Array Value)[i]?) ∧ (∀ i, wA.cell? ⟨gd, i, none⟩ = (#[.pointer (some ⟨p, 0, none⟩)] : Array Value)[i]?) ∧ (∀ i, wA.cell? ⟨gn, i, none⟩ = (#[.string n.path, .int .i64 n.kind, .string n.data, .int .i64 n.mode] : Array Value)[i]?) ∧ wA.cell? ⟨p, 6, none⟩ = some (.int .i64 D.clock)) ∧
      (∀ i, wU.cell? ⟨gp, i, none⟩ = (#[.string path] : Array Value)[i]?) ∧ (∀ i, wU.cell? ⟨gd, i, none⟩ = (#[.pointer (some ⟨p, 0, none⟩)] : Array Value)[i]?) ∧ (∀ i, wU.cell? ⟨gn, i, none⟩ = (#[.string n.path, .int .i64 n.kind, .string n.data, .int .i64 n.mode] : Array Value)[i]?) ∧ wU.cell? ⟨p, 6, none⟩ = some (.int .i64 D.clock) from
    fun wA wU q hMA hoA hgU => by
      have hib := HMd.out.parts.ino.isMap; have hmb := HMd.out.parts.names.isMap; have nb : ∀ {g : Nat} {t : TypeId} {cs : Array Value}, Blk W.drew g t cs → t ≠ 126 → g ∉ [p, G.ib] ∧ some g ≠ some m := fun {g t cs} hB ht => ⟨fun h => by
        simp at h
        rcases h with rfl | rfl
        · exact hB.ne_ HMd.out.blk ht rfl
        exact hib.ne hB rfl, fun e => hmb.ne hB (by injection e with e; exact e.symm)⟩
      have h1 := HP0.out.off hoA (nb HP0.out (by decide)).1; have h2 := HD0.out.off hoA (nb HD0.out (by decide)).1; have h3 := HN0.out.off hoA (nb HN0.out (by decide)).1; have h4 : some p ≠ some m := fun e => hmb.ne HMd.out.blk (by injection e with e; exact e.symm)
      have h5 := hMA.blk.grown hgU h4; refine ⟨⟨h1.cell, h2.cell, h3.cell, ?_⟩, (h1.grown hgU (nb HP0.out (by decide)).2).cell, (h2.grown hgU (nb HD0.out (by decide)).2).cell, (h3.grown hgU (nb HN0.out (by decide)).2).cell, ?_⟩
      · have := hMA.blk.cell 6
        simpa [diskCells, PDisk.make] using this
      have := h5.cell 6
      simpa [diskCells, PDisk.make] using this)
  clear hcd hcn hcp hc hd hnd hp hld hln hlp
  go_region_held3 (fun w' => (∀ i, w'.cell? ⟨gp, i, none⟩ = (#[.string path] : Array Value)[i]?) ∧ (∀ i, w'.cell? ⟨gd, i, none⟩ = (#[.pointer (some ⟨p, 0, none⟩)] : Array Value)[i]?) ∧ (∀ i, w'.cell? ⟨gn, i, none⟩ = (#[.string n.path, .int .i64 n.kind, .string n.data, .int .i64 n.mode] : Array Value)[i]?) ∧ w'.cell? ⟨p, 6, none⟩ = some (.int .i64 D.clock)) (first | assumption) ((go_at_call 62; refine (dmake_any p _ D n _ _ _ HMd.out HL.out).mono ?_; rintro e wA ⟨rfl, q, hMA, hoA, hq⟩; obtain ⟨wU, hrunU, hNU, hgU⟩ := hMA.parts.names.add HN.out path HS.out (D.inos.length + 1) (D.inos.length + 1) (by simp) (by have := HL.out; omega); obtain ⟨hSA, hSU⟩ := KEEP.out wA wU q hMA hoA hgU))
  go_wp2_with fail
  refine bodyPost_end (results_none rfl _ _ _) rfl ?_
  exact turn_end HM.out HMM.out hMA ((Off.refl _ W).drew.trans hoA (fun _ _ h => h)) hq hNU hgU
theorem turn_names {W wU : World} {p m : Nat} {G : Geo} {D : PDisk} {l : NameL} (hM : DiskM W p { G with nb := m } D) (hm : m ∉ G.rest) (hN : NMat wU m l) (hU : Off [m] W wU) :
    TurnP p m G { D with names := l } W (.returned (.tuple #[])) wU := by
  have hpm : p ≠ m := fun e => hM.far (by rw [e]; exact List.mem_cons_self ..)
  refine ⟨rfl, { G with nb := m }, rfl, rfl, ⟨hM.blk.off hU (by simpa using hpm), hM.parts.named hU (fun x hx h => ?_) hN hm⟩, hm, ?_, fun x hx => .inl hx⟩
  · simp at h; subst h; exact hm hx
  exact hU.mono (fun x _ h => by simp at h; subst h; exact List.mem_cons_of_mem _ (List.mem_cons_self ..))
end
section
open Go.RowKit Go.Op Go.Maps
def rsnCells (l : List (Bool × Int)) : List Value := l.flatMap fun x => [.bool x.1, .int .i64 x.2]
theorem rsnCells_len (l : List (Bool × Int)) : (rsnCells l).length = l.length * 2 := by
  unfold rsnCells
  induction l with
  | nil => rfl
  | cons x l ih => simp only [List.flatMap_cons, List.length_append, ih, List.length_cons, List.length_nil]; omega
theorem rsnCells_at : ∀ (l : List (Bool × Int)) (j : Nat) (x : Bool × Int), l[j]? = some x → (rsnCells l)[j * 2]? = some (.bool x.1) ∧ (rsnCells l)[j * 2 + 1]? = some (.int .i64 x.2)
  | [], j, x, h => by simp at h
  | y :: l, 0, x, h => by
    simp at h
    subst h; exact ⟨rfl, rfl⟩
  | y :: l, j + 1, x, h => by
    have := rsnCells_at l j x (by simpa using h); have e : rsnCells (y :: l) = [.bool y.1, .int .i64 y.2] ++ rsnCells l := rfl
    rw [e, List.getElem?_append_right (by simp; omega), List.getElem?_append_right (by simp; omega)]; simp only [List.length_cons, List.length_nil]; rw [show (j + 1) * 2 - (0 + 1 + 1) = j * 2 by omega, show (j + 1) * 2 + 1 - (0 + 1 + 1) = j * 2 + 1 by omega]; exact this
theorem rsnCells_snoc (l : List (Bool × Int)) (x : Bool × Int) : rsnCells (l ++ [x]) = rsnCells l ++ [.bool x.1, .int .i64 x.2] := by simp [rsnCells]
theorem rsnCells_one (l : List (Bool × Int)) : ∀ u ∈ rsnCells l, u.oneCell' = true := by
  intro u hu
  unfold rsnCells at hu; obtain ⟨x, _, hx⟩ := List.mem_flatMap.1 hu; simp at hx
  rcases hx with rfl | rfl <;> rfl
def Rsns (w : World) (g : Nat) (l : List (Bool × Int)) : Prop := Blk w g 164 (rsnCells l).toArray
theorem Rsns.at_ {w : World} {g : Nat} {l : List (Bool × Int)} (h : Rsns w g l) : RsnsAt w g l :=
  ⟨Blk.lt h, fun j x hj => by
    obtain ⟨h1, h2⟩ := rsnCells_at l j x hj; exact ⟨(Blk.cell h _).trans (by simpa using h1), (Blk.cell h _).trans (by simpa using h2)⟩⟩
theorem Rsns.cells {w : World} {g : Nat} {l : List (Bool × Int)} (h : Rsns w g l) : ∀ b, some (⟨g, 0, none⟩ : Addr) = some b → ∀ j u, (rsnCells l)[j]? = some u → w.cell? (b.add j) = some u := by
  intro b hb j u hj
  cases hb
  rw [addr_add, Blk.cell h]
  simpa using hj
theorem Rsns.off {w w' : World} {g : Nat} {l : List (Bool × Int)} (h : Rsns w g l) (ho : Off [] w w') : Rsns w' g l := Blk.off h ho (by simp)
theorem rsns_own {w : World} {base n : Nat} {v : Value} {l : List (Bool × Int)} (h : w.ownsRow base 164 2 v n (rsnCells l)) (hpos : 0 < n) : ∃ g cap, v = .slice (some ⟨g, 0, none⟩) n cap ∧ RsnsAt w g l := by
  obtain ⟨hl, h⟩ := h
  rcases h with ⟨_, h0⟩ | ⟨g, cap, cur, rfl, _, hh, _, _, _, ht⟩
  · omega
  have hB : Blk w g 164 cur := hh
  refine ⟨g, cap, rfl, Blk.lt hB, fun j x hj => ?_⟩
  obtain ⟨h1, h2⟩ := rsnCells_at l j x hj; have key : ∀ (i : Nat) (u : Value), (rsnCells l)[i]? = some u → cur[i]? = some u := fun i u hu => by
    rw [← ht, List.getElem?_take] at hu
    split at hu
    · simpa using hu
    cases hu
  exact ⟨(hB.cell _).trans (key _ _ h1), (hB.cell _).trans (key _ _ h2)⟩
theorem infoRsn : (Tryz.prog.info? 164).map (fun i => (i.zero, i.size, i.bytes)) = some (some (.agg #[.bool false, .int .i64 0]), 2, 16) := by kernel_rfl
theorem cell_two_at {w : World} {g : Nat} {t : TypeId} {x y : Value} (h : Blk w g t #[x, y]) : ∀ j u, [x, y][j]? = some u → w.cell? ((⟨g, 0, none⟩ : Addr).add j) = some u := by
  intro j u hj
  rw [addr_add, h.cell]
  simpa using hj
theorem LAYEN : ∀ args w, (callFunc 168 args).run Tryz.prog w = .ok (.enter 168 args) w := enters_of Tryz.func168 (by kernel_rfl) rfl
theorem layc_turn (p m gd gn gp : Nat) (G : Geo) (D : PDisk) (path : ByteArray) (n : Node) (W : World) (hM : DiskM W p { G with nb := m } D) (hm : m ∉ G.rest) (hl : D.inos.length ≤ 1152921504606846976) (hn : D.names.length ≤ 1000000000) (hs : path.size ≤ maxLen)
    (hd : Blk W gd 37 #[.pointer (some ⟨p, 0, none⟩)]) (hnd : Blk W gn 105 #[.string n.path, .int .i64 n.kind, .string n.data, .int .i64 n.mode]) (hp : Blk W gp 9 #[.string path]) :
    Calls Tryz.prog 168 (#[.map (some m)] ++ #[.pointer (some ⟨gd, 0, none⟩), .pointer (some ⟨gn, 0, none⟩), .pointer (some ⟨gp, 0, none⟩)]) W
      (TurnP p m G { (D.make n D.clock (decide (n.kind = 1))) with names := putN D.names path (D.inos.length + 1) } W) := by
  have h := layc_any p m gd gn gp G D path n W hM hm hl hn hs hd hnd hp; have e : (#[.map (some m)] ++ #[.pointer (some ⟨gd, 0, none⟩), .pointer (some ⟨gn, 0, none⟩), .pointer (some ⟨gp, 0, none⟩)] : Array Value) = #[.map (some m), .pointer (some ⟨gd, 0, none⟩), .pointer (some ⟨gn, 0, none⟩), .pointer (some ⟨gp, 0, none⟩)] := by simp
  rw [e]; exact h
set_option maxRecDepth 100000 in
set_option maxHeartbeats 8000000 in
theorem dlay_any (p g k : Nat) (G : Geo) (D : PDisk) (path : ByteArray) (n : Node) (full : Bool) (l : List (Bool × Int)) (w : World) (hM : DiskM w p G D) (hsb : G.sb.isSome = true) (hR : Rsns w g l) (hk : l.length = k) (hkb : k ≤ 1000) (hi : D.inos.length ≤ 1152921504606846976) (hn : D.names.length ≤ 1000000000) (hl : D.later.length ≤ 1000000000) (hs : path.size ≤ maxLen) :
    Calls Tryz.prog 86 #[.pointer (some ⟨p, 0, none⟩), .string path, .agg #[.string n.path, .int .i64 n.kind, .string n.data, .int .i64 n.mode], .bool full, .slice (some ⟨g, 0, none⟩) k k] w fun e w' =>
      e = .returned (.int .i64 (D.lay path n full l).1) ∧ DiskTo w p G.parts w' (D.lay path n full l).2 := by
  obtain ⟨i0, hi0, hz0, hz1, hz2⟩ := info_parts infoRsn; obtain ⟨b, hb⟩ : ∃ b, (full || decide (1000 ≤ D.names.length)) = b := ⟨_, rfl⟩
  have HM := Lib.hid hM; have HR := Lib.hid hR; have HK := Lib.hid hk; have HB := Lib.hid hb; have HI := Lib.hid hi; have HN := Lib.hid hn; have HL := Lib.hid hl; have HS := Lib.hid hs; have hrl : (rsnCells l).length = k * 2 := by rw [rsnCells_len, hk]
  have HRL := Lib.hid hrl; have HRO := Lib.hid (rsnCells_one l); have HPL := Lib.hid hM.blk.lt; obtain ⟨E, hE⟩ : ∃ E, firstE (l ++ [(b, 71)]) = E := ⟨_, rfl⟩
  have HE := Lib.hid hE
  have hW := Lib.hid (show DiskM (((w.alloc (.cells #[.pointer (some ⟨p, 0, none⟩)] 37)).alloc (.cells #[.string path] 9)).alloc (.cells #[.string n.path, .int .i64 n.kind, .string n.data, .int .i64 n.mode] 105)) p G D ∧ Rsns (((w.alloc (.cells #[.pointer (some ⟨p, 0, none⟩)] 37)).alloc (.cells #[.string path] 9)).alloc (.cells #[.string n.path, .int .i64 n.kind, .string n.data, .int .i64 n.mode] 105)) g l from
    ⟨((hM.alloc _).alloc _).alloc _, ((hR.off ((Off.refl _ _).alloc _)).off ((Off.refl _ _).alloc _)).off ((Off.refl _ _).alloc _)⟩)
  obtain ⟨L, hL⟩ : ∃ L, D.names.length = L := ⟨_, rfl⟩
  have HLN := Lib.hid hL; have hN1 : L ≤ 1000000000 := by omega
  clear hM hR hk hi hn hl hs hrl hb hE hL
  go_enter Tryz.func86, Tryz.ntmps86
  go_upto_region 1 with fail
  refine code_gen (fun W => DiskM W p G D ∧ Rsns W g l ∧ Blk W w.heap.size 37 #[.pointer (some ⟨p, 0, none⟩)] ∧ Blk W (w.heap.size + 1) 9 #[.string path] ∧ Blk W (w.heap.size + 1 + 1) 105 #[.string n.path, .int .i64 n.kind, .string n.data, .int .i64 n.mode] ∧ Off [] w W)
    ⟨hW.out.1, hW.out.2, ((Blk.new w 37 _).alloc _).alloc _, (Blk.new1 w _ _ _).alloc _, Blk.new2 w _ _ _ _, (((Off.refl _ _).alloc _).alloc _).alloc _⟩ ?_
  rintro W ⟨hM, hR, hbd, hbp, hbn, hof⟩; have HMW := Lib.hid hM; have HRW := Lib.hid hR; have HBP := Lib.hid hbp; have HBD := Lib.hid hbd; have HBN := Lib.hid hbn; have HOF := Lib.hid hof; have hcd := hbd.cell; have hc := hM.blk.cell; have hlen : ∀ ty, (Builtin.len_ #[122] ty #[.map (some G.nb)]).run Tryz.prog W = .ok (.int .i64 L) W := fun ty => by rw [← HLN.out]; exact hM.parts.names.len ty
  unfold diskCells at hc; clear hM hR hbp hbn hof hW hbd
  go_cut [11] from 12 to 25 (fun s wx => s = .int .i64 E ∧ Off [] W wx)
  case first =>
    cases full
    · by_cases h : 1000 ≤ L
      · have hb : b = true := by rw [← HB.out, HLN.out, decide_eq_true h]; rfl
        have h' : (1000 : Int) ≤ L := by omega
        have hE : firstE (l ++ [(true, 71)]) = E := by rw [← hb]; exact HE.out
        have HE2 := Lib.hid hE; clear hE hb HB HE
        go_wp2_with (at_builtin; refine wpList_append_grows _ rfl _ _ 166 rfl 164 i0 _ 2 16 Tryz.underlying166 hi0 hz0 hz1 hz2 rfl (by decide) (some ⟨g, 0, none⟩) k k (rsnCells l) rfl (by intro h; cases h) HRL.out (HRW.out.off ((Off.refl _ _).alloc _)).cells ⟨W.heap.size, 0, none⟩ 1 1 [.bool true, .int .i64 71] rfl rfl (cell_two_at (Blk.new W _ _)) (by simp [Value.oneCell']) (by omega) (by unfold maxLen; omega) (by omega) ?_; intro v' w5 hown hgrow; obtain ⟨g5, c5, rfl, hR5⟩ := rsns_own (l := l ++ [(true, 71)]) (by rw [rsnCells_snoc]; exact hown) (by omega))
        refine (dfirst_any g5 c5 (k + 1) (l ++ [(true, 71)]) w5 hR5 (by rw [List.length_append, HK.out]; rfl) (by omega)).mono ?_
        rintro e w6 ⟨rfl, ho6⟩; rw [HE2.out]; have hx := ((((Off.refl [] W).alloc _).grown hgrow (fun k hk => by cases hk))).trans_nil ho6; clear hown hgrow ho6 hR5 hc hcd hlen
        go_wp2_with fail
        go_meet
        exact ⟨rfl, hx⟩
      have hb : b = false := by rw [← HB.out, HLN.out, decide_eq_false h]; rfl
      have h' : ¬ (1000 : Int) ≤ L := by omega
      have hE : firstE (l ++ [(false, 71)]) = E := by rw [← hb]; exact HE.out
      have HE2 := Lib.hid hE; clear hE hb HB HE
      go_wp2_with (at_builtin; refine wpList_append_grows _ rfl _ _ 166 rfl 164 i0 _ 2 16 Tryz.underlying166 hi0 hz0 hz1 hz2 rfl (by decide) (some ⟨g, 0, none⟩) k k (rsnCells l) rfl (by intro h; cases h) HRL.out (HRW.out.off ((Off.refl _ _).alloc _)).cells ⟨W.heap.size, 0, none⟩ 1 1 [.bool false, .int .i64 71] rfl rfl (cell_two_at (Blk.new W _ _)) (by simp [Value.oneCell']) (by omega) (by unfold maxLen; omega) (by omega) ?_; intro v' w5 hown hgrow; obtain ⟨g5, c5, rfl, hR5⟩ := rsns_own (l := l ++ [(false, 71)]) (by rw [rsnCells_snoc]; exact hown) (by omega))
      refine (dfirst_any g5 c5 (k + 1) (l ++ [(false, 71)]) w5 hR5 (by rw [List.length_append, HK.out]; rfl) (by omega)).mono ?_
      rintro e w6 ⟨rfl, ho6⟩; rw [HE2.out]; have hx := ((((Off.refl [] W).alloc _).grown hgrow (fun k hk => by cases hk))).trans_nil ho6; clear hown hgrow ho6 hR5 hc hcd hlen
      go_wp2_with fail
      go_meet
      exact ⟨rfl, hx⟩
    have hb : b = true := by rw [← HB.out]; rfl
    have hE : firstE (l ++ [(true, 71)]) = E := by rw [← hb]; exact HE.out
    have HE2 := Lib.hid hE; clear hE hb HB HE
    go_wp2_with (at_builtin; refine wpList_append_grows _ rfl _ _ 166 rfl 164 i0 _ 2 16 Tryz.underlying166 hi0 hz0 hz1 hz2 rfl (by decide) (some ⟨g, 0, none⟩) k k (rsnCells l) rfl (by intro h; cases h) HRL.out (HRW.out.off ((Off.refl _ _).alloc _)).cells ⟨W.heap.size, 0, none⟩ 1 1 [.bool true, .int .i64 71] rfl rfl (cell_two_at (Blk.new W _ _)) (by simp [Value.oneCell']) (by omega) (by unfold maxLen; omega) (by omega) ?_; intro v' w5 hown hgrow; obtain ⟨g5, c5, rfl, hR5⟩ := rsns_own (l := l ++ [(true, 71)]) (by rw [rsnCells_snoc]; exact hown) (by omega))
    refine (dfirst_any g5 c5 (k + 1) (l ++ [(true, 71)]) w5 hR5 (by rw [List.length_append, HK.out]; rfl) (by omega)).mono ?_
    rintro e w6 ⟨rfl, ho6⟩; rw [HE2.out]; have hx := ((((Off.refl [] W).alloc _).grown hgrow (fun k hk => by cases hk))).trans_nil ho6; clear hown hgrow ho6 hR5 hc hcd hlen
    go_wp2_with fail
    go_meet
    exact ⟨rfl, hx⟩
  case rest =>
    obtain ⟨rfl, hox⟩ := hcut; have hbd := HBD.out.off hox (by simp); have hcd := hbd.cell; have HLAY := Lib.hid (show D.lay path n full l = if E ≠ 0 then (E, D) else (0, (D.make n D.clock (decide (n.kind = 1))).change (putN D.names path (D.inos.length + 1))) by
      unfold PDisk.lay; rw [HB.out, HE.out])
    have hM2 := HMW.out.off hox (by simp) (by simp); have HM2 := Lib.hid hM2; have HOW := Lib.hid (HOF.out.trans_nil hox); have hlt := hbd.lt; clear hc hlen hM2
    by_cases h0 : E = 0
    · subst h0
      have HL2 := Lib.hid (show D.lay path n full l = (0, (D.make n D.clock (decide (n.kind = 1))).change (putN D.names path (D.inos.length + 1))) by rw [HLAY.out]; simp); clear HLAY
      go_wp2_with fail
      have HTN := Lib.hid (fun (W1 : World) (hW1 : DiskM W1 p { G with nb := wc.heap.size } D) (ho1 : Off [p] wc W1) => layc_turn p wc.heap.size w.heap.size (w.heap.size + 1 + 1) (w.heap.size + 1) G D path n W1 hW1 (fun h => Nat.lt_irrefl _ (HM2.out.parts.lt (List.mem_cons_of_mem _ h))) HI.out HN.out HS.out ((HBD.out.off hox (by simp)).off ho1 (by have := HPL.out; simp; omega)) ((HBN.out.off hox (by simp)).off ho1 (by have := HPL.out; simp; omega)) ((HBP.out.off hox (by simp)).off ho1 (by have := HPL.out; simp; omega)))
      refine (dchange_any p G D { (D.make n D.clock (decide (n.kind = 1))) with names := putN D.names path (D.inos.length + 1) } 168 #[.pointer (some ⟨w.heap.size, 0, none⟩), .pointer (some ⟨w.heap.size + 1 + 1, 0, none⟩), .pointer (some ⟨w.heap.size + 1, 0, none⟩)] wc HM2.out hsb HL.out LAYEN HTN.out).mono ?_
      rintro e w7 ⟨rfl, hT⟩
      go_wp2_with fail
      go_ret
      rw [HL2.out]; refine ⟨rfl, DiskTo.next (HOW.out.mono (fun x _ h => by simp at h)) (fun b hb => .inl hb) hT⟩
    have HL2 := Lib.hid (show D.lay path n full l = (E, D) by rw [HLAY.out, if_pos h0]); clear HLAY; have hne : (E == 0) = false := beq_eq_false_iff_ne.2 h0
    go_wp2_with fail
    go_ret
    rw [HL2.out]; exact ⟨rfl, DiskTo.next (HOW.out.mono (fun x _ h => by simp at h)) (fun b hb => .inl hb) (DiskTo.refl HM2.out hsb)⟩
end
section
open Go.RowKit Go.Op Go.Maps
def crashN (D : PDisk) (f : FateP) : NameL := (D.crash f).names
theorem crashN_safe {D : PDisk} {f : FateP} (h : ¬ 0 < min f.keep D.later.length) : crashN D f = D.safe := by
  unfold crashN PDisk.crash; dsimp only
  split
  · rw [if_neg h]
  rfl
theorem crashN_later {D : PDisk} {f : FateP} (h : 0 < min f.keep (D.later.length : Int)) {l : NameL} (hl : D.later[(min f.keep (D.later.length : Int)).toNat - 1]? = some l) : crashN D f = l := by
  unfold crashN PDisk.crash; dsimp only; rw [hl]; simp only; rw [if_pos h]
def optPtr : Option Nat → Value | none => .pointer none | some b => .pointer (some ⟨b, 0, none⟩)
theorem ptrElem_shape {v : Value} {y : DataW Unit × List MemPlace} (h : ptrElem v = some y) : ∃ c, v = optPtr c := by
  unfold ptrElem at h
  split at h
  · exact ⟨none, rfl⟩
  · rename_i b
    exact ⟨some b, rfl⟩
  cases h
theorem int_shape {key : Value} {kl : Lit} (h : keyOf Tryz.prog 3 key = some kl) : ∃ x, key = Value.int .i64 x := by
  obtain ⟨x, rfl, _⟩ := keyOf_int_inv Tryz.underlying3 h; exact ⟨x, rfl⟩
theorem who_came {Dm : DataW Unit} {qs : List Nat} {x : Int} {c : Option Nat} {kl : Lit} {y : DataW Unit × List MemPlace}
    (h1 : ∀ (k q : Nat), qs[k]? = some q → has Dm (numL (k + 1)) = true ∧ Dm.atKey (numL (k + 1)) .nil = .lit (.int .i64 q)) (h2 : ∀ i : Int, (i < 1 ∨ (qs.length : Int) < i) → has Dm (numL i) = false)
    (hk : keyOf Tryz.prog 3 (.int .i64 x) = some kl) (hc : ptrElem (optPtr c) = some y) (hat : ∀ zd, Dm.atKey kl zd = y.1) :
    ∃ (i q : Nat), kl = numL (i + 1) ∧ qs[i]? = some q ∧ c = some q := by
  obtain ⟨x', hx', hkl, _⟩ := keyOf_int_inv Tryz.underlying3 hk
  cases hx'
  have hh := has_true_of_atKey hat; have hx : ¬ (x < 1 ∨ (qs.length : Int) < x) := fun h => by
    have := h2 x h; rw [hkl] at hh; rw [show Lit.int .i64 x = numL x from rfl, this] at hh
    cases hh
  have hlt : (x - 1).toNat < qs.length := by omega
  have hq := List.getElem?_eq_getElem hlt; have h3 := (h1 _ _ hq).2; rw [show (((x - 1).toNat : Nat) : Int) + 1 = x by omega] at h3; have h4 := hat .nil; rw [hkl, show Lit.int .i64 x = numL x from rfl, h3] at h4; refine ⟨(x - 1).toNat, qs[(x - 1).toNat], by rw [hkl, show (((x - 1).toNat : Nat) : Int) + 1 = x by omega]; rfl, hq, ?_⟩
  cases c with
  | none =>
    rw [show ptrElem (optPtr none) = some (.nil, []) from rfl] at hc
    cases hc
    cases h4
  | some b =>
    rw [show ptrElem (optPtr (some b)) = some (.lit (.int .i64 b), []) from rfl] at hc
    cases hc
    simp only [DataW.lit.injEq, Lit.int.injEq, true_and] at h4
    have := Int.ofNat_inj.1 h4; rw [this]
def crashCells (x ib : Nat) (n : Nat) (clock : Nat) (tv fv ev : Value) : Array Value :=
  #[.map (some x), .map (some x), .slice none 0 0, .map (some ib), .int .i64 (n + 1), .bool true, .int .i64 clock, tv, fv, ev]
theorem crash_end {w W2 w3 wr : World} {p sb x : Nat} {G : Geo} {D : PDisk} {f : FateP} (hM : DiskM w p G D) (hse : G.sb = some sb) (hx : (x = sb ∧ crashN D f = D.safe) ∨ ∃ i : Nat, G.lb[i]? = some x ∧ D.later[i]? = some (crashN D f))
    (hB : Blk W2 p 126 (crashCells x G.ib D.inos.length D.clock G.tv G.fv D.ev)) (h2 : Off [p] w W2) (hg : W2.grownBy w3 none) (h3 : Off (W2.heap.size :: G.qs) w3 wr)
    (hi : ∀ (i q : Nat) (m : Ino), G.qs[i]? = some q → D.inos[i]? = some m → Blk wr q 159 (inoCells (PDisk.tear f.torn m))) : DiskTo w p G.parts wr (D.crash f) := by
  have hP := hM.parts; have r1 : ∀ b ∈ G.rest, b ∈ G.parts := fun b hb => List.mem_cons_of_mem _ hb
  have hfar := hM.far; have ho : Off (p :: G.qs) w wr := by
    have h23 : Off [p] w w3 := h2.grown hg (fun k hk => by cases hk)
    refine (h23.mono (fun y _ h => by simp at h; subst h; exact List.mem_cons_self ..)).trans h3 (fun y hy h => ?_)
    rcases List.mem_cons.1 h with rfl | h
    · have := h2.size; omega
    exact List.mem_cons_of_mem _ h
  have hqs : ∀ q ∈ G.qs, ∃ cs, Blk w q 159 cs := fun q hq => by
    obtain ⟨i, hi', rfl⟩ := List.getElem_of_mem hq; have hl : i < D.inos.length := by rw [← hP.qsl]; exact hi'
    exact ⟨_, hP.inos i _ _ (List.getElem?_eq_getElem hi') (List.getElem?_eq_getElem hl)⟩
  have mp : ∀ b, IsMapB w b → b ∉ p :: G.qs := fun b hb h => by
    rcases List.mem_cons.1 h with rfl | h
    · exact hb.ne hM.blk rfl
    obtain ⟨cs, hB'⟩ := hqs b h; exact hb.ne hB' rfl
  have ty : ∀ b t cs, Blk w b t cs → t ≠ 126 ∧ t ≠ 159 → b ∉ p :: G.qs := fun b t cs hb ht h => by
    rcases List.mem_cons.1 h with rfl | h
    · exact hb.ne_ hM.blk ht.1 rfl
    obtain ⟨cs', hB'⟩ := hqs b h; exact hb.ne_ hB' ht.2 rfl
  have hN : NMat w x (crashN D f) := by
    rcases hx with ⟨rfl, h⟩ | ⟨i, h1, h2⟩
    · rw [h]
      have := hP.safe; rw [hse] at this; exact this
    exact hP.laters i x _ h1 h2
  have hNr : NMat wr x (crashN D f) := hN.off ho (mp x hN.isMap)
  have hxp : x ∈ G.parts := by
    rcases hx with ⟨rfl, _⟩ | ⟨i, h1, _⟩
    · exact r1 _ (mem_rest.2 (.inl (by rw [hse]; simp)))
    exact r1 _ (mem_rest.2 (.inr (.inr (.inl (List.mem_of_getElem? h1)))))
  have hxi : G.ib ≠ x := by
    rcases hx with ⟨rfl, _⟩ | ⟨i, h1, _⟩
    · intro e; exact hP.apart.2.1 (by rw [hse, e])
    intro e; exact hP.apart.2.2 (by rw [e]; exact List.mem_of_getElem? h1)
  have hBr : Blk wr p 126 (crashCells x G.ib D.inos.length D.clock G.tv G.fv D.ev) := by
    refine (hB.grown hg (by simp)).off h3 (fun h => ?_)
    rcases List.mem_cons.1 h with h | h
    · have := hB.lt; omega
    exact hfar (r1 _ (mem_rest.2 (.inr (.inr (.inr (.inl h))))))
  refine ⟨{ G with nb := x, sb := some x, lv := .slice none 0 0, lb := [] }, ⟨?_, ?_⟩, ?_, fun b hb => ?_, rfl⟩
  · show Blk wr p 126 #[.map (some x), .map (some x), .slice none 0 0, .map (some G.ib), .int .i64 ((D.inos.map (PDisk.tear f.torn)).length + 1), .bool true, .int .i64 D.clock, G.tv, G.fv, D.ev]
    rw [List.length_map]; exact hBr
  · exact {
      names := hNr
      safe := hNr
      later := World.ownsRow_nil wr 0 _ 1
      lbl := rfl
      laters := fun i b l h1 _ => by simp at h1
      ino := hP.ino.off ho (mp _ hP.ino.isMap)
      qsl := by
        show G.qs.length = (D.inos.map (PDisk.tear f.torn)).length
        rw [List.length_map]; exact hP.qsl
      inos := fun i q n h1 h2 => by
        have h2 : (D.inos.map (PDisk.tear f.torn))[i]? = some n := h2
        rw [List.getElem?_map] at h2; obtain ⟨m, hm, rfl⟩ := Option.map_eq_some_iff.1 h2; exact hi i q m h1 hm
      nodup := hP.nodup
      trace := own_offk hP.trace ho (fun b hb => by
        obtain ⟨cs, hB'⟩ := own_blks hP.trace b hb; exact ty b _ _ hB' (by decide))
      fates := hP.fates.off ho (fun b hb => by
        obtain ⟨t, cs, hB', hW⟩ := hP.fbl b hb; exact ty b _ _ hB' ⟨hW.ne (by decide), hW.ne (by decide)⟩)
      fbl := fun g hg => by
        obtain ⟨t, cs, hB', hW⟩ := hP.fbl g hg; exact ⟨t, cs, hB'.off ho (ty g _ _ hB' ⟨hW.ne (by decide), hW.ne (by decide)⟩), hW⟩
      apart := ⟨hxi, fun e => hxi (by injection e with e; exact e.symm), by simp⟩ }
  · refine ho.mono (fun y _ h => ?_)
    rcases List.mem_cons.1 h with rfl | h
    · exact List.mem_cons_self ..
    exact List.mem_cons_of_mem _ (r1 _ (mem_rest.2 (.inr (.inr (.inr (.inl h))))))
  left
  rcases List.mem_cons.1 hb with rfl | hb
  · exact hxp
  rcases mem_rest.1 hb with h | h | h | h | h | h | h
  · simp at h; subst h; exact hxp
  · exact r1 _ (mem_rest.2 (.inr (.inl h)))
  · simp at h
  · exact r1 _ (mem_rest.2 (.inr (.inr (.inr (.inl h)))))
  · simp [Value.ownBlock] at h
  · exact r1 _ (mem_rest.2 (.inr (.inr (.inr (.inr (.inr (.inl h)))))))
  exact r1 _ (mem_rest.2 (.inr (.inr (.inr (.inr (.inr (.inr h)))))))
theorem crash_step {w3 wr w4 w5 : World} {ib r n q i cnt cnt1 : Nat} {qs : List Nat} {inos : List Ino} {m : Ino} {torn : Int} {Dm : DataW Unit} {left : Lit → Bool}
    (hrel : wr.ranges Tryz.prog 3 ptrElem ib r n Dm left cnt) (hI : ∀ (i q : Nat) (m : Ino), qs[i]? = some q → inos[i]? = some m → Blk wr q 159 (inoCells (if left (numL (i + 1)) = true then m else PDisk.tear torn m)))
    (hg1 : wr.grownBy w4 (some r)) (hg5 : w4.grownBy w5 (some q)) (hq : qs[i]? = some q) (hm : inos[i]? = some m) (hB5 : Blk w5 q 159 (inoCells (PDisk.tear torn m)))
    (hrg1 : w4.ranges Tryz.prog 3 ptrElem ib r n Dm (fun z => left z && !z.sameKey (numL (i + 1))) cnt1) (hlt : cnt1 < cnt) (ho : Off (r :: qs) w3 wr) (hrq : ∀ q ∈ qs, q ≠ r) (hnd : qs.Nodup) :
    (∃ left cnt, w5.ranges Tryz.prog 3 ptrElem ib r n Dm left cnt ∧ Off (r :: qs) w3 w5 ∧ Hid (∀ (i q : Nat) (m : Ino), qs[i]? = some q → inos[i]? = some m → Blk w5 q 159 (inoCells (if left (numL (i + 1)) = true then m else PDisk.tear torn m)))) ∧
      w5.rangeLeft ib r < wr.rangeLeft ib r := by
  have hqm := List.mem_of_getElem? hq; have hB4 : ∃ cs, Blk w4 q 159 cs := ⟨_, (hI i q m hq hm).grown hg1 (by simpa using hrq q hqm)⟩
  obtain ⟨cs, hB4⟩ := hB4; have hib : IsMapB w4 ib := by
    obtain ⟨es, c, _, _, _, h, _⟩ := hrg1; exact ⟨es, c, h⟩
  have hrg5 := hrg1.kept hg5 (fun e => hib.ne hB4 (by injection e)) (fun e => hrq q hqm (by injection e with e; exact e.symm)); refine ⟨⟨_, _, hrg5, ?_, Lib.hid (fun j q' m' h1 h2 => ?_)⟩, by rw [hrg5.left_eq, hrel.left_eq]; exact hlt⟩
  · have h4 : Off (r :: qs) w3 w4 := ho.grown hg1 (fun k hk => by cases hk; exact .inr (List.mem_cons_self ..))
    exact h4.grown hg5 (fun k hk => by cases hk; exact .inr (List.mem_cons_of_mem _ hqm))
  by_cases hj : j = i
  · subst hj
    rw [hq] at h1; rw [hm] at h2
    cases h1; cases h2
    rw [WideAt.sameKey_self (isKey_num _)]
    simpa using hB5
  have hne : q' ≠ q := fun e => by
    subst e; have h3 := (List.getElem?_eq_some_iff.1 h1); have h4 := (List.getElem?_eq_some_iff.1 hq); have h5 := List.pairwise_iff_getElem.1 hnd
    rcases Nat.lt_or_ge j i with h | h
    · exact h5 j i h3.1 h4.1 h (by rw [h3.2, h4.2])
    exact h5 i j h4.1 h3.1 (by omega) (by rw [h3.2, h4.2])
  rw [sameKey_ne (fun e => hj (by have := numL_inj e; omega))]; have := hI j q' m' h1 h2; have h4 := (this.grown hg1 (by simpa using hrq q' (List.mem_of_getElem? h1))).grown hg5 (by simpa using hne)
  simpa using h4
theorem grownBy_set (w : World) (q o : Nat) (u : Value) : w.grownBy (w.setCell ⟨q, o, none⟩ u) (some q) :=
  ⟨rfl, rfl, rfl, by simp [World.setCell], fun i _ hi => Below.heap_setCell w ⟨q, o, none⟩ u i (fun e => hi (by rw [e]))⟩
theorem grownBy_tr {a b c : World} {q : Nat} (h : a.grownBy b (some q)) (k : b.grownBy c (some q)) : a.grownBy c (some q) :=
  ⟨k.os.trans h.os, k.tape.trans h.tape, k.output.trans h.output, Nat.le_trans h.size k.size, fun i hi hne => (k.block i (Nat.lt_of_lt_of_le hi h.size) hne).trans (h.block i hi hne)⟩
set_option maxRecDepth 100000 in
set_option maxHeartbeats 8000000 in
theorem dcrash_any (p : Nat) (G : Geo) (D : PDisk) (f : FateP) (w : World) (hM : DiskM w p G D) (hsb : G.sb.isSome = true) (hl : D.later.length ≤ 1000000000) (hi : D.inos.length ≤ 1152921504606846976) :
    Calls Tryz.prog 167 #[.pointer (some ⟨p, 0, none⟩), .agg #[.int .i64 f.at_, .int .i64 f.what, .int .i64 f.keep, .int .i64 f.torn]] w fun e w' => e = .returned (.tuple #[]) ∧ DiskTo w p G.parts w' (D.crash f) := by
  have HM := Lib.hid hM; have HSB := Lib.hid hsb; have HI := Lib.hid hi; obtain ⟨sb, hsbe⟩ := Option.isSome_iff_exists.1 hsb; have HSE := Lib.hid hsbe; obtain ⟨L, hL⟩ : ∃ L, D.later.length = L := ⟨_, rfl⟩
  have HL := Lib.hid hL; obtain ⟨pl, cl, hlv⟩ : ∃ pl cl, G.lv = .slice pl L cl := by
    rcases hM.parts.later.2 with ⟨h1, h2⟩ | ⟨g, cap, cur, h1, _⟩
    · exact ⟨none, 0, by rw [h1, ← hL, h2]⟩
    exact ⟨_, _, by rw [h1, hL]⟩
  have HLV := Lib.hid hlv; rw [hL] at hl; have hc := hM.blk.cell; have hf := hM.blk.frozen; have hlt := hM.blk.lt; unfold diskCells at hc; rw [hlv, hsbe] at hc; clear hM hsb hi hsbe hL hlv
  go_enter Tryz.func167, Tryz.ntmps167
  go_upto_region 2 with fail
  refine code_gen (fun W => Blk W p 126 ((diskCells G D).setIfInBounds 0 (.map (some sb))) ∧ Blk W w.heap.size 96 #[.int .i64 f.at_, .int .i64 f.what, .int .i64 f.keep, .int .i64 f.torn] ∧ Off [p] w W)
    ⟨(HM.out.blk.set_ 0 _).alloc _, by have := Blk.new (w.setCell ⟨p, 0, none⟩ (.map (some sb))) 96 #[.int .i64 f.at_, .int .i64 f.what, .int .i64 f.keep, .int .i64 f.torn]; simpa [World.setCell] using this, ((Off.refl [p] w).setCell (.inr (by simp)) _).alloc _⟩ ?_
  rintro W ⟨hBp, hBf, hof⟩; have HBP := Lib.hid hBp; have HBF := Lib.hid hBf; have HOF := Lib.hid hof; clear hc hf hlt; have hc := hBp.cell; have hf := hBp.frozen; have hlt := hBp.lt; have hcf := hBf.cell; have hlf := hBf.lt; unfold diskCells at hc; simp only [List.setIfInBounds_toArray, List.set_cons_zero] at hc; rw [HLV.out, HSE.out] at hc; clear hBp hBf hof
  go_region
  obtain ⟨mk, hmk⟩ : ∃ mk, min f.keep (L : Int) = mk := ⟨_, rfl⟩
  rw [hmk]; have HMK := Lib.hid hmk; clear hmk
  go_upto_if 23 with fail
  obtain ⟨bk, hbk⟩ : ∃ bk, decide (0 < mk) = bk := ⟨_, rfl⟩
  rw [hbk]; have HBK := Lib.hid hbk; clear hbk
  go_cut [] from 24 to 34 (fun wx => ∃ x, ((x = sb ∧ crashN D f = D.safe) ∨ ∃ i : Nat, G.lb[i]? = some x ∧ D.later[i]? = some (crashN D f)) ∧ Blk wx p 126 ((diskCells G D).setIfInBounds 0 (.map (some x))) ∧ Off [p] W wx)
  case first =>
    cases bk
    case true =>
      have hk : 0 < min f.keep (L : Int) := by rw [HMK.out]; exact of_decide_eq_true HBK.out
      obtain ⟨j, hj⟩ : ∃ j : Nat, min f.keep (L : Int) = (j : Int) + 1 := ⟨(min f.keep (L : Int)).toNat - 1, by omega⟩
      have hjL : j < L := by omega
      have hjb : j < G.lb.length := by rw [HM.out.parts.lbl, HL.out]; exact hjL
      have hjd : j < D.later.length := by rw [HL.out]; exact hjL
      have HX := Lib.hid (List.getElem?_eq_getElem hjb); have HY := Lib.hid (List.getElem?_eq_getElem hjd); have HN := Lib.hid (crashN_later (f := f) (by rw [HL.out]; exact hk) (show D.later[(min f.keep (D.later.length : Int)).toNat - 1]? = some D.later[j] by rw [HL.out, hj]; rw [show ((j : Int) + 1).toNat - 1 = j by omega]; exact HY.out)); generalize G.lb[j] = x at HX
      generalize D.later[j] = y at HY HN
      obtain ⟨gl, hgl, hcell, hpg⟩ : ∃ gl, pl = some ⟨gl, 0, none⟩ ∧ W.cell? ⟨gl, j, none⟩ = some (.map (some x)) ∧ gl ≠ p := by
        rcases HM.out.parts.later.2 with ⟨h1, h2⟩ | ⟨g, cap, cur, h1, _, hh, _, _, _, ht⟩
        · rw [HL.out] at h2; omega
        have hgp : g ≠ p := fun e => HM.out.far (by rw [← e]; exact List.mem_cons_of_mem _ (mem_rest.2 (.inr (.inr (.inr (.inr (.inl (by rw [h1]; simp [Value.ownBlock]))))))))
        have hB : Blk w g 122 cur := hh
        have hB2 := hB.off HOF.out (by simpa using hgp); rw [HLV.out] at h1; injection h1 with h1 h2 h3
        refine ⟨g, h1, (hB2.cell j).trans ?_, hgp⟩
        have hxj : (G.lb.map fun b => Value.map (some b))[j]? = some (.map (some x)) := by rw [List.getElem?_map, HX.out]; rfl
        rw [← ht, List.getElem?_take] at hxj
        split at hxj
        · simpa using hxj
        cases hxj
      subst hgl; have hmj : mk = (j : Int) + 1 := by rw [← HMK.out, hj]
      have hwr : IntKind.i64.wrap (mk - 1) = mk - 1 := IntWalk.i64_in _ (by omega)
      have hm0 : 0 ≤ mk - 1 := by omega
      have hjl : mk - 1 < L := by omega
      have hsub : (mk - 1).toNat = j := by omega
      have HP := Lib.hid hpg; clear hk hj hjb hjd hpg hmj
      go_wp2_with fail
      go_meet
      refine ⟨x, .inr ⟨j, HX.out, by rw [HN.out]; exact HY.out⟩, ?_, ((Off.refl [p] W).setCell (.inr (by simp)) _).drew⟩
      have := (HBP.out.set_ 0 (.map (some x))).drew
      simpa using this
    case false =>
      have hk : ¬ 0 < min f.keep (L : Int) := by rw [HMK.out]; exact of_decide_eq_false HBK.out
      have HN := Lib.hid (crashN_safe (D := D) (f := f) (by rw [HL.out]; exact hk)); clear hk
      go_wp2_with fail
      go_meet
      exact ⟨sb, .inl ⟨rfl, HN.out⟩, HBP.out.drew, (Off.refl [p] W).drew⟩
  case rest =>
    obtain ⟨x, hx, hB, ho⟩ := hcut; have HX := Lib.hid hx; have HB := Lib.hid hB; have HO := Lib.hid ho; clear hc hf hlt hcf hlf hx; have hc := hB.cell; have hf := hB.frozen; have hlt := hB.lt; unfold diskCells at hc; simp only [List.setIfInBounds_toArray, List.set_cons_zero] at hc; clear hB ho
    go_upto_region 6 with fail
    refine code_gen (fun W2 => Blk W2 p 126 (crashCells x G.ib D.inos.length D.clock G.tv G.fv D.ev) ∧ Off [p] W W2) ⟨?_, ?_⟩ ?_
    · have := ((HB.out.set_ 1 (.map (some x))).set_ 2 (.slice none 0 0)).set_ 5 (.bool true)
      simpa [diskCells, crashCells] using this
    · exact ((HO.out.setCell (.inr (by simp)) _).setCell (.inr (by simp)) _).setCell (.inr (by simp)) _
    rintro W2 ⟨hB2, ho2⟩; have HB2 := Lib.hid hB2; have HO2 := Lib.hid (HOF.out.trans ho2 (fun _ _ h => h)); have hpf : p ≠ w.heap.size := by have := HM.out.blk.lt; omega
    have HBF2 := Lib.hid (HBF.out.off ho2 (by simpa using Ne.symm hpf)); clear hc hf hlt ho2 hpf; have HP2 := Lib.hid (HM.out.parts.off HO2.out (fun b hb h => by simp at h; subst h; exact HM.out.far hb)); obtain ⟨Dm, hDm, hsz, hh1, hh2⟩ := HP2.out.ino; have HH1 := Lib.hid hh1; have HH2 := Lib.hid hh2; have hc := hB2.cell; have hlt := hB2.lt; unfold crashCells at hc; clear hh1 hh2 hsz hB2
    go_wp2_with (at_range; refine wpList_range_own _ rfl _ 123 rfl 3 160 intK Tryz.underlying123 ptrElem G.ib G.qs.length Dm rfl hDm ?_; intro w3 hrg hg3 hs3)
    have hst : Hid (∀ (i q : Nat) (m : Ino), G.qs[i]? = some q → D.inos[i]? = some m → Blk w3 q 159 (inoCells (if has Dm (numL (i + 1)) = true then m else PDisk.tear f.torn m))) := Lib.hid (fun i q m h1 h2 => by
      rw [if_pos (HH1.out i q h1).1]; exact (HP2.out.inos i q m h1 h2).grown hg3 (by simp))
    have HG3 := Lib.hid hg3; have HS3 := Lib.hid hs3; have hcf := (HBF2.out.grown hg3 (by simp)).cell; have hlf := (HBF2.out.grown hg3 (by simp)).lt; clear hg3 hs3 hc hlt hDm
    go_frame
    go_loopw [53] (fun _ wr => ∃ left cnt, wr.ranges Tryz.prog 3 ptrElem G.ib W2.heap.size G.qs.length Dm left cnt ∧ Off (W2.heap.size :: G.qs) w3 wr ∧ Hid (∀ (i q : Nat) (m : Ino), G.qs[i]? = some q → D.inos[i]? = some m → Blk wr q 159 (inoCells (if left (numL (i + 1)) = true then m else PDisk.tear f.torn m)))) (fun _ wr => wr.rangeLeft G.ib W2.heap.size)
    case atStart => exact ⟨_, _, hrg, Off.refl _ _, hst⟩
    case round =>
      clear hst; obtain ⟨left, cnt, hrel, ho, HI2⟩ := hrel; have HO3 := Lib.hid ho; clear hrg ho
      go_wp2_with (at_next; refine wpList_next_ranges _ rfl _ rfl 3 intK ptrElem (Value.int .i64) optPtr (fun _ _ h => int_shape h) (fun _ _ h => ptrElem_shape h) G.ib W2.heap.size G.qs.length Dm _ _ rfl hrel ?_ ?_)
      · intro hc0 hl0
        have HEND := Lib.hid (crash_end (f := f) HM.out HSE.out HX.out HB2.out HO2.out HG3.out HO3.out (fun i q m h1 h2 => by
          have := HI2.out i q m h1 h2; rw [hl0, if_neg (by decide)] at this; exact this))
        clear hl0 hc0 hrel hcf hlf
        go_wp2_with fail
        refine bodyPost_end (results_none rfl _ _ _) rfl ?_
        exact ⟨rfl, HEND.out⟩
      intro x' c kl yd yp w4 cnt1 hkey hlk hy hat hrg1 hlt1 hg1 hs1 hen
      obtain ⟨i, q, rfl, hq, rfl⟩ := who_came HH1.out HH2.out hkey hy hat; have hqb : i < G.qs.length := (List.getElem?_eq_some_iff.1 hq).1
      have hdb : i < D.inos.length := by rw [← HM.out.parts.qsl]; exact hqb
      have hm := List.getElem?_eq_getElem hdb; generalize D.inos[i] = m at hm; have HQ := Lib.hid hq; have HMI := Lib.hid hm; have HY := Lib.hid hlk; have HRG := Lib.hid hrg1; have HG1 := Lib.hid hg1; have HREL := Lib.hid hrel; have HLT1 := Lib.hid hlt1; have hqw : q < w.heap.size := HM.out.parts.lt (List.mem_cons_of_mem _ (mem_rest.2 (.inr (.inr (.inr (.inl (List.mem_of_getElem? hq)))))))
      have hww : w.heap.size ≤ W2.heap.size := HO2.out.size
      have HNE := Lib.hid (show q ≠ W2.heap.size by omega); have hbq : Blk w4 q 159 (inoCells m) := by
        have := HI2.out i q m hq hm; rw [if_pos hlk] at this; exact this.grown hg1 (by have := HNE.out; simpa using this)
      have hbf : Blk w4 w.heap.size 96 #[.int .i64 f.at_, .int .i64 f.what, .int .i64 f.keep, .int .i64 f.torn] := by
        refine ((HBF2.out.grown HG3.out (by simp)).off HO3.out (fun h => ?_)).grown hg1 (fun e => ?_)
        · rcases List.mem_cons.1 h with h | h
          · have := HBF2.out.lt; omega
          obtain ⟨j, hj, e⟩ := List.getElem_of_mem h; have := HM.out.parts.lt (List.mem_cons_of_mem _ (mem_rest.2 (.inr (.inr (.inr (.inl h)))))); omega
        injection e with e
        have := HBF2.out.lt; omega
      have HBQ := Lib.hid hbq; have hcq := hbq.cell; have hfq := hbq.frozen; have hlq := hbq.lt; have hcf := hbf.cell; have hlf := hbf.lt; unfold inoCells at hcq
      change (Instr.entry (.pointer (some ⟨W2.heap.size, 0, none⟩))).run Tryz.prog w4 = .ok (.tuple #[.int .i64 x', .pointer (some ⟨q, 0, none⟩)]) w4 at hen
      clear hq hm hy hrg1 hg1 hs1 hrel hlt1 hkey hlk hat hbq hbf hqb hdb hqw hww; have hcf : w4.cell? ⟨w.heap.size, 3, none⟩ = some (.int .i64 f.torn) := hcf 3
      simp only [optPtr]
      have HRQ := Lib.hid (show ∀ q ∈ G.qs, q ≠ W2.heap.size from fun q hq => by
        have := HM.out.parts.lt (List.mem_cons_of_mem _ (mem_rest.2 (.inr (.inr (.inr (.inl hq)))))); have := HO2.out.size; omega)
      cases hd : m.dirty
      · rw [hd] at hcq
        have HD := Lib.hid hd; clear hd
        go_wp2_with fail
        exact crash_step HREL.out HI2.out HG1.out (⟨rfl, rfl, rfl, Nat.le_refl _, fun _ _ _ => rfl⟩ : w4.grownBy w4 (some q)) HQ.out HMI.out (by
          have : PDisk.tear f.torn m = m := by unfold PDisk.tear; rw [HD.out]; rfl
          rw [this]; exact HBQ.out) HRG.out HLT1.out HO3.out HRQ.out HM.out.parts.nodup
      rw [hd] at hcq; have HD := Lib.hid hd; have hK0 : 0 ≤ min (max f.torn 0) (m.node.data.size : Int) := by omega
      have hK1 : min (max f.torn 0) (m.node.data.size : Int) ≤ m.node.data.size := by omega
      clear hd
      go_wp2_with fail
      go_region
      go_upto_region 11 with fail
      refine code_gen (fun W5 => Blk W5 q 159 ((inoCells m).setIfInBounds 2 (.string (m.node.data.extract 0 (min (max f.torn 0) (m.node.data.size : Int)).toNat))) ∧ w4.grownBy W5 (some q)) ⟨(HBQ.out.set_ 2 _).drew, (fun h => ⟨h.os, h.tape, h.output, h.size, h.block⟩) (grownBy_set w4 q 2 (.string (m.node.data.extract 0 (min (max f.torn 0) (m.node.data.size : Int)).toNat)))⟩ ?_
      rintro W5 ⟨hB5, hg5⟩; have HB5 := Lib.hid hB5; have HG5 := Lib.hid hg5; clear hcq hfq hlq hcf hlf hg5; have hcq := hB5.cell; have hfq := hB5.frozen; have hlq := hB5.lt; unfold inoCells at hcq; rw [HD.out] at hcq; simp only [List.setIfInBounds_toArray, List.set_cons_zero, List.set_cons_succ] at hcq; clear hB5
      go_wp2_with fail
      exact crash_step HREL.out HI2.out HG1.out (grownBy_tr HG5.out (grownBy_set _ q 5 _)) HQ.out HMI.out (by
        have := HB5.out.set_ 5 (.bool false); unfold PDisk.tear; rw [HD.out]; have e : (min (max f.torn 0) (m.node.data.size : Int)).toNat = min f.torn.toNat m.node.data.size := by omega
        rw [e] at this
        simpa [inoCells] using this) HRG.out HLT1.out HO3.out HRQ.out HM.out.parts.nodup
end
section
open Go.RowKit Go.Op Go.Maps
def idxAt : List FateP → Int → Int
  | [], _ => -1
  | f :: fs, a => if f.at_ = a then 0 else match idxAt fs a with | .ofNat i => i + 1 | _ => -1
theorem idxAt_spec : ∀ (fs : List FateP) (a : Int), (idxAt fs a = -1 ∧ fs.find? (fun f => decide (f.at_ = a)) = none) ∨ ∃ (i : Nat) (f : FateP), idxAt fs a = i ∧ fs[i]? = some f ∧ fs.find? (fun f => decide (f.at_ = a)) = some f
  | [], a => .inl ⟨rfl, rfl⟩
  | f :: fs, a => by
    by_cases h : f.at_ = a
    · exact .inr ⟨0, f, by simp [idxAt, h], rfl, by simp [h]⟩
    rcases idxAt_spec fs a with ⟨h1, h2⟩ | ⟨i, g, h1, h2, h3⟩
    · exact .inl ⟨by simp [idxAt, h, h1], by simp [h, h2]⟩
    refine .inr ⟨i + 1, g, ?_, by simpa using h2, by simp [h, h3]⟩
    unfold idxAt; rw [if_neg h, h1]
    rfl
theorem idxAt_drop (fs : List FateP) (a : Int) : ∀ i : Nat, i < fs.length → (∀ (j : Nat) (f : FateP), j < i → fs[j]? = some f → f.at_ ≠ a) → (∃ f : FateP, fs[i]? = some f ∧ f.at_ = a) → idxAt fs a = i := by
  induction fs with
  | nil => intro i hi; simp at hi
  | cons f fs ih =>
    intro i hi hlow ⟨g, hg, hga⟩
    cases i with
    | zero =>
      simp at hg
      subst hg; simp [idxAt, hga]
    | succ i =>
      have h0 : f.at_ ≠ a := hlow 0 f (by omega) rfl
      have := ih i (by simpa using hi) (fun j x hj hx => hlow (j + 1) x (by omega) (by simpa using hx)) ⟨g, by simpa using hg, hga⟩; unfold idxAt; rw [if_neg h0, this]
      rfl
theorem idxAt_none (fs : List FateP) (a : Int) (h : ∀ (j : Nat) (f : FateP), fs[j]? = some f → f.at_ ≠ a) : idxAt fs a = -1 := by
  rcases idxAt_spec fs a with ⟨h1, _⟩ | ⟨i, f, _, h2, h3⟩
  · exact h1
  have := List.find?_some h3; exact absurd (by simpa using this) (h i f h2)
set_option maxRecDepth 100000 in
theorem dstepc_any (f : FateP) (a : Int) (ga : Nat) (w : World) (hB : Blk w ga 3 #[.int .i64 a]) (b : Bool) (hb : decide (f.at_ = a) = b) :
    Calls Tryz.prog 166 #[.agg #[.int .i64 f.at_, .int .i64 f.what, .int .i64 f.keep, .int .i64 f.torn], .pointer (some ⟨ga, 0, none⟩)] w fun e w' => e = .returned (.bool b) ∧ Off [] w w' := by
  have hc := hB.cell; have hl := hB.lt; have HBB := Lib.hid hb; clear hB hb
  go_enter Tryz.func166, Tryz.ntmps166
  go_wp2_with fail
  go_ret
  exact ⟨by rw [← HBB.out]; rfl, (Off.refl _ _).alloc _⟩
set_option maxRecDepth 100000 in
set_option maxHeartbeats 4000000 in
theorem dfind_any (fv : Value) (fb : List Nat) (fs : List FateP) (a : Int) (ga n : Nat) (w : World) (hF : FatesAt w fv fb fs) (hn : fs.length = n) (hb : n ≤ 5000000000000) (hB : Blk w ga 3 #[.int .i64 a]) :
    Calls Tryz.prog 165 #[fv, .func (.func 166) #[] #[.pointer (some ⟨ga, 0, none⟩)]] w fun e w' => e = .returned (.int .i64 (idxAt fs a)) ∧ Off [] w w' := by
  obtain ⟨p, c, rfl, hc, hf⟩ := hF; have HN := Lib.hid hn; have HB := Lib.hid hB; have HF := Lib.hid hf; rw [hn]; obtain ⟨v, hv⟩ : ∃ v, idxAt fs a = v := ⟨_, rfl⟩
  have HV := Lib.hid hv; rw [hv]; clear hn hB hc hf hv
  go_enter Tryz.func165, Tryz.ntmps165
  go_wp2_with fail
  go_loopw [5, 8] (fun _ y wr => ∃ i : Nat, y = .int .i64 i ∧ i ≤ n ∧ Off [] w wr ∧ Hid (∀ (j : Nat) (f : FateP), j < i → fs[j]? = some f → f.at_ ≠ a)) (fun _ y _ => n - (intOf y).toNat)
  case atStart => exact ⟨0, rfl, by omega, Off.refl _ _, Lib.hid (fun j f h => absurd h (Nat.not_lt_zero _))⟩
  case round =>
    obtain ⟨i, rfl, hi, ho, HLOW⟩ := hrel
    by_cases hlt : i < n
    · have hil : i < fs.length := by rw [HN.out]; exact hlt
      have hx := List.getElem?_eq_getElem hil; have hne : fs ≠ [] := by intro e; rw [e] at hil; simp at hil
      obtain ⟨g, rfl, hg, hgl, hcell⟩ := HF.out hne; have hcs := hcell i _ hx; have HX := Lib.hid hx; generalize fs[i] = f at hcs HX; have c0 : wr.cell? ⟨g, i * 4, none⟩ = some (.int .i64 f.at_) := (ho.cell (p := ⟨g, i * 4, none⟩) hgl (by simp)).trans (hcs 0 _ rfl)
      have c1 : wr.cell? ⟨g, i * 4 + 1, none⟩ = some (.int .i64 f.what) := (ho.cell (p := ⟨g, i * 4 + 1, none⟩) hgl (by simp)).trans (hcs 1 _ rfl)
      have c2 : wr.cell? ⟨g, i * 4 + 2, none⟩ = some (.int .i64 f.keep) := (ho.cell (p := ⟨g, i * 4 + 2, none⟩) hgl (by simp)).trans (hcs 2 _ rfl)
      have c3 : wr.cell? ⟨g, i * 4 + 3, none⟩ = some (.int .i64 f.torn) := (ho.cell (p := ⟨g, i * 4 + 3, none⟩) hgl (by simp)).trans (hcs 3 _ rfl)
      have HC := Lib.hid (fun (b : Bool) (hb : decide (f.at_ = a) = b) => dstepc_any f a ga wr (HB.out.off ho (by simp)) b hb); clear hcs hcell hx hne hg hgl hil
      cases hd : decide (f.at_ = a)
      · have HC2 := Lib.hid (HC.out false hd)
        have HNE := Lib.hid (of_decide_eq_false hd); clear HC hd
        go_wp2_with fail
        refine HC2.out.mono ?_
        rintro e w2 ⟨rfl, ho2⟩; have ho := ho.trans_nil ho2; clear c0 c1 c2 c3 ho2
        go_wp2_with fail
        refine ⟨⟨i + 1, by congr 1, by omega, ho, Lib.hid (fun j y hj hy => ?_)⟩, by simp only [intOf]; omega⟩
        rcases Nat.lt_or_ge j i with h | h
        · exact HLOW.out j y h hy
        obtain rfl : j = i := by omega
        rw [HX.out] at hy
        cases hy
        exact HNE.out
      have HC2 := Lib.hid (HC.out true hd); have HE := Lib.hid (idxAt_drop fs a i (by rw [HN.out]; exact hlt) HLOW.out ⟨f, HX.out, of_decide_eq_true hd⟩); clear HC hd
      go_wp2_with fail
      refine HC2.out.mono ?_
      rintro e w2 ⟨rfl, ho2⟩; have ho := ho.trans_nil ho2; clear c0 c1 c2 c3 ho2
      go_wp2_with fail
      go_ret
      exact ⟨by rw [← HV.out, HE.out]; rfl, ho⟩
    obtain rfl : i = n := by omega
    have HE := Lib.hid (idxAt_none fs a (fun j f hj => HLOW.out j f (by rw [← HN.out]; exact (List.getElem?_eq_some_iff.1 hj).1) hj))
    go_wp2_with fail
    go_ret
    exact ⟨by rw [← HV.out, HE.out]; rfl, ho⟩
end
end Go.Proofs.YthciejabapdbgaaGreatDoor
