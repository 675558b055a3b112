/- Texts of this claim, one behind the other: DWf DSort DTree DelF DEdit DStep DFlush DSt DSync DGet. Conditions: what each lemma states. -/
import Derived.Test.YthciejabapdbgaaGreatDoorKe
import Derived.Test.YthciejabapdbgaaGreatDoorKb
import Derived.Test.YthciejabapdbgaaGreatDoorKd
import Derived.Shelf.SlSortCmp.NoneTotal
import Derived.Shelf.SlIter.Collect
import Derived.Test.YthciejabapdbgaaGreatDoorKc
import Derived.Shelf.SlMaps.DeleteFunc
import Derived.Deep.RegionLawGrows
import Derived.StillTailTactics
set_option linter.unusedVariables false
set_option linter.unusedSimpArgs false
namespace Go.Proofs.YthciejabapdbgaaGreatDoor
section
structure Few (D : PDisk) : Prop where
  later : D.later.length ≤ 100000000
  inos : D.inos.length ≤ 1000000000000
  trace : D.trace.length ≤ 100000000
  clock : D.clock ≤ 1000000000000
  fates : D.fates.length ≤ 5000000000000
  names : D.names.length ≤ 100000000
def NOk (n : Nat) (l : NameL) : Prop := ∀ x, lookN l x ≤ n ∧ (hasN l x = true → 1 ≤ lookN l x ∧ x.size ≤ 400)
theorem firstE_zero : ∀ {l : List (Bool × Int)}, (∀ x ∈ l, x.2 ≠ 0) → firstE l = 0 → ∀ x ∈ l, x.1 = false
  | [], _, _, x, hx => by cases hx
  | y :: l, hz, h, x, hx => by
    unfold firstE at h
    split at h
    · exact absurd h (hz y (List.mem_cons_self ..))
    rename_i hy
    rcases List.mem_cons.1 hx with rfl | hx
    · simpa using hy
    exact firstE_zero (fun z hz' => hz z (List.mem_cons_of_mem _ hz')) h x hx
theorem no_size {p : ByteArray} (h : (PDisk.no p).1 = false) : p.size ≤ 400 := by
  unfold PDisk.no at h; rw [← str_size]; exact okPath_size (by simpa using h)
structure Ok (D : PDisk) (n : Nat) : Prop where
  names : NOk D.inos.length D.names
  safe : NOk D.inos.length D.safe
  later : ∀ l ∈ D.later, NOk D.inos.length l
  llen : D.later.length ≤ n
  inos : D.inos.length ≤ n + 1000
  tlen : D.trace.length ≤ n
  clock : D.clock ≤ n
  fates : D.fates.length ≤ 5000000000000
  nlen : D.names.length ≤ 1000
  slen : D.safe.length ≤ 1000
  llens : ∀ l ∈ D.later, l.length ≤ 1000
theorem Ok.few {D : PDisk} {n : Nat} (h : Ok D n) (hn : n ≤ 90000000) : Few D :=
  ⟨by have := h.llen; omega, by have := h.inos; omega, by have := h.tlen; omega, by have := h.clock; omega, h.fates, by have := h.nlen; omega⟩
theorem Ok.look {D : PDisk} {n : Nat} (h : Ok D n) (hn : n ≤ 90000000) (x : ByteArray) : lookN D.names x ≤ 4611686018427387904 := by
  have := (h.names x).1; have := h.inos; omega
theorem NOk.mono {n m : Nat} {l : NameL} (h : NOk n l) (hm : n ≤ m) : NOk m l := fun x => ⟨Nat.le_trans (h x).1 hm, (h x).2⟩
theorem NOk.put {n i : Nat} {l : NameL} {p : ByteArray} (h : NOk n l) (hi : 1 ≤ i) (hin : i ≤ n) (hp : p.size ≤ 400) : NOk n (putN l p i) := fun x => by
  rw [lookN_putN, hasN_putN]
  by_cases e : p = x
  · rw [if_pos e]; exact ⟨hin, fun _ => ⟨hi, e ▸ hp⟩⟩
  rw [if_neg e]; refine ⟨(h x).1, fun hh => (h x).2 ?_⟩
  simpa [e] using hh
theorem NOk.del {n : Nat} {l : NameL} {p : ByteArray} (h : NOk n l) : NOk n (delN l p) := fun x => by
  rw [lookN_delN, hasN_delN]
  by_cases e : p = x
  · rw [if_pos e]
    exact ⟨Nat.zero_le _, fun hh => by simp [e] at hh⟩
  rw [if_neg e]; refine ⟨(h x).1, fun hh => (h x).2 ?_⟩
  simpa [e] using hh
theorem length_putN_le (l : NameL) (p : ByteArray) (i : Nat) : (putN l p i).length ≤ l.length + 1 := by
  rw [length_putN]; split <;> omega
theorem length_delN_lt : ∀ {l : NameL} {p : ByteArray}, hasN l p = true → (delN l p).length < l.length
  | [], _, h => by simp [hasN] at h
  | x :: l, p, h => by
    by_cases e : x.1 = p
    · have : delN (x :: l) p = delN l p := by unfold delN; rw [List.filter_cons_of_neg (by simp [e])]
      rw [this]; have := List.length_filter_le (fun x : ByteArray × Nat => !decide (x.1 = p)) l; unfold delN; rw [List.length_cons]; omega
    have h2 : hasN l p = true := by simpa [hasN, e] using h
    have : delN (x :: l) p = x :: delN l p := by unfold delN; rw [List.filter_cons_of_pos (by simp [e])]
    rw [this, List.length_cons, List.length_cons]; have := length_delN_lt h2; omega
theorem length_delN_le (l : NameL) (p : ByteArray) : (delN l p).length ≤ l.length := List.length_filter_le _ _
namespace PDisk
variable {D : PDisk} {n : Nat}
theorem ok_mono (h : Ok D n) {m : Nat} (hm : n ≤ m) : Ok D m :=
  ⟨h.names, h.safe, h.later, Nat.le_trans h.llen hm, Nat.le_trans h.inos (by omega), Nat.le_trans h.tlen hm, Nat.le_trans h.clock hm, h.fates, h.nlen, h.slen, h.llens⟩
theorem crash_ok (h : Ok D n) (f : FateP) : Ok (D.crash f) n := by
  have key : ∀ l, (match D.later[(min f.keep (D.later.length : Int)).toNat - 1]? with | some l => if 0 < min f.keep (D.later.length : Int) then l else D.safe | none => D.safe) = l → NOk D.inos.length l ∧ l.length ≤ 1000 := by
    intro l hl
    split at hl
    · rename_i y hy
      split at hl
      · subst hl
        exact ⟨h.later _ (List.mem_of_getElem? hy), h.llens _ (List.mem_of_getElem? hy)⟩
      subst hl; exact ⟨h.safe, h.slen⟩
    subst hl; exact ⟨h.safe, h.slen⟩
  have hk := key _ rfl; have e1 : (D.crash f).inos.length = D.inos.length := by simp [crash]
  exact ⟨by rw [e1]; exact hk.1, by rw [e1]; exact hk.1, fun l hl => by simp [crash] at hl, by simp [crash], by rw [e1]; exact h.inos, h.tlen, h.clock, h.fates, hk.2, hk.2, fun l hl => by simp [crash] at hl⟩
theorem step_ok (h : Ok D n) (c p q : ByteArray) : Ok (D.step c p q).2.2 (n + 1) := by
  have hE : Ok { D with clock := D.clock + 1, trace := D.trace ++ [⟨c, p, q⟩] } (n + 1) := by
    have h1 := ok_mono h (Nat.le_succ n); exact ⟨h1.names, h1.safe, h1.later, h1.llen, h1.inos, by have := h.tlen; simp; omega, by have := h.clock; show D.clock + 1 ≤ n + 1; omega, h.fates, h1.nlen, h1.slen, h1.llens⟩
  unfold step
  split
  · exact ok_mono h (Nat.le_succ n)
  dsimp only
  split
  · exact hE
  split
  · exact crash_ok hE _
  split
  · exact hE
  exact hE
theorem change_ok (h : Ok D n) {l : NameL} (hl : NOk D.inos.length l) (hn : l.length ≤ 1000) : Ok (D.change l) (n + 1) := by
  have h1 := ok_mono h (Nat.le_succ n); exact ⟨hl, h1.safe, fun x hx => by
      rcases List.mem_append.1 hx with hx | hx
      · exact h1.later x hx
      · simp at hx; subst hx; exact hl, by have := h.llen; simp [change]; omega, h1.inos, h1.tlen, h1.clock, h1.fates, hn, h1.slen, fun x hx => by
      rcases List.mem_append.1 hx with hx | hx
      · exact h1.llens x hx
      simp at hx; subst hx; exact hn⟩
theorem lay_ok (h : Ok D n) (p : ByteArray) (x : Node) (full : Bool) (l : List (Bool × Int)) (hz : ∀ x ∈ l, x.2 ≠ 0) (hp : no p ∈ l) : Ok (D.lay p x full l).2 (n + 1) := by
  unfold lay; dsimp only
  split
  · exact ok_mono h (Nat.le_succ n)
  rename_i he
  have hps : p.size ≤ 400 := no_size (firstE_zero (l := l ++ [(full || decide (1000 ≤ D.names.length), 71)]) (fun y hy => by
    rcases List.mem_append.1 hy with hy | hy
    · exact hz y hy
    simp at hy; subst hy; exact (by decide : (71 : Int) ≠ 0)) (by simpa using he) _ (List.mem_append_left _ hp))
  have e1 : (D.make x D.clock (decide (x.kind = 1))).inos.length = D.inos.length + 1 := by simp [make]
  have h1 := ok_mono h (Nat.le_succ n); have hm : NOk (D.inos.length + 1) (putN D.names p (D.inos.length + 1)) := (h.names.mono (Nat.le_succ _)).put (by omega) (Nat.le_refl _) hps
  have hl := length_putN_le D.names p (D.inos.length + 1); have hfull : D.names.length < 1000 := by
    have := firstE_zero (l := l ++ [(full || decide (1000 ≤ D.names.length), 71)]) (fun y hy => by
      rcases List.mem_append.1 hy with hy | hy
      · exact hz y hy
      simp at hy; subst hy; exact (by decide : (71 : Int) ≠ 0)) (by simpa using he) _ (List.mem_append_right _ (List.mem_singleton.2 rfl))
    simp at this
    omega
  refine ⟨by show NOk (D.make x D.clock (decide (x.kind = 1))).inos.length _; rw [e1]; exact hm, by show NOk (D.make x D.clock (decide (x.kind = 1))).inos.length _; rw [e1]; exact h.safe.mono (Nat.le_succ _), fun y hy => ?_, by have := h.llen; simp [change, make]; omega, by show (D.make x D.clock (decide (x.kind = 1))).inos.length ≤ _; rw [e1]; have := h.inos; omega, h1.tlen, h1.clock, h1.fates, by show (putN D.names p (D.inos.length + 1)).length ≤ _; omega, h1.slen, fun y hy => ?_⟩
  · show NOk (D.make x D.clock (decide (x.kind = 1))).inos.length y
    rw [e1]
    rcases List.mem_append.1 hy with hy | hy
    · exact (h.later y hy).mono (Nat.le_succ _)
    simp at hy; subst hy; exact hm
  rcases List.mem_append.1 hy with hy | hy
  · exact h1.llens y hy
  simp at hy; subst hy; omega
theorem set_ok (h : Ok D n) (i : Nat) (x : Ino) : Ok { D with inos := D.inos.set i x } n := by
  have e1 : ({ D with inos := D.inos.set i x } : PDisk).inos.length = D.inos.length := by simp
  exact ⟨by rw [e1]; exact h.names, by rw [e1]; exact h.safe, fun l hl => by rw [e1]; exact h.later l hl, h.llen, by rw [e1]; exact h.inos, h.tlen, h.clock, h.fates, h.nlen, h.slen, h.llens⟩
theorem at_has {p : ByteArray} (h : (D.at_ p).isNone = false) : lookN D.names p ≠ 0 := by
  intro e
  unfold at_ inode at h; rw [e] at h; simp at h
theorem replace__ok (h : Ok D n) (p q : ByteArray) : Ok (D.replace_ p q).2 (n + 1) := by
  unfold replace_; dsimp only
  split
  · exact ok_mono h (Nat.le_succ n)
  rename_i he
  have hg : (D.at_ p).isNone = false := by
    cases hh : (D.at_ p).isNone
    · rfl
    exfalso
    apply he
    simp only [firstE, gone, hh, if_true]
    split
    · simp [no]
    split
    · simp [no]
    split <;> simp
  have h0 := at_has hg; have hq : q.size ≤ 400 := no_size (firstE_zero (l := [no p, no q, (decide (p = q), 2), D.gone p, (D.dir p || D.dir q, 73), D.parentE q]) (fun y hy => by simp only [List.mem_cons, List.not_mem_nil, or_false] at hy; rcases hy with rfl | rfl | rfl | rfl | rfl | rfl <;> simp [no, gone, parentE]) (by simpa using he) _ (List.mem_cons_of_mem _ (List.mem_cons_self ..)))
  refine change_ok h ((h.names.put (by omega) (h.names p).1 hq).del) ?_
  have hpq : p ≠ q := by
    have := firstE_zero (l := [no p, no q, (decide (p = q), 2), D.gone p, (D.dir p || D.dir q, 73), D.parentE q]) (fun y hy => by simp only [List.mem_cons, List.not_mem_nil, or_false] at hy; rcases hy with rfl | rfl | rfl | rfl | rfl | rfl <;> simp [no, gone, parentE]) (by simpa using he) (decide (p = q), 2) (by simp)
    simpa using this
  have h1 := length_delN_lt (l := putN D.names q (lookN D.names p)) (p := p) (by
    rw [hasN_putN]; have : hasN D.names p = true := by
      cases hh : hasN D.names p
      · exact absurd (lookN_of_not hh) h0
      rfl
    rw [this]; simp)
  have h2 := length_putN_le D.names q (lookN D.names p); have h3 := h.nlen; omega
theorem flush__ok (h : Ok D n) : Ok D.flush_ n :=
  ⟨h.names, h.names, fun l hl => by simp [flush_] at hl, by simp [flush_], h.inos, h.tlen, h.clock, h.fates, h.nlen, h.nlen, fun l hl => by simp [flush_] at hl⟩
theorem boot_ok (h : Ok D n) (fs : List FateP) (hf : fs.length ≤ 5000000000000) : Ok (D.boot fs) n :=
  ⟨h.names, h.safe, h.later, h.llen, h.inos, by simp [boot], h.clock, hf, h.nlen, h.slen, h.llens⟩
theorem call_ok (h : Ok D n) (c p q : ByteArray) (k : PDisk → Bool → Int × PDisk) (hk : ∀ E full, Ok E (n + 1) → Ok (k E full).2 (n + 2)) : Ok (D.call c p q k).2 (n + 2) := by
  unfold call; have hs := step_ok h c p q; generalize D.step c p q = s at hs; obtain ⟨full, e, E⟩ := s; dsimp only at hs ⊢
  split
  · exact ok_mono hs (Nat.le_succ _)
  exact hk E full hs
theorem flush_ok (h : Ok D n) : Ok D.flush.2 (n + 2) := call_ok h _ _ _ _ fun _ _ h => ok_mono (flush__ok h) (Nat.le_succ _)
end PDisk
end
section
open Go.RowKit Go.Op Go.Maps Go.Sort Go.Shelf
section
variable {α : Type} [Inhabited α] {enc : α → Value}
theorem gputRow_at {W : World} {g : Nat} {d : Array α} {cur : Array Value} {e : TypeId} (h : W.heap[g]? = some (.cells cur e (0, 0))) : (Sort.putRow enc W g 0 d).heap[g]? = some (.cells (Sort.putCells enc 0 d cur) e (0, 0)) := by
  unfold Sort.putRow Sort.mapBlock; simp [Array.getElem?_modify, h, Sort.onCells]
theorem gputRow_far {W : World} {g k : Nat} {d : Array α} (h : g ≠ k) : (Sort.putRow enc W g 0 d).heap[k]? = W.heap[k]? := by
  unfold Sort.putRow Sort.mapBlock; simp [Array.getElem?_modify, h]
theorem gputCells_take {d : Array α} {cur : Array Value} {n : Nat} (hn : n ≤ d.size) (hc : n ≤ cur.size) : (Sort.putCells enc 0 d cur).toList.take n = (d.toList.map enc).take n := by
  apply List.ext_getElem?
  intro i
  rw [List.getElem?_take, List.getElem?_take]
  by_cases hi : i < n
  · rw [if_pos hi, if_pos hi, Array.getElem?_toList, List.getElem?_map, Array.getElem?_toList]
    unfold Sort.putCells; rw [Array.getElem?_mapIdx, Array.getElem?_eq_getElem (by omega), Array.getElem?_eq_getElem (by omega)]; simp only [Option.map_some]; rw [if_pos ⟨by omega, by omega⟩, Nat.sub_zero, getElem!_pos d i (by omega)]
  rw [if_neg hi, if_neg hi]
theorem ggrow_low {W : World} {os : Array Obj} {k : Nat} (h : k < W.heap.size) : (Sort.grow W os).heap[k]? = W.heap[k]? := by
  unfold Sort.grow; exact Array.getElem?_append_left h
theorem gputRow_size (W : World) (g : Nat) (d : Array α) : (Sort.putRow enc W g 0 d).heap.size = W.heap.size := by
  unfold Sort.putRow Sort.mapBlock; simp
theorem gput_own {W w0 : World} {base g n cap : Nat} {xs : List Value} (h : W.ownsRow base 9 1 (.slice (some ⟨g, 0, none⟩) n cap) n xs) (hb : w0.heap.size ≤ base) (ho : Off [] w0 W) (d : Array α) (hd : d.size = n) (q : Nat) (os : Array Obj) :
    (sortWorld enc W g 0 q d os).ownsRow base 9 1 (.slice (some ⟨g, 0, none⟩) n cap) n (d.toList.map enc) ∧ Off [] w0 (sortWorld enc W g 0 q d os) := by
  show (Sort.grow (Sort.putRow enc (Sort.ahead W q) g 0 d) os).ownsRow base 9 1 (.slice (some ⟨g, 0, none⟩) n cap) n (d.toList.map enc) ∧ Off [] w0 (Sort.grow (Sort.putRow enc (Sort.ahead W q) g 0 d) os)
  rcases h.2 with ⟨h0, _⟩ | ⟨g', cap', cur, hv, hbg, hh, hc, hmx, hs, ht⟩
  · cases h0
  cases hv
  have hh' : (Sort.ahead W q).heap[g]? = some (.cells cur 9 (0, 0)) := hh
  have hlt : g < W.heap.size := (Array.getElem?_eq_some_iff.1 hh).1
  have hsz : (Sort.putRow enc (Sort.ahead W q) g 0 d).heap.size = W.heap.size := gputRow_size _ _ _
  refine ⟨⟨?_, .inr ⟨g, cap, Sort.putCells enc 0 d cur, rfl, hbg, ?_, by omega, hmx, ?_, ?_⟩⟩, ?_⟩
  · rw [List.length_map, Array.length_toList]; omega
  · rw [ggrow_low (by rw [hsz]; exact hlt)]; exact gputRow_at hh'
  · unfold Sort.putCells; rw [Array.size_mapIdx]; exact hs
  · rw [Nat.mul_one, gputCells_take (by omega) (by omega), List.take_of_length_le (by rw [List.length_map, Array.length_toList]; omega)]
  refine ⟨ho.os, ho.tape, ho.output, ?_, fun k hk hn => ?_⟩
  · unfold Sort.grow; simp only [Array.size_append]; rw [hsz]; have := ho.size; omega
  rw [ggrow_low (by rw [hsz]; have := ho.size; omega), gputRow_far (by omega)]; exact ho.block k hk hn
theorem gown_holds {W : World} {base g cap : Nat} {xs : List α} (h : W.ownsRow base 9 1 (.slice (some ⟨g, 0, none⟩) xs.length cap) xs.length (xs.map enc)) : Sort.Holds enc W g 0 xs.toArray := by
  intro j hj
  have hj' : j < xs.length := by simpa using hj
  have hc := h.cells (g := g) rfl j (enc xs[j]) (by rw [List.getElem?_map, List.getElem?_eq_getElem hj']; rfl); rw [addr_add] at hc; rw [Nat.zero_add]; refine ⟨?_, ?_⟩
  · rw [hc, getElem!_pos _ j hj]
    simp only [List.getElem_toArray]
  rcases h.2 with ⟨h0, _⟩ | ⟨g', cap', cur, hv, _, hh, _⟩
  · cases h0
  cases hv; exact Blk.frozen (w := W) (t := 9) (cs := cur) hh j
end
abbrev ShortS := { x : ByteArray // x.size ≤ 1000000 }
instance : Inhabited ShortS := ⟨⟨⟨#[]⟩, by decide⟩⟩
def encS (x : ShortS) : Value := .string x.1
def cfS (x y : ShortS) : Int := order (str x.1) (str y.1)
def leS (x y : ByteArray) : Bool := !decide (order (str y) (str x) < 0)
def sortB (l : List ByteArray) : List ByteArray := l.mergeSort leS
theorem leS_trans (a b c : ByteArray) (h1 : leS a b = true) (h2 : leS b c = true) : leS a c = true := by
  unfold leS at *; simp only [Bool.not_eq_true', decide_eq_false_iff_not] at *
  intro h
  rcases order_tri (str a) (str b) with h3 | h3 | h3
  · have := order_trans h h3
    exact h2 this
  · rw [h3] at h; exact h2 h
  exact h1 h3
theorem leS_total (a b : ByteArray) : (leS a b || leS b a) = true := by
  unfold leS
  rcases order_tri (str a) (str b) with h | h | h
  · have h2 : ¬ order (str b) (str a) < 0 := fun k => by
      have := order_trans h k; rw [order_self] at this; omega
    simp [h2]
  · rw [h, order_self]; simp
  have h2 : ¬ order (str a) (str b) < 0 := fun k => by
    have := order_trans h k; rw [order_self] at this; omega
  simp [h2]
theorem leS_anti (a b : ByteArray) (h1 : leS a b = true) (h2 : leS b a = true) : a = b := by
  unfold leS at *; simp only [Bool.not_eq_true', decide_eq_false_iff_not] at *
  rcases order_tri (str a) (str b) with h | h | h
  · exact absurd h h2
  · exact str_inj h
  exact absurd h h1
theorem sortB_perm {l l' : List ByteArray} (h : l.Perm l') : sortB l = sortB l' :=
  List.Perm.eq_of_pairwise (le := fun a b => leS a b = true) (fun a b _ _ h1 h2 => leS_anti a b h1 h2) (List.pairwise_mergeSort leS_trans leS_total l) (List.pairwise_mergeSort leS_trans leS_total l') (((List.mergeSort_perm l leS).trans h).trans (List.mergeSort_perm l' leS).symm)
theorem sortN_fst (l : NameL) : (PDisk.sortN l).map (·.1) = sortB (l.map (·.1)) := by
  unfold PDisk.sortN sortB; exact List.map_mergeSort (fun a _ b _ => rfl)
theorem swoS : SWO (ltOf cfS) where
  irrefl x := by unfold ltOf cfS; rw [order_self]; rfl
  trans x y z h1 h2 := by
    unfold ltOf cfS at *; simp only [decide_eq_true_eq] at *; exact order_trans h1 h2
  ntrans x y z h1 h2 := by
    have := leS_trans z.1 y.1 x.1; unfold leS at this; unfold ltOf cfS at *; simp only [Bool.not_eq_true', decide_eq_false_iff_not] at *; exact this h2 h1
theorem totS (x y : ShortS) (h1 : ltOf cfS x y = false) (h2 : ltOf cfS y x = false) : x = y := by
  have := leS_anti x.1 y.1; unfold leS at this; unfold ltOf cfS at *; simp only [Bool.not_eq_true', decide_eq_false_iff_not] at *; exact Subtype.ext (this h2 h1)
theorem sortS_val (l : List ShortS) : (l.mergeSort fun x y => !(ltOf cfS) y x).map (·.1) = sortB (l.map (·.1)) := by
  unfold sortB; exact List.map_mergeSort (fun a _ b _ => rfl)
theorem cmpOrd (blk off size : Nat) (w : World) : CmpLays1 Tryz.prog 141 #[] encS cfS blk off size w :=
  CmpReads.lays (fun m os dk _ x y => order_dr x.1 y.1 _ (Nat.le_trans x.2 (by decide)) (Nat.le_trans y.2 (by decide)))
theorem sortf_own {W w0 : World} {base : Nat} {v : Value} {xs : List ByteArray} (h : W.ownsRow base 9 1 v xs.length (xs.map Value.string)) (hb : w0.heap.size ≤ base) (ho : Off [] w0 W) (hx : ∀ x ∈ xs, x.size ≤ 1000000) (hl : xs.length ≤ 1000000) :
    Calls Tryz.prog 235 #[v, .func (.func 141) #[] #[]] W fun e w' => e = .returned (.tuple #[]) ∧ w'.ownsRow base 9 1 v xs.length ((sortB xs).map Value.string) ∧ Off [] w0 w' := by
  rcases h.2 with ⟨rfl, h0⟩ | ⟨g, cap, cur, rfl, hbg, hh, _⟩
  · have hs : xs = [] := List.length_eq_zero_iff.1 h0
    subst hs; exact (AnyF.slices_SortFunc_none (P := Tryz.prog) (ρ := Tryz.sort6_ren) { Tryz.sort6 with } none 0 _ W).mono fun e w' ⟨he, hw⟩ => ⟨he, by subst hw; rw [show sortB [] = [] by unfold sortB; simp]; exact h, by subst hw; exact ho⟩
  have hlt : g < W.heap.size := (Array.getElem?_eq_some_iff.1 hh).1
  obtain ⟨d, hd⟩ : ∃ d : List ShortS, d.map (·.1) = xs := ⟨xs.pmap (fun a ha => ⟨a, ha⟩) hx, by rw [List.map_pmap]; simp⟩
  have hdl : d.length = xs.length := by rw [← hd, List.length_map]
  have hde : d.map encS = xs.map Value.string := by rw [← hd, List.map_map]; rfl
  rw [← hdl, ← hde] at h; have := Any.slices_SortFunc_total Tryz.sort6 encS (by intro x; rfl) cfS swoS 141 #[] g 0 cap d.toArray W (enters_of Tryz.func141 (by kernel_rfl) rfl) (cmpOrd _ _ _ _) (gown_holds h) hlt (by simp; omega) totS; rw [List.size_toArray, hdl] at this; refine this.mono fun e w' ⟨he, n, os, hw⟩ => ?_
  subst hw; rw [hdl] at h; have hp := gput_own (enc := encS) h hb ho (d.toArray.toList.mergeSort fun x y => !(ltOf cfS) y x).toArray (by simp [hdl]) n os; refine ⟨he, ?_, hp.2⟩; have h1 := hp.1; have e : ((d.toArray.toList.mergeSort fun x y => !(ltOf cfS) y x).toArray.toList.map encS) = (sortB xs).map Value.string := by
    rw [← hd, ← sortS_val, List.map_map]; rfl
  rw [e] at h1; exact h1
theorem NMat.keys {w : World} {b : Nat} {l : NameL} {D : DataW Unit} (ha : Apart l) (hD : w.ownsMap Tryz.prog 9 (plainElem Tryz.prog 3) b l.length D) (hr : ∀ p, has D (strL p) = hasN l p) : (l.map fun x => str x.1).Perm (strKeys D) := by
  obtain ⟨es, hDe, hpw, _⟩ := hD.entries strK; obtain ⟨es', hD', hko⟩ := hD.keysOf; obtain rfl : es = es' := by rw [hDe] at hD'; simpa using hD'
  subst hDe; refine perm_strKeys hpw (fun p hp => by obtain ⟨v, hv⟩ := hko p hp; obtain ⟨x, _, hx, _⟩ := Maps.keyOf_str Tryz.underlying9 hv; exact ⟨x, hx⟩) ?_ (fun x => ?_)
  · unfold Apart at ha
    refine List.pairwise_map.2 (ha.imp fun {a b} hne e => hne (str_inj e))
  have h1 := hr ⟨x.toArray⟩; rw [show strL ⟨x.toArray⟩ = Lit.string x by simp [strL]] at h1; rw [h1, hasN_iff]
  constructor
  · intro hx
    obtain ⟨y, hy, e⟩ := List.mem_map.1 hx; exact ⟨y, hy, by subst e; exact (bs_str _).symm⟩
  rintro ⟨y, hy, e⟩; exact List.mem_map.2 ⟨y, hy, by rw [e]; simp [str]⟩
set_option maxRecDepth 100000 in
set_option maxHeartbeats 4000000 in
theorem din_any (b : Nat) (l : NameL) (w : World) (h : NMat w b l) (hx : ∀ x ∈ l, x.1.size ≤ 1000000) (hl : l.length ≤ 1000000) :
    Calls Tryz.prog 81 #[.map (some b)] w fun e w' => ∃ v, e = .returned v ∧ w'.ownsRow (w.heap.size + 1) 9 1 v l.length ((PDisk.sortN l).map fun x => .string x.1) ∧ Off [] w w' := by
  obtain ⟨ha, D, hD, hs, hr⟩ := h; have hkeys := NMat.keys ha hD (fun p => (hr p).1); have hlen : (strKeys D).length = l.length := by rw [← hkeys.length_eq, List.length_map]
  have hK : Calls Tryz.prog 163 #[.map (some b)] w fun e w' => e = .returned (.func (.func 236) #[] #[.pointer (some ⟨w.heap.size, 0, none⟩)]) ∧ w' = w.alloc (.cells #[.map (some b)] 122) :=
    callsIn_wide.1 (AnyZ.keys_in Tryz.keys7 Fence.wide 5 trivial rfl (some b) w)
  have hseq : SeqGives Fence.wide 3 Tryz.prog 236 #[.pointer (some ⟨w.heap.size, 0, none⟩)] encStr (fun ss => ss.Perm (strKeys D)) (Maps.size D) (w.alloc (.cells #[.map (some b)] 122)) :=
    AnyZ.keys_gives (ρ := Tryz.keys7_ren) { Tryz.keys7 with } Fence.wide _ trivial rfl (by omega) w.heap.size b l.length D _ (by simp) (by simp) (ownsMap_off hD ((Off.refl [] w).alloc _) (by simp))
  have hC : Calls Tryz.prog 234 #[.func (.func 236) #[] #[.pointer (some ⟨w.heap.size, 0, none⟩)]] (w.alloc (.cells #[.map (some b)] 122)) fun e w' => ∃ (v : Value) (xs : List ByteArray), e = .returned v ∧ xs.Perm (l.map (·.1)) ∧ w'.ownsRow (w.heap.size + 1) 9 1 v xs.length (xs.map Value.string) ∧ Off [] w w' := by
    refine (callsIn_wide.1 (AnyZ.collect_in Tryz.coll8 Fence.wide 5 trivial trivial rfl (by omega) 236 #[.pointer (some ⟨w.heap.size, 0, none⟩)] trivial (enters_of Tryz.func236 (by kernel_rfl) rfl) _ (Maps.size D) (by rw [hs]; unfold maxLen; omega) (by rw [hs]; omega) _ hseq)).mono ?_
    rintro e w' ⟨v, ss, rfl, hS, hrow, _, hb⟩; refine ⟨v, ss.map bs, rfl, ?_, ?_, ?_⟩
    · have := (hS.trans hkeys.symm).map bs
      rw [List.map_map] at this
      simpa [Function.comp_def, bs_str] using this
    · rw [List.length_map, List.map_map]
      have := hrow; rw [World.size_alloc] at this; exact this
    exact ((Off.refl [] w).alloc _).trans_nil (Off.of_below hb)
  have HK := Lib.hid hK; have HC := Lib.hid hC; have HX := Lib.hid hx; have HL := Lib.hid hl; clear hK hC hseq hkeys hlen hr hs hD D hx hl ha
  have hSF : Calls Tryz.prog 162 #[.func (.func 236) #[] #[.pointer (some ⟨w.heap.size, 0, none⟩)], .func (.func 141) #[] #[]] (w.alloc (.cells #[.map (some b)] 122)) fun e w' => ∃ v, e = .returned v ∧ w'.ownsRow (w.heap.size + 1) 9 1 v l.length ((PDisk.sortN l).map fun x => .string x.1) ∧ Off [] w w' := by
    go_enter Tryz.func162, Tryz.ntmps162
    go_wp2_with fail
    refine HC.out.mono ?_
    rintro e w1 ⟨v, xs, rfl, hp, hrow, ho⟩; have HP := Lib.hid hp; have hS := sortf_own hrow (w0 := w) (by omega) ho (fun x hx => by
      obtain ⟨y, hy, rfl⟩ := List.mem_map.1 (hp.mem_iff.1 hx); exact HX.out y hy) (by rw [hp.length_eq, List.length_map]; exact HL.out)
    have HS := Lib.hid hS; clear hp hrow ho hS
    go_wp2_with fail
    refine HS.out.mono ?_
    rintro e w2 ⟨rfl, hrow, ho⟩
    go_wp2_with fail
    go_ret
    refine ⟨v, rfl, ?_, ho⟩
    have e1 : (sortB xs).map Value.string = (PDisk.sortN l).map fun x => .string x.1 := by
      rw [sortB_perm HP.out, ← sortN_fst, List.map_map]; rfl
    rw [e1, HP.out.length_eq, List.length_map] at hrow; exact hrow
  have HSF := Lib.hid hSF; clear hSF
  go_enter Tryz.func81, Tryz.ntmps81
  go_wp2_with fail
  refine HK.out.mono ?_
  rintro e w1 ⟨rfl, rfl⟩
  go_wp2_with fail
  refine HSF.out.mono ?_
  rintro e w2 ⟨v, rfl, hrow, ho⟩
  go_wp2_with fail
  go_ret
  exact ⟨v, rfl, hrow, ho⟩
end
section
open Go.RowKit Go.Op Go.Maps
theorem lookN_mem {l : NameL} (ha : Apart l) {x : ByteArray × Nat} (hx : x ∈ l) : lookN l x.1 = x.2 := by
  induction l with
  | nil => cases hx
  | cons y l ih =>
    obtain ⟨h1, h2⟩ := List.pairwise_cons.1 ha; unfold lookN
    rcases List.mem_cons.1 hx with rfl | hx
    · rw [if_pos rfl]
    rw [if_neg (h1 x hx)]; exact ih h2 hx
theorem sortN_mem {l : NameL} {x : ByteArray × Nat} : x ∈ PDisk.sortN l ↔ x ∈ l := by unfold PDisk.sortN; exact List.mem_mergeSort
theorem sortN_len (l : NameL) : (PDisk.sortN l).length = l.length := by unfold PDisk.sortN; exact List.length_mergeSort l
def nodeOf (D : PDisk) (x : ByteArray × Nat) : Node := match D.inode x.2 with | some n => { n.node with path := x.1 } | none => ⟨x.1, 0, ⟨#[]⟩, 0⟩
theorem Ok.inode {D : PDisk} {n : Nat} (h : Ok D n) (ha : Apart D.names) {x : ByteArray × Nat} (hx : x ∈ D.names) : ∃ m, D.inode x.2 = some m ∧ D.at_ x.1 = some m := by
  have h1 := lookN_mem ha hx; obtain ⟨h2, h3⟩ := h.names x.1; have h4 := (h3 ((hasN_iff _ _).2 ⟨x, hx, rfl⟩)).1; rw [h1] at h2 h4; have hl : x.2 - 1 < D.inos.length := by omega
  have h5 : D.inode x.2 = some D.inos[x.2 - 1] := by
    unfold PDisk.inode; rw [if_neg (by omega), List.getElem?_eq_getElem hl]
  exact ⟨_, h5, by unfold PDisk.at_; rw [h1, h5]⟩
theorem Ok.size {D : PDisk} {n : Nat} (h : Ok D n) {x : ByteArray × Nat} (hx : x ∈ D.names) : x.1.size ≤ 400 := ((h.names x.1).2 ((hasN_iff _ _).2 ⟨x, hx, rfl⟩)).2
theorem filterMap_some {α β : Type} (f : α → Option β) (g : α → β) : ∀ (l : List α), (∀ x ∈ l, f x = some (g x)) → l.filterMap f = l.map g
  | [], _ => rfl
  | x :: l, h => by
    rw [List.filterMap_cons_some (h x (List.mem_cons_self ..)), List.map_cons, filterMap_some f g l (fun y hy => h y (List.mem_cons_of_mem _ hy))]
theorem Ok.tree {D : PDisk} {n : Nat} (h : Ok D n) (ha : Apart D.names) : D.tree = (PDisk.sortN D.names).map (nodeOf D) := by
  unfold PDisk.tree; refine filterMap_some _ _ _ fun x hx => ?_
  obtain ⟨m, h1, -⟩ := h.inode ha (sortN_mem.1 hx); unfold nodeOf; rw [h1]
  rfl
theorem nd_four_at {w : World} {g : Nat} {t : TypeId} {a b c d : Value} (h : Blk w g t #[a, b, c, d]) : ∀ j u, [a, b, c, d][j]? = some u → w.cell? ((⟨g, 0, none⟩ : Addr).add j) = some u := by
  intro j u hj
  rw [addr_add, h.cell]
  simpa using hj
set_option maxRecDepth 100000 in
set_option maxHeartbeats 8000000 in
theorem dtree_any (p n : Nat) (G : Geo) (D : PDisk) (w : World) (h : DiskM w p G D) (hk : Ok D n) (hn : n ≤ 50000000) :
    Calls Tryz.prog 27 #[.pointer (some ⟨p, 0, none⟩)] w fun e w' => ∃ v, e = .returned v ∧ w'.ownsRow w.heap.size 105 4 v D.tree.length (cellsOf D.tree) ∧ Off [] w w' := by
  obtain ⟨i0, hi0, hz0, hz1, hz2⟩ := info_parts infoNode; have H := Lib.hid (And.intro h hk); have ha := h.parts.names.1; have HA := Lib.hid ha; have hT := hk.tree ha; obtain ⟨S, hS⟩ : ∃ S, PDisk.sortN D.names = S := ⟨_, rfl⟩
  rw [hS] at hT; have hSm : ∀ x ∈ S, x ∈ D.names := fun x hx => sortN_mem.1 (hS ▸ hx)
  have hSl : S.length = D.names.length := by rw [← hS, sortN_len]
  have hIN := din_any G.nb D.names w h.parts.names (fun x hx => Nat.le_trans (hk.size hx) (by decide)) (by have := hk.nlen; omega); rw [hS, ← hSl] at hIN; have hSb : S.length ≤ 1000000 := by have := hk.nlen; omega
  have HIN := Lib.hid hIN; have HSM := Lib.hid hSm; rw [hT, List.length_map]; obtain ⟨L, hL⟩ : ∃ L, S.length = L := ⟨_, rfl⟩
  have HL := Lib.hid hL; rw [hL] at hSb; have hc := h.blk.cell; unfold diskCells at hc; clear h hk ha hT hS hSm hSl hIN; rw [hL]; clear hL
  go_enter Tryz.func27, Tryz.ntmps27
  go_wp2_with fail
  refine HIN.out.mono ?_
  rintro e w1 ⟨v, rfl, hrow, ho1⟩; have hrow' : w1.ownsRow (w.heap.size + 1) 9 1 v (S.map (·.1)).length ((S.map (·.1)).map Value.string) := by
    rw [List.length_map, List.map_map]; exact hrow
  obtain ⟨pl, cap, rfl, hcell⟩ := own_strs hrow'; rw [List.length_map, HL.out]; have HCELL := Lib.hid hcell; have HO1 := Lib.hid ho1; clear hrow hrow' hcell ho1 hc
  go_wp2_with fail
  go_loopw [15, 3] (fun x v wr => ∃ i : Nat, x = .int .i64 i ∧ i ≤ L ∧ wr.ownsRow w1.heap.size 105 4 v i (cellsOf ((S.map (nodeOf D)).take i)) ∧ Off [] w1 wr) (fun x _ _ => L - (intOf x).toNat)
  case atStart => exact ⟨0, rfl, by omega, ⟨rfl, .inl ⟨rfl, rfl⟩⟩, Off.refl _ _⟩
  case round =>
    obtain ⟨i, rfl, hi, hown, ho⟩ := hrel; have HO := Lib.hid ho; have HOWN := Lib.hid hown
    by_cases hlt : i < L
    · have hiS : i < S.length := by rw [HL.out]; exact hlt
      obtain ⟨x, hx⟩ : ∃ x, S[i]? = some x := ⟨_, List.getElem?_eq_getElem hiS⟩
      have hxm := HSM.out x (List.mem_of_getElem? hx); obtain ⟨gs, rfl, hgs, hcs⟩ := HCELL.out i x.1 (by rw [List.getElem?_map, hx]; rfl); have hcs2 : wr.cell? ⟨gs, i, none⟩ = some (.string x.1) := (ho.cell (p := ⟨gs, i, none⟩) hgs (by simp)).trans hcs
      obtain ⟨m, hm1, hm2⟩ := H.out.2.inode HA.out hxm; have HD := H.out.1.off (k := []) (HO1.out.trans_nil ho) (by simp) (by simp); obtain ⟨q, hq1, hq2, -, -, -⟩ := at_some HD hm2; have HAT := Lib.hid (dat_some p G D x.1 wr HD (by have := H.out.2.size hxm; unfold maxLen; omega) (H.out.2.look (by omega) _) q hq1); have HQ := Lib.hid hq2
      have hTK : (S.map (nodeOf D)).take (i + 1) = (S.map (nodeOf D)).take i ++ [⟨x.1, m.node.kind, m.node.data, m.node.mode⟩] := by
        have : (S.map (nodeOf D))[i]? = some ⟨x.1, m.node.kind, m.node.data, m.node.mode⟩ := by
          rw [List.getElem?_map, hx]
          show some (nodeOf D x) = _
          unfold nodeOf; rw [hm1]
        rw [List.take_add_one, this]; rfl
      have HTK := Lib.hid hTK; have hilt : (i : Int) < L := by omega
      generalize x.1 = path at *
      clear hxm hx hcs hm1 hm2 HD hq1 hq2 hTK ho hown
      go_wp2_with fail
      refine HAT.out.mono ?_
      rintro e w2 ⟨rfl, ho2⟩; have hB := HQ.out.off ho2 (by simp); have HB := Lib.hid hB; have hcq := hB.cell; have hfq := hB.frozen; have hlq := hB.lt; have HO2 := Lib.hid ho2; unfold inoCells at hcq; clear ho2 hB hcs2; have hown2 := own_offk (k := []) HOWN.out HO2.out (by simp); have hlw : w1.heap.size ≤ w2.heap.size := Nat.le_trans HO.out.size HO2.out.size
      have hnB := (hown2.alloc (.cells #[.string path, .int .i64 m.node.kind, .string m.node.data, .int .i64 m.node.mode] 105)).alloc (.cells #[.string path, .int .i64 m.node.kind, .string m.node.data, .int .i64 m.node.mode] 105); clear hown2
      go_wp2_with (at_builtin; refine wpList_append_own _ rfl _ _ 22 rfl w1.heap.size 105 i0 node0.val 4 48 Tryz.underlying22 hi0 hz0 hz1 hz2 rfl (by decide) _ _ _ rfl hnB ⟨w2.heap.size + 1, 0, none⟩ 1 1 [_, _, _, _] rfl rfl (nd_four_at (Blk.new1 w2 _ _ _)) (by simp [Value.oneCell']) (by unfold maxLen; omega) (by omega) (by simp; omega) ?_; intro v' W6 hown' hgrow _)
      refine ⟨⟨i + 1, by congr 1, by omega, ?_, ?_⟩, by simp only [intOf]; omega⟩
      · rw [HTK.out, cellsOf_append]
        exact hown'
      exact own_grown (((HO.out.trans_nil HO2.out).alloc _).alloc _) hnB hgrow
    obtain rfl : i = L := by omega
    clear hown ho
    go_wp2_with fail
    go_ret
    refine ⟨_, rfl, ?_, HO1.out.trans_nil HO.out⟩
    have := HOWN.out; rw [List.take_of_length_le (by rw [List.length_map, HL.out]; exact Nat.le_refl _)] at this; exact ownsRow_base_a this HO1.out.size
def Light (D : PDisk) : Prop := ∀ m ∈ D.inos, m.node.data.size ≤ maxLen
theorem Light.crash {D : PDisk} (h : Light D) (f : FateP) : Light (D.crash f) := fun m hm => by
  obtain ⟨x, hx, rfl⟩ := List.mem_map.1 (show m ∈ D.inos.map (PDisk.tear f.torn) from hm); have := h x hx; unfold PDisk.tear
  split
  · show (x.node.data.extract 0 _).size ≤ maxLen
    rw [ByteArray.size_extract]; omega
  exact this
theorem Light.step {D : PDisk} (h : Light D) (c p q : ByteArray) : Light (D.step c p q).2.2 := by
  unfold PDisk.step
  split
  · exact h
  dsimp only
  split
  · exact h
  split
  · exact Light.crash (D := { D with clock := D.clock + 1, trace := D.trace ++ [⟨c, p, q⟩] }) h _
  split <;> exact h
theorem Light.fits {D : PDisk} {n : Nat} (h : Light D) (hk : Ok D n) : Fits D.tree := fun x hx => by
  unfold PDisk.tree at hx; obtain ⟨y, hy, hyx⟩ := List.mem_filterMap.1 hx; obtain ⟨m, hm, rfl⟩ := Option.map_eq_some_iff.1 hyx; have hy' := sortN_mem.1 hy; have hin : m ∈ D.inos := by
    unfold PDisk.inode at hm
    split at hm
    · cases hm
    exact List.mem_of_getElem? hm
  refine ⟨?_, h m hin⟩
  have hh : ∀ l : NameL, y ∈ l → hasN l y.1 = true := fun l => by
    induction l with
    | nil => intro e; cases e
    | cons z l ih =>
      intro e
      rcases List.mem_cons.1 e with rfl | e
      · simp [hasN]
      simp [hasN, ih e]
  have := ((hk.names y.1).2 (hh _ hy')).2
  show y.1.size ≤ maxLen
  unfold maxLen; omega
end
end Go.Proofs.YthciejabapdbgaaGreatDoor
namespace Go.Proofs
open Go.Shelf
def Tryz.delf5_ren : Go.Shelf.Ren := ⟨fun | 5 => 239 | n => n, fun | 0 => 0 | 4 => 4 | 23 => 122 | 24 => 3 | 26 => 9 | 27 => 302 | n => n, fun | n => n⟩
theorem Tryz.delf5 : Go.Proofs.SlLaysDf.n5 Tryz.prog Tryz.delf5_ren := {
  mixed := by kernel_rfl
  f5 := ⟨Tryz.f239.name, by decide, Tryz.func239.trans (congrArg some (by kernel_rfl))⟩
  t0 := Tryz.underlying0
  a0 := Tryz.isAgg0
  z0 := Tryz.sizeOf0
  v0 := Tryz.zeroValue0
  t4 := Tryz.underlying4
  a4 := Tryz.isAgg4
  z4 := Tryz.sizeOf4
  v4 := Tryz.zeroValue4
  t23 := Tryz.underlying122
  a23 := Tryz.isAgg122
  z23 := Tryz.sizeOf122
  v23 := Tryz.zeroValue122
  a24 := Tryz.isAgg3
  z24 := Tryz.sizeOf3
  a26 := Tryz.isAgg9
  z26 := Tryz.sizeOf9
  t27 := Tryz.underlying302
  a27 := Tryz.isAgg302
  z27 := Tryz.sizeOf302
  v27 := Tryz.zeroValue302 }
end Go.Proofs
namespace Go.Proofs.YthciejabapdbgaaGreatDoor
section
open Go.RowKit Go.Op Go.Maps
theorem filt_len (f : Lit × DataW Unit → Bool) (g : ByteArray × Nat → Bool) (hfg : ∀ (e : Lit × DataW Unit) (x : ByteArray × Nat), e.1 = strL x.1 → f e = g x) :
    ∀ (l : NameL) (es : List (Lit × DataW Unit)), es.Pairwise (fun p q => p.1 ≠ q.1) → Apart l → es.length = l.length → (∀ x ∈ l, ∃ e ∈ es, e.1 = strL x.1) → (es.filter f).length = (l.filter g).length
  | [], es, _, _, hn, _ => by
    have : es = [] := List.length_eq_zero_iff.1 hn
    subst this; rfl
  | x :: l, es, hp, ha, hn, hm => by
    obtain ⟨e, he, hx⟩ := hm x (List.mem_cons_self ..); obtain ⟨a, b, rfl⟩ := List.append_of_mem he; obtain ⟨h1, h2⟩ := List.pairwise_cons.1 ha; have hp' := List.pairwise_append.1 hp; have hpb := List.pairwise_cons.1 hp'.2.1
    have ih := filt_len f g hfg l (a ++ b) (List.pairwise_append.2 ⟨hp'.1, hpb.2, fun y hy z hz => hp'.2.2 y hy z (List.mem_cons_of_mem _ hz)⟩) h2 (by simp at hn ⊢; omega) (fun y hy => by
      obtain ⟨e', he', hy'⟩ := hm y (List.mem_cons_of_mem _ hy); refine ⟨e', ?_, hy'⟩
      rcases List.mem_append.1 he' with h | h
      · exact List.mem_append_left _ h
      rcases List.mem_cons.1 h with rfl | h
      · exfalso
        rw [hx] at hy'; exact h1 y hy (strL_inj hy')
      exact List.mem_append_right _ h)
    have hf := hfg e x hx; rw [List.filter_append, List.length_append] at ih ⊢
    cases hg : g x
    · rw [hg] at hf
      rw [List.filter_cons_of_neg (by simp [hf]), List.filter_cons_of_neg (by simp [hg])]; exact ih
    rw [hg] at hf; rw [List.filter_cons_of_pos hf, List.filter_cons_of_pos hg, List.length_cons, List.length_cons]; omega
theorem hasN_cons (x : ByteArray × Nat) (l : NameL) (p : ByteArray) : hasN (x :: l) p = (decide (x.1 = p) || hasN l p) ∧ lookN (x :: l) p = if x.1 = p then x.2 else lookN l p := ⟨rfl, rfl⟩
theorem hasN_filter (g : ByteArray → Bool) (l : NameL) (p : ByteArray) : hasN (l.filter fun x => !g x.1) p = (!g p && hasN l p) ∧ lookN (l.filter fun x => !g x.1) p = if g p then 0 else lookN l p := by
  induction l with
  | nil => cases g p <;> exact ⟨rfl, rfl⟩
  | cons x l ih =>
    obtain ⟨h1, h2⟩ := ih; obtain ⟨k1, k2⟩ := hasN_cons x l p
    cases hg : g x.1
    · rw [List.filter_cons_of_pos (by simp [hg])]
      obtain ⟨k3, k4⟩ := hasN_cons x (l.filter fun x => !g x.1) p; rw [k1, k2, k3, k4, h1, h2]
      by_cases e : x.1 = p
      · subst e
        rw [hg]; simp
      rw [decide_eq_false e, if_neg e, if_neg e]; simp
    rw [List.filter_cons_of_neg (by simp [hg]), h1, h2, k1, k2]
    by_cases e : x.1 = p
    · subst e
      rw [hg]; simp
    rw [decide_eq_false e, if_neg e]; simp
theorem find_pos {f : Lit × DataW Unit → Bool} {e : Lit × DataW Unit} {es : List (Lit × DataW Unit)} (h : f e = true) : (e :: es).find? f = some e := by rw [List.find?_cons, h]
theorem find_neg {f : Lit × DataW Unit → Bool} {e : Lit × DataW Unit} {es : List (Lit × DataW Unit)} (h : f e = false) : (e :: es).find? f = es.find? f := by rw [List.find?_cons, h]
theorem any_filter_key (pd : Lit → Bool) (k : Lit) : ∀ (es : List (Lit × DataW Unit)), (es.filter fun p => !pd p.1).any (fun p => p.1.sameKey k) = (!pd k && es.any (fun p => p.1.sameKey k)) ∧
    (es.filter fun p => !pd p.1).find? (fun p => p.1.sameKey k) = if pd k then none else es.find? (fun p => p.1.sameKey k)
  | [] => by cases pd k <;> exact ⟨rfl, rfl⟩
  | e :: es => by
    obtain ⟨h1, h2⟩ := any_filter_key pd k es
    cases hs : e.1.sameKey k
    · have n1 : ∀ l, (e :: l).find? (fun p => p.1.sameKey k) = l.find? (fun p => p.1.sameKey k) := fun l => find_neg hs
      cases hp : pd e.1
      · rw [List.filter_cons_of_pos (by simp [hp]), List.any_cons, List.any_cons, n1, n1, h1, h2, hs]
        simp
      rw [List.filter_cons_of_neg (by simp [hp]), List.any_cons, n1, h1, h2, hs]; simp
    have e1 := WideAt.sameKey_eq hs; have n1 : ∀ l, (e :: l).find? (fun p => p.1.sameKey k) = some e := fun l => find_pos hs
    cases hp : pd e.1
    · have hk : pd k = false := by rw [← e1]; exact hp
      rw [List.filter_cons_of_pos (by simp [hp]), List.any_cons, List.any_cons, n1, n1, hs, hk]; simp
    have hk : pd k = true := by rw [← e1]; exact hp
    rw [List.filter_cons_of_neg (by simp [hp]), h1, h2, hk]; simp
theorem NMat.deleted {w' : World} {b n : Nat} {l : NameL} (hl : Apart l) {D : DataW Unit} (ht : Tidy D) (hs : size D = l.length)
    (hr : ∀ p, has D (strL p) = hasN l p ∧ D.atKey (strL p) (.lit (.int .i64 0)) = .lit (.int .i64 (lookN l p))) (pd : Lit → Bool) (g : ByteArray → Bool) (hg : ∀ p, pd (strL p) = g p)
    (h' : w'.ownsMap Tryz.prog 9 (plainElem Tryz.prog 3) b n (Lib.deleteFuncD (fun k _ => pd k) D)) : NMat w' b (l.filter fun x => !g x.1) := by
  obtain ⟨es, rfl, hp⟩ := ht; have hlen : size (Lib.deleteFuncD (fun k _ => pd k) (.map es)) = (l.filter fun x => !g x.1).length := by
    show (es.filter fun p => !pd p.1).length = _
    refine filt_len (fun p => !pd p.1) (fun x => !g x.1) (fun e x he => by show (!pd e.1) = (!g x.1); rw [he, hg]) l es hp hl hs (fun x hx => ?_)
    have h1 : has (.map es) (strL x.1) = true := by rw [(hr x.1).1]; exact (hasN_iff _ _).2 ⟨x, hx, rfl⟩
    obtain ⟨e, he, h2⟩ := List.any_eq_true.1 h1; exact ⟨e, he, WideAt.sameKey_eq h2⟩
  refine ⟨List.Pairwise.filter _ hl, _, ?_, hlen, fun p => ?_⟩
  · have := ownsMap_exact h'
    rw [hlen] at this; exact this
  obtain ⟨h1, h2⟩ := any_filter_key pd (strL p) es; obtain ⟨h3, h4⟩ := hasN_filter g l p; obtain ⟨h5, h6⟩ := hr p; refine ⟨?_, ?_⟩
  · rw [h3, ← h5, ← hg]
    exact h1
  have h7 : ∀ z : DataW Unit, (DataW.map (es.filter fun q => !pd q.1)).atKey (strL p) z = if pd (strL p) then z else (DataW.map es).atKey (strL p) z := fun z => by
    unfold DataW.atKey; dsimp only; rw [h2]
    cases pd (strL p) <;> rfl
  rw [h4]; refine (h7 _).trans ?_; rw [hg, h6]
  cases g p <;> rfl
theorem num_shape_ {v : Value} {y : DataW Unit × List MemPlace} (h : plainElem Tryz.prog 3 v = some y) : ∃ c : Int, v = Value.int .i64 c := by
  obtain ⟨c, rfl, -⟩ := plainElem_int_inv Tryz.underlying3 h; exact ⟨c, rfl⟩
set_option maxRecDepth 100000 in
theorem edcc_any (ge : Nat) (path x : ByteArray) (a v : Int) (uv : Value) (W : World) (hb : Blk W ge 36 #[.int .i64 a, .string path, uv]) (hT : Tabs W) :
    Calls Tryz.prog 240 #[.string x, .int .i64 v, .pointer (some ⟨ge, 0, none⟩)] W fun e w' => e = .returned (.bool (within (str x) (str path))) ∧ Off [] W w' := by
  have hc := hb.cell; have HWI := Lib.hid (nwithin_any x path W hT); clear hb hT
  go_enter Tryz.func240, Tryz.ntmps240
  go_wp2_with fail
  refine HWI.out.mono ?_
  rintro e w1 ⟨rfl, ho⟩
  go_wp2_with fail
  go_ret
  exact ⟨rfl, ho⟩
theorem EDCCEN : ∀ args w, (callFunc 240 args).run Tryz.prog w = .ok (.enter 240 args) w := enters_of Tryz.func240 (by kernel_rfl) rfl
theorem Off.grown_ {w w' : World} (h : Off [] w w') (row : Option Nat) : w.grownBy w' row := ⟨h.os, h.tape, h.output, h.size, fun i hi _ => h.block i hi (by simp)⟩
theorem delf_any (m ge : Nat) (l : NameL) (a : Int) (path : ByteArray) (uv : Value) (W : World) (hN : NMat W m l) (hb : Blk W ge 36 #[.int .i64 a, .string path, uv]) (hT : ∀ W', Off [m] W W' → Tabs W') :
    Calls Tryz.prog 239 #[.map (some m), .func (.func 240) #[] #[.pointer (some ⟨ge, 0, none⟩)]] W fun e w' => e = .returned (.tuple #[]) ∧ NMat w' m (l.filter fun x => !within (str x.1) (str path)) ∧ Off [m] W w' := by
  have hmb := hN.isMap; obtain ⟨hl, D, hD, hs, hr⟩ := hN; have h := AnyDf.maps_DeleteFunc Tryz.delf5 strK (plainElem Tryz.prog 3) (fun k _ => match k with | .string s => within s (str path) | _ => false) 240 #[.pointer (some ⟨ge, 0, none⟩)] m l.length D W EDCCEN hD (fun W1 key val kl yd yp hg hk hv => by
    obtain ⟨z, rfl, hkl, -⟩ := Maps.keyOf_str Tryz.underlying9 hk; obtain ⟨c, rfl⟩ := num_shape_ hv; have ho : Off [m] W W1 := (Off.refl [m] W).grown hg (fun k hk => by cases hk; exact .inr (by simp))
    have hb1 := hb.off ho (by simp; exact fun e => hmb.ne hb e.symm); refine (edcc_any ge path ⟨z.toArray⟩ a c uv W1 hb1 (hT W1 ho)).mono fun e w' ⟨he, ho'⟩ => ⟨?_, ho'.grown_ none⟩
    rw [he, hkl]
    rfl)
  refine h.mono fun e w' ⟨he, hown, hg⟩ => ⟨he, NMat.deleted hl (hD.tidy strK) hs hr _ (fun p => within (str p) (str path)) (fun p => rfl) hown, (Off.refl [m] W).grown hg (fun k hk => by cases hk; exact .inr (by simp))⟩
def PDisk.laid1 (path : ByteArray) (E : PDisk) (x : Node) : PDisk :=
  if within x.p (str path) then { (E.make x (E.clock + 1) false) with names := putN E.names x.path (E.inos.length + 1) } else E
def PDisk.editN (D : PDisk) (path : ByteArray) (t : List Node) : PDisk := t.foldl (PDisk.laid1 path) { D with names := D.names.filter fun y => !within (str y.1) (str path) }
def PDisk.edit (D : PDisk) (e : EditP) : PDisk :=
  if (putR D.tree e.path e.value).2 ≠ 0 then D else
    { D.editN e.path (putR D.tree e.path e.value).1 with later := (D.editN e.path (putR D.tree e.path e.value).1).later ++ [(D.editN e.path (putR D.tree e.path e.value).1).names] }
def PDisk.edited (D : PDisk) : PDisk := if D.off then D else D.edits.foldl (fun E e => if e.at_ = (D.trace.length : Int) then E.edit e else E) D
end
section
open Go.RowKit Go.Op Go.Maps
def TurnM (p m : Nat) (G : Geo) (D1 : PDisk) (W W' : World) : Prop :=
  ∃ G', G'.nb = m ∧ G'.sb = G.sb ∧ DiskM W' p G' D1 ∧ m ∉ G'.rest ∧ Off (p :: m :: G.rest) W W' ∧ ∀ b ∈ G'.rest, b ∈ G.rest ∨ W.heap.size ≤ b
theorem TurnM.off {p m : Nat} {G : Geo} {D1 : PDisk} {W w1 w2 : World} (h : TurnM p m G D1 W w1) (ho : Off [] w1 w2) : TurnM p m G D1 W w2 := by
  obtain ⟨G', h1, h2, h3, h4, h5, h6⟩ := h; exact ⟨G', h1, h2, h3.off (k := []) ho (by simp) (by simp), h4, h5.trans ho (fun _ _ h => by simp at h), h6⟩
theorem TurnM.next {p m : Nat} {G : Geo} {D2 : PDisk} {W w1 w2 : World} {G' : Geo} (hs : G'.sb = G.sb) (ho : Off (p :: m :: G.rest) W w1) (hp : ∀ b ∈ G'.rest, b ∈ G.rest ∨ W.heap.size ≤ b) (h : TurnM p m G' D2 w1 w2) : TurnM p m G D2 W w2 := by
  obtain ⟨G2, k1, k2, k3, k4, k5, k6⟩ := h; refine ⟨G2, k1, k2.trans hs, k3, k4, ho.trans k5 (fun x hx hm => ?_), fun b hb => ?_⟩
  · rcases List.mem_cons.1 hm with rfl | hm
    · exact List.mem_cons_self ..
    rcases List.mem_cons.1 hm with rfl | hm
    · exact List.mem_cons_of_mem _ (List.mem_cons_self ..)
    rcases hp x hm with h | h
    · exact List.mem_cons_of_mem _ (List.mem_cons_of_mem _ h)
    omega
  rcases k6 b hb with h | h
  · exact hp b h
  exact .inr (Nat.le_trans ho.size h)
theorem laid_step (D : PDisk) (path : ByteArray) {t : List Node} {k : Nat} (hk : k < t.length) : (t.take (k + 1)).foldl (PDisk.laid1 path) D = PDisk.laid1 path ((t.take k).foldl (PDisk.laid1 path) D) t[k] := by
  rw [List.take_succ_eq_append_getElem hk, List.foldl_append]; rfl
theorem laid_same (path : ByteArray) : ∀ (t : List Node) (D : PDisk), (t.foldl (PDisk.laid1 path) D).later = D.later ∧ (t.foldl (PDisk.laid1 path) D).safe = D.safe ∧ (t.foldl (PDisk.laid1 path) D).trace = D.trace ∧ (t.foldl (PDisk.laid1 path) D).off = D.off ∧ (t.foldl (PDisk.laid1 path) D).fates = D.fates ∧ (t.foldl (PDisk.laid1 path) D).edits = D.edits ∧ (t.foldl (PDisk.laid1 path) D).ev = D.ev
  | [], D => ⟨rfl, rfl, rfl, rfl, rfl, rfl, rfl⟩
  | x :: t, D => by
    have h := laid_same path t (PDisk.laid1 path D x); have h4 : (PDisk.laid1 path D x).later = D.later ∧ (PDisk.laid1 path D x).safe = D.safe ∧ (PDisk.laid1 path D x).trace = D.trace ∧ (PDisk.laid1 path D x).off = D.off ∧ (PDisk.laid1 path D x).fates = D.fates ∧ (PDisk.laid1 path D x).edits = D.edits ∧ (PDisk.laid1 path D x).ev = D.ev := by
      unfold PDisk.laid1
      split <;> exact ⟨rfl, rfl, rfl, rfl, rfl, rfl, rfl⟩
    rw [h4.1, h4.2.1, h4.2.2.1, h4.2.2.2.1, h4.2.2.2.2.1, h4.2.2.2.2.2.1, h4.2.2.2.2.2.2] at h; exact h
theorem laid_few (path : ByteArray) : ∀ (t : List Node) (D : PDisk), (t.foldl (PDisk.laid1 path) D).inos.length ≤ D.inos.length + t.length ∧ (t.foldl (PDisk.laid1 path) D).names.length ≤ D.names.length + t.length ∧ (t.foldl (PDisk.laid1 path) D).clock = D.clock
  | [], D => ⟨Nat.le_refl _, Nat.le_refl _, rfl⟩
  | x :: t, D => by
    obtain ⟨h1, h2, h3⟩ := laid_few path t (PDisk.laid1 path D x); have h4 : (PDisk.laid1 path D x).inos.length ≤ D.inos.length + 1 ∧ (PDisk.laid1 path D x).names.length ≤ D.names.length + 1 ∧ (PDisk.laid1 path D x).clock = D.clock := by
      unfold PDisk.laid1
      split
      · refine ⟨by show (D.inos ++ [_]).length ≤ _; simp, length_putN_le _ _ _, rfl⟩
      exact ⟨Nat.le_succ _, Nat.le_succ _, rfl⟩
    rw [List.foldl_cons]; simp only [List.length_cons]; exact ⟨by omega, by omega, h3.trans h4.2.2⟩
set_option maxRecDepth 100000 in
set_option maxHeartbeats 16000000 in
theorem editc_any (p m ge gt gd tn tc : Nat) (tp : Option Addr) (G : Geo) (D : PDisk) (ea : Int) (path : ByteArray) (uv : Value) (t : List Node) (W : World) (hM : DiskM W p { G with nb := m } D) (hm : m ∉ G.rest)
    (hbe : Blk W ge 36 #[.int .i64 ea, .string path, uv]) (hbt : Blk W gt 22 #[.slice tp tn tc]) (hbd : Blk W gd 37 #[.pointer (some ⟨p, 0, none⟩)])
    (hne : ge ∉ p :: m :: G.rest ∧ gt ∉ p :: m :: G.rest ∧ gd ∉ p :: m :: G.rest) (htn : t.length = tn) (hR : Row W tp t) (hRb : ∀ a, tp = some a → a.block ∉ p :: m :: G.rest) (hF : Fits t) (hin : D.inos.length ≤ 1000000000000) (hnm : D.names.length ≤ 1000000) (htl : tn ≤ 1000000) (hcl : D.clock ≤ 1000000000000)
    (hT : ∀ W', Off (p :: m :: G.rest) W W' → Tabs W') :
    Calls Tryz.prog 238 #[.map (some m), .pointer (some ⟨ge, 0, none⟩), .pointer (some ⟨gt, 0, none⟩), .pointer (some ⟨gd, 0, none⟩)] W
      (TurnP p m G (D.editN path t) W) := by
  have HM := Lib.hid hM; have HMM := Lib.hid hm; have HBE := Lib.hid hbe; have HBT := Lib.hid hbt; have HBD := Lib.hid hbd; have HNE := Lib.hid hne; have HTN := Lib.hid htn; have HR := Lib.hid hR; have HRB := Lib.hid hRb; have HF := Lib.hid hF; have HT := Lib.hid hT; have HBB := Lib.hid (And.intro hin (And.intro hnm hcl))
  have HDF := Lib.hid (delf_any m ge D.names ea path uv W hM.parts.names hbe (fun W' ho => hT W' (ho.mono (fun x _ h => by simp at h; subst h; exact List.mem_cons_of_mem _ (List.mem_cons_self ..))))); clear hM hm hbe hbt hbd hne htn hR hRb hF hT hin hnm hcl
  go_enter Tryz.func238, Tryz.ntmps238
  go_wp2_with fail
  refine HDF.out.mono ?_
  rintro e w1 ⟨rfl, hN1, ho1⟩; obtain ⟨D0, hD0⟩ : ∃ D0 : PDisk, { D with names := D.names.filter fun y => !within (str y.1) (str path) } = D0 := ⟨_, rfl⟩
  have HD0 := Lib.hid (show D.editN path t = t.foldl (PDisk.laid1 path) D0 by unfold PDisk.editN; rw [hD0]); have HD1 := Lib.hid (show D0.inos.length ≤ 1000000000000 ∧ D0.names.length ≤ 1000000 ∧ D0.clock ≤ 1000000000000 by
    subst hD0; refine ⟨HBB.out.1, ?_, HBB.out.2.2⟩; have := List.length_filter_le (fun y : ByteArray × Nat => !within (str y.1) (str path)) D.names; have := HBB.out.2.1
    show (D.names.filter fun y => !within (str y.1) (str path)).length ≤ 1000000
    omega)
  have hst : TurnM p m G D0 W w1 := by
    have := turn_names HM.out HMM.out hN1 ho1; rw [hD0] at this; exact this.2
  have HST := Lib.hid hst; have hbt1 := HBT.out.off ho1 (by have := HNE.out.2.1; simp at this ⊢; exact this.2.1); have hct := hbt1.cell; have htlb : tn ≤ 1000000 := htl
  clear hN1 ho1 hst hD0 HDF hbt1
  go_wp2_with fail
  go_loopw [12] (fun x wr => ∃ k : Nat, x = .int .i64 k ∧ k ≤ tn ∧ Hid (TurnM p m G ((t.take k).foldl (PDisk.laid1 path) D0) W wr)) (fun x _ => tn - (intOf x).toNat)
  case atStart => exact ⟨0, rfl, by omega, HST⟩
  case round =>
    clear HST hct; obtain ⟨k, rfl, hk, HTM⟩ := hrel
    by_cases hlt : k < tn
    · have hkt : k < t.length := by rw [HTN.out]; exact hlt
      have HLS := Lib.hid (laid_step D0 path hkt); obtain ⟨E, hE⟩ : ∃ E, (t.take k).foldl (PDisk.laid1 path) D0 = E := ⟨_, rfl⟩
      have HEF := Lib.hid (show E.inos.length ≤ 1000001000000 ∧ E.names.length ≤ 2000000 ∧ E.clock ≤ 1000000000000 by
        obtain ⟨h1, h2, h3⟩ := laid_few path (t.take k) D0; rw [hE] at h1 h2 h3; have h4 := HD1.out; have h5 : (t.take k).length ≤ k := by rw [List.length_take]; omega
        omega)
      rw [hE] at HTM HLS; obtain ⟨G', hnb, hsb, hM', hm', hoff, hrest⟩ := HTM.out; have HM' := Lib.hid hM'; have HG := Lib.hid (And.intro hnb (And.intro hsb (And.intro hm' (And.intro hoff hrest)))); obtain ⟨a, rfl, hn0, hab⟩ := HR.out.get k hkt; have hakk : a.block ∉ p :: m :: G.rest := HRB.out a rfl
      have hn : NodeAt wr (a.add (k * 4)) t[k] := by
        have hbk : (a.add (k * 4)).block ∉ p :: m :: G.rest := by rw [add_block]; exact hakk
        have hbl : (a.add (k * 4)).block < W.heap.size := by rw [add_block]; exact hab
        exact ⟨(hoff.cell hbl hbk).trans hn0.path, (hoff.cell (p := ⟨(a.add (k * 4)).block, (a.add (k * 4)).off + 1, none⟩) hbl hbk).trans hn0.kind, (hoff.cell (p := ⟨(a.add (k * 4)).block, (a.add (k * 4)).off + 2, none⟩) hbl hbk).trans hn0.data, (hoff.cell (p := ⟨(a.add (k * 4)).block, (a.add (k * 4)).off + 3, none⟩) hbl hbk).trans hn0.mode⟩
      have HFX := Lib.hid (HF.out _ (List.getElem_mem hkt)); generalize t[k] = x at hn HLS HFX; have c0 := hn.path; have c1 := hn.kind; have c2 := hn.data; have c3 := hn.mode; have hklt : (k : Int) < tn := by omega
      have habk : (a.add (k * 4)).block < wr.heap.size := by rw [add_block]; exact Nat.lt_of_lt_of_le hab hoff.size
      clear hn hn0 hab hakk hkt hE hnb hsb hM' hm' hoff hrest
      go_upto_region 4 with fail
      refine code_gen (fun W3 => Blk W3 wr.heap.size 105 #[.string x.path, .int .i64 x.kind, .string x.data, .int .i64 x.mode] ∧ Off [] wr W3) ⟨Blk.new _ _ _, (Off.refl _ _).alloc _⟩ ?_
      rintro W3 ⟨hbn, ho3⟩; clear c0 c1 c2 c3 habk; have HO3 := Lib.hid ho3; have HBN := Lib.hid hbn; have HBE3 := Lib.hid ((HBE.out.off HG.out.2.2.2.1 HNE.out.1).off ho3 (by simp)); have HBD3 := Lib.hid ((HBD.out.off HG.out.2.2.2.1 HNE.out.2.2).off ho3 (by simp)); have hcn := hbn.cell; have hce := HBE3.out.cell
      have HWI := Lib.hid (nwithin_any x.path path W3 (HT.out W3 (HG.out.2.2.2.1.trans ho3 (fun _ _ h => by simp at h)))); clear hbn ho3; obtain ⟨v, hv⟩ : ∃ v, within (str x.path) (str path) = v := ⟨_, rfl⟩
      rw [hv] at HWI
      cases v
      · have HV := Lib.hid hv
        clear hv
        go_wp2_with fail
        refine HWI.out.mono ?_
        rintro e w5 ⟨rfl, ho5⟩; have HO5 := Lib.hid (HO3.out.trans_nil ho5); clear ho5 hcn hce HWI
        go_wp2_with fail
        refine ⟨⟨k + 1, by congr 1, by omega, Lib.hid ?_⟩, by simp only [intOf]; omega⟩
        rw [HLS.out, show PDisk.laid1 path E x = E from if_neg (by rw [show x.p = str x.path from rfl, HV.out]; decide)]; exact HTM.out.off HO5.out
      have HV := Lib.hid hv; clear hv
      go_wp2_with fail
      refine HWI.out.mono ?_
      rintro e w5 ⟨rfl, ho5⟩; have HO5 := Lib.hid (HO3.out.trans_nil ho5); have HN5 := Lib.hid (HBN.out.off ho5 (by simp)); have HD5 := Lib.hid (HBD3.out.off ho5 (by simp)); have HM5 := Lib.hid (show DiskM w5 p { G' with nb := m } E by
        have := HM'.out.off (k := []) HO5.out (by simp) (by simp); rw [← HG.out.1]; exact this)
      clear ho5 hcn hce HWI
      go_wp2_with fail
      have HMd := Lib.hid HM5.out.drew; have HNd := Lib.hid HN5.out.drew; have HDd := Lib.hid HD5.out.drew; obtain ⟨gn, hgn⟩ : ∃ gn, wr.heap.size = gn := ⟨_, rfl⟩
      rw [hgn] at HNd ⊢; have hS : (∀ i, w5.drew.cell? ⟨gn, i, none⟩ = (#[.string x.path, .int .i64 x.kind, .string x.data, .int .i64 x.mode] : Array Value)[i]?) ∧ (∀ i, w5.drew.cell? ⟨gd, i, none⟩ = (#[.pointer (some ⟨p, 0, none⟩)] : Array Value)[i]?) ∧ w5.drew.cell? ⟨p, 6, none⟩ = some (.int .i64 E.clock) :=
        ⟨HNd.out.cell, HDd.out.cell, by have := HMd.out.blk.cell 6; simpa [diskCells] using this⟩
      have KEEP := Lib.hid (show ∀ (wA wU : World) (q : Nat), DiskM wA p { { G' with nb := m } with qs := G'.qs ++ [q] } (E.make x (E.clock + 1) false) → Off [p, G'.ib] w5.drew wA → wA.grownBy wU (some m) →
          ((∀ i, wA.cell? ⟨gn, i, none⟩ = (#[.string x.path, .int .i64 x.kind, .string x.data, .int .i64 x.mode] : Array Value)[i]?) ∧ (∀ i, wA.cell? ⟨gd, i, none⟩ = (#[.pointer (some ⟨p, 0, none⟩)] : Array Value)[i]?) ∧ wA.cell? ⟨p, 6, none⟩ = some (.int .i64 E.clock)) ∧
          (∀ i, wU.cell? ⟨gn, i, none⟩ = (#[.string x.path, .int .i64 x.kind, .string x.data, .int .i64 x.mode] : Array Value)[i]?) ∧ (∀ i, wU.cell? ⟨gd, i, none⟩ = (#[.pointer (some ⟨p, 0, none⟩)] : Array Value)[i]?) ∧ wU.cell? ⟨p, 6, none⟩ = some (.int .i64 E.clock) from
        fun wA wU q hMA hoA hgU => by
          have hib := HMd.out.parts.ino.isMap; have hmb := HMd.out.parts.names.isMap; have nb : ∀ {g : Nat} {t : TypeId} {cs : Array Value}, Blk w5.drew g t cs → t ≠ 126 → g ∉ [p, G'.ib] ∧ some g ≠ some m := fun {g t cs} hB ht => ⟨fun h => by
            simp at h
            rcases h with rfl | rfl
            · exact hB.ne_ HMd.out.blk ht rfl
            exact hib.ne hB rfl, fun e => hmb.ne hB (by injection e with e; exact e.symm)⟩
          have h2 := HDd.out.off hoA (nb HDd.out (by decide)).1; have h3 := HNd.out.off hoA (nb HNd.out (by decide)).1; have h4 : some p ≠ some m := fun e => hmb.ne HMd.out.blk (by injection e with e; exact e.symm)
          have h5 := hMA.blk.grown hgU h4; refine ⟨⟨h3.cell, h2.cell, ?_⟩, (h3.grown hgU (nb HNd.out (by decide)).2).cell, (h2.grown hgU (nb HDd.out (by decide)).2).cell, ?_⟩
          · have := hMA.blk.cell 6
            simpa [diskCells, PDisk.make] using this
          have := h5.cell 6
          simpa [diskCells, PDisk.make] using this)
      have HWR := Lib.hid (show IntKind.i64.wrap ((E.clock : Int) + 1) = (E.clock : Int) + 1 from by have := HEF.out.2.2; exact IntWalk.i64_in _ (by omega))
      go_region_held3 (fun w' => (∀ i, w'.cell? ⟨gn, i, none⟩ = (#[.string x.path, .int .i64 x.kind, .string x.data, .int .i64 x.mode] : Array Value)[i]?) ∧ (∀ i, w'.cell? ⟨gd, i, none⟩ = (#[.pointer (some ⟨p, 0, none⟩)] : Array Value)[i]?) ∧ w'.cell? ⟨p, 6, none⟩ = some (.int .i64 E.clock)) (first | assumption) ((go_at_call 62; rw [HWR.out]; refine (dmake_any p _ E x _ _ _ HMd.out (by have := HEF.out.1; omega)).mono ?_; rintro e wA ⟨rfl, q, hMA, hoA, hq⟩; obtain ⟨wU, hrunU, hNU, hgU⟩ := hMA.parts.names.add (by show E.names.length ≤ _; have := HEF.out.2.1; omega) x.path HFX.out.1 (E.inos.length + 1) (E.inos.length + 1) (by simp) (by have := HEF.out.1; omega); obtain ⟨hSA, hSU⟩ := KEEP.out wA wU q hMA hoA hgU))
      go_wp2_with fail
      refine ⟨⟨k + 1, by congr 1, by omega, Lib.hid ?_⟩, by simp only [intOf]; omega⟩
      rw [HLS.out, show PDisk.laid1 path E x = { (E.make x (E.clock + 1) false) with names := putN E.names x.path (E.inos.length + 1) } from if_pos (by rw [show x.p = str x.path from rfl, HV.out])]; have h1 := turn_end HM5.out HG.out.2.2.1 hMA ((Off.refl _ w5).drew.trans hoA (fun _ _ h => h)) hq hNU hgU
      refine TurnM.next HG.out.2.1 (HG.out.2.2.2.1.trans HO5.out (fun _ _ h => by simp at h)) HG.out.2.2.2.2 h1.2
    obtain rfl : k = tn := by omega
    go_wp2_with fail
    refine bodyPost_end (results_none rfl _ _ _) rfl ?_
    refine ⟨rfl, ?_⟩
    rw [HD0.out]; have := HTM.out; rw [← HTN.out, List.take_length] at this; exact this
theorem EDCEN : ∀ args w, (callFunc 238 args).run Tryz.prog w = .ok (.enter 238 args) w := enters_of Tryz.func238 (by kernel_rfl) rfl
theorem putR_few (t : List Node) (path : ByteArray) (v : List Node) : (putR t path v).1.length ≤ 1000 := by
  rcases putR_cases t path v with ⟨-, h⟩ | ⟨-, h⟩
  · rw [h]; decide
  exact okTree_len h.okx
theorem putR_fits {t v : List Node} {path : ByteArray} (ht : Fits t) (hv : Fits v) : Fits (putR t path v).1 := by
  rcases putR_cases t path v with ⟨-, h⟩ | ⟨-, h⟩
  · rw [h]; intro n hn; cases hn
  intro n hn
  have hp := okPath_size (okTree_path h.okx hn); have hps : n.path.size ≤ maxLen := by
    rw [show n.p = str n.path from rfl, str_size] at hp; unfold maxLen; omega
  refine ⟨hps, ?_⟩
  rw [h.out] at hn; unfold putOut at hn
  rcases List.mem_append.1 hn with hn | hn
  · rcases List.mem_append.1 hn with hn | hn
    · exact (ht n ((List.mem_filter.1 hn).1)).2
    unfold moved at hn; obtain ⟨i, hi, rfl⟩ := List.mem_mapIdx.1 hn; exact (hv _ (List.getElem_mem hi)).2
  exact (ht n ((List.mem_filter.1 hn).1)).2
theorem own_made_ {w : World} {base e sz m : Nat} {v : Value} {xs : List Value} (hr : w.ownsRow base e sz v m xs) : ∀ b ∈ v.ownBlock.toList, base ≤ b ∧ b < w.heap.size := by
  rcases hr.2 with ⟨rfl, _⟩ | ⟨g, cap, cur, rfl, h2, h3, h4⟩
  · intro b hb; simp [Value.ownBlock] at hb
  intro b hb
  simp [Value.ownBlock] at hb
  subst hb; exact ⟨h2, (Array.getElem?_eq_some_iff.1 h3).1⟩
theorem ed_meet {W wB : World} {g xn cx : Nat} {px : Option Addr} {X : List Node} {er : Int} (hB4 : Blk wB g 22 #[.slice none 0 0]) (hown : wB.ownsRow W.heap.size 105 4 (.slice px xn cx) xn (cellsOf X)) (ho : Off [] W wB) (hg : W.heap.size ≤ g) :
    ∃ gt px' cx', Value.pointer (some ⟨g, 0, none⟩) = .pointer (some ⟨gt, 0, none⟩) ∧ Value.int .i64 er = .int .i64 er ∧ Blk (wB.setCell ⟨g, 0, none⟩ (.slice px xn cx)) gt 22 #[.slice px' xn cx'] ∧ (wB.setCell ⟨g, 0, none⟩ (.slice px xn cx)).ownsRow W.heap.size 105 4 (.slice px' xn cx') xn (cellsOf X) ∧ Off [] W (wB.setCell ⟨g, 0, none⟩ (.slice px xn cx)) ∧ W.heap.size ≤ gt := by
  refine ⟨g, px, cx, rfl, rfl, by simpa using hB4.set_ 0 (.slice px xn cx), own_offk hown ((Off.refl [g] wB).setCell (.inr (by simp)) _) (fun b hb h => ?_), ho.setCell (.inl hg) _, hg⟩
  obtain ⟨cs, hb2⟩ := own_blks hown b hb; simp at h; exact hb2.ne_ hB4 (by decide) h
set_option maxRecDepth 100000 in
set_option maxHeartbeats 16000000 in
theorem dedit_any (p n : Nat) (G : Geo) (D : PDisk) (e : EditP) (uv : Value) (fb : List Nat) (w : World) (hM : DiskM w p G D) (hsb : G.sb.isSome = true) (hk : Ok D n) (hn : n ≤ 50000000) (hL : Light D) (hV : ValueAt w uv fb e.value)
    (hT : ∀ W, Off (p :: G.parts) w W → Tabs W) :
    Calls Tryz.prog 164 #[.pointer (some ⟨p, 0, none⟩), .agg #[.int .i64 e.at_, .string e.path, uv]] w fun e' w' => e' = .returned (.tuple #[]) ∧ DiskTo w p G.parts w' (D.edit e) := by
  obtain ⟨q, d, rfl, hqd, hdm, hqn, hFV, -, hRV⟩ := hV; obtain ⟨vn, hvn⟩ : ∃ vn, e.value.length = vn := ⟨_, rfl⟩
  rw [hvn] at hqd ⊢; have HM := Lib.hid hM; have HSB := Lib.hid hsb; have HK := Lib.hid hk; have HL := Lib.hid hL; have HT := Lib.hid hT; have HRV := Lib.hid (And.intro hRV (And.intro hvn (And.intro hqd (And.intro hdm (And.intro hqn hFV))))); clear hM hsb hk hL hT hRV hvn hqd hdm hqn hFV
  go_enter Tryz.func164, Tryz.ntmps164
  go_upto_region 1 with fail
  refine code_gen (fun W => Blk W w.heap.size 37 #[.pointer (some ⟨p, 0, none⟩)] ∧ Blk W (w.heap.size + 1) 36 #[.int .i64 e.at_, .string e.path, .slice q vn d] ∧ Off [] w W) ⟨(Blk.new w _ _).alloc _, Blk.new1 w _ _ _, ((Off.refl _ _).alloc _).alloc _⟩ ?_
  rintro W ⟨hbd, hbe, hof⟩; have HBD := Lib.hid hbd; have HBE := Lib.hid hbe; have HOF := Lib.hid hof; have hcd := hbd.cell; have hce := hbe.cell; have HTR := Lib.hid (fun (W1 : World) (ho : Off [] W W1) => dtree_any p n G D W1 (HM.out.off (k := []) (hof.trans_nil ho) (by simp) (by simp)) HK.out hn); obtain ⟨T, hTT⟩ : ∃ T, D.tree = T := ⟨_, rfl⟩
  have HFT := Lib.hid (show Fits T by rw [← hTT]; exact HL.out.fits HK.out); have HED := Lib.hid (show D.edit e = if (putR T e.path e.value).2 ≠ 0 then D else { D.editN e.path (putR T e.path e.value).1 with later := (D.editN e.path (putR T e.path e.value).1).later ++ [(D.editN e.path (putR T e.path e.value).1).names] } by rw [← hTT]; rfl)
  have HPF := Lib.hid (putR_fits (path := e.path) HFT.out HRV.out.2.2.2.2.2); have HPL := Lib.hid (putR_few T e.path e.value); rw [hTT] at HTR; obtain ⟨tl, htl⟩ : ∃ tl, T.length = tl := ⟨_, rfl⟩
  have HTLB := Lib.hid (show tl ≤ 1000 by
    rw [← htl, ← hTT, HK.out.tree HM.out.parts.names.1, List.length_map, sortN_len]; exact HK.out.nlen)
  have HPU := Lib.hid (fun (W1 : World) (ho : Off [] W W1) (pt : Option Addr) (c : Nat) (hr : Row W1 pt T) (hc : tl ≤ c) (hcm : c ≤ maxLen) (hpn : pt = none → T = [] ∧ c = 0) => put_any pt q T e.value tl vn c d e.path W1 hr (HRV.out.1.off (hof.trans_nil ho)) htl HRV.out.2.1 hc HRV.out.2.2.1 hcm HRV.out.2.2.2.1 hpn (fun hq => (HRV.out.2.2.2.2.1 hq).1) HFT.out HRV.out.2.2.2.2.2 (HT.out W1 ((hof.trans_nil ho).mono (fun _ _ h => by simp at h))))
  have HTE := Lib.hid htl; clear hbd hbe hof hTT htl hcd hce; obtain ⟨X, er, hX⟩ : ∃ X er, putR T e.path e.value = (X, er) := ⟨_, _, rfl⟩
  rw [hX] at HED HPF HPL HPU; clear hX; obtain ⟨xn, hxn⟩ : ∃ xn, X.length = xn := ⟨_, rfl⟩
  have HXN := Lib.hid hxn; clear hxn
  go_wp2_with fail
  go_cut [4, 5] from 7 to 15 (fun a s wx => ∃ gt px cx, a = .pointer (some ⟨gt, 0, none⟩) ∧ s = .int .i64 er ∧ Blk wx gt 22 #[.slice px xn cx] ∧ wx.ownsRow W.heap.size 105 4 (.slice px xn cx) xn (cellsOf X) ∧ Off [] W wx ∧ W.heap.size ≤ gt)
  case first =>
    have hch := Off.refl [] W.drew; have hB := HBD.out.drew; have hC := HBE.out.drew
    go_region_held3 (fun w' => (∀ i, w'.cell? ⟨w.heap.size, i, none⟩ = (#[.pointer (some ⟨p, 0, none⟩)] : Array Value)[i]?) ∧ (∀ i, w'.cell? ⟨w.heap.size + 1, i, none⟩ = (#[.int .i64 e.at_, .string e.path, .slice q vn d] : Array Value)[i]?)) (first | assumption | exact ⟨hB.cell, hC.cell⟩ | exact ⟨(hB.alloc _).cell, (hC.alloc _).cell⟩ | exact ⟨(hB.far (hB.ne_ hB4 (by decide)) _).cell, (hC.far (hC.ne_ hB4 (by decide)) _).cell⟩ | exact ⟨((hB.alloc _).far (by have := hB.lt; omega) _).cell, ((hC.alloc _).far (by have := hC.lt; omega) _).cell⟩) (first
      | (go_at_call 27; refine (HTR.out _ ((Off.refl [] W).drew.trans_nil hch)).mono ?_; rintro e' wA ⟨v, rfl, hrow, hoA⟩; obtain ⟨pt, ct, hv, hrr, hct, hcm, hpn⟩ := Sl.own hrow; rw [HTE.out] at hv hct; subst hv; have hch := hch.trans_nil hoA; have hB := hB.off hoA (by simp); have hC := hC.off hoA (by simp))
      | (go_at_call 27; refine (HTR.out _ (((Off.refl [] W).drew.trans_nil hch).alloc _)).mono ?_; rintro e' wA ⟨v, rfl, hrow, hoA⟩; obtain ⟨pt, ct, hv, hrr, hct, hcm, hpn⟩ := Sl.own hrow; rw [HTE.out] at hv hct; subst hv; have hB4 : Blk wA W.heap.size 22 #[.slice none 0 0] := (Blk.new W.drew 22 #[.slice none 0 0]).off hoA (by simp); have hch := (hch.alloc (.cells #[.slice none 0 0] 22)).trans_nil hoA; have hB := (hB.alloc (.cells #[.slice none 0 0] 22)).off hoA (by simp); have hC := (hC.alloc (.cells #[.slice none 0 0] 22)).off hoA (by simp))
      | (go_at_call 237; refine (HPU.out _ ((Off.refl [] W).drew.trans_nil hch) pt ct hrr hct hcm hpn).mono ?_; rintro e' wB ⟨xv, rfl, hown, hoB⟩; obtain ⟨px, cx, hxv, -, -, -, -⟩ := Sl.own hown; rw [HXN.out] at hxv hown; subst hxv; have hown := own_base hown (show W.heap.size ≤ _ from Nat.le_trans hch.size (by simp)); have hB4 := hB4.off hoB (by simp); have hc4 := hB4.cell; have hf4 := hB4.frozen; have hl4 := hB4.lt; have hch := hch.trans_nil hoB; have hB := hB.off hoB (by simp); have hC := hC.off hoB (by simp))
      | (go_at_call 237; refine (HPU.out _ ((Off.refl [] W).drew.trans_nil hch) pt ct hrr hct hcm hpn).mono ?_; rintro e' wB ⟨xv, rfl, hown, hoB⟩; obtain ⟨px, cx, hxv, -, -, -, -⟩ := Sl.own hown; rw [HXN.out] at hxv hown; subst hxv; have hown := own_base hown (show W.heap.size ≤ _ from Nat.le_trans hch.size (by simp)); have hch := hch.trans_nil hoB; have hB := hB.off hoB (by simp); have hC := hC.off hoB (by simp))
      | (go_at_call 237; refine (HPU.out _ (((Off.refl [] W).drew.trans_nil hch).alloc _) pt ct (hrr.off ((Off.refl [] _).alloc _)) hct hcm hpn).mono ?_; rintro e' wB ⟨xv, rfl, hown, hoB⟩; obtain ⟨px, cx, hxv, -, -, -, -⟩ := Sl.own hown; rw [HXN.out] at hxv hown; subst hxv; have hown := own_base hown (show W.heap.size ≤ _ from Nat.le_trans hch.size (by simp)); have hB4 := (Blk.new wA 22 #[.slice none 0 0]).off hoB (by simp); have hc4 := hB4.cell; have hf4 := hB4.frozen; have hl4 := hB4.lt; have hsA := hch.size; have hch := (hch.alloc (.cells #[.slice none 0 0] 22)).trans_nil hoB; have hB := (hB.alloc (.cells #[.slice none 0 0] 22)).off hoB (by simp); have hC := (hC.alloc (.cells #[.slice none 0 0] 22)).off hoB (by simp)))
    all_goals go_wp2_with fail
    all_goals go_meet
    all_goals first
      | exact ed_meet hB4 hown ((Off.refl [] W).drew.trans_nil hch) (by simp)
      | exact ed_meet hB4 hown ((Off.refl [] W).drew.trans_nil hch) (by simpa using hsA)
      | exact ⟨_, px, cx, rfl, rfl, Blk.new wB _ _, hown.alloc _, ((Off.refl [] W).drew.trans_nil hch).alloc _, by have := hch.size; simpa using this⟩
  case rest =>
    obtain ⟨gt, px, cx, rfl, rfl, hbt, hown, hox, hgt⟩ := hcut; have HBT := Lib.hid hbt; have HOWN := Lib.hid hown; have HOX := Lib.hid hox; have HGT := Lib.hid hgt; have HBD2 := Lib.hid (HBD.out.off hox (by simp)); have HBE2 := Lib.hid (HBE.out.off hox (by simp)); have hcd := HBD2.out.cell; have HMC := Lib.hid (HM.out.off (k := []) (HOF.out.trans_nil hox) (by simp) (by simp))
    have hws : w.heap.size ≤ wc.heap.size := (HOF.out.trans_nil hox).size
    have HWS := Lib.hid hws; have HSZ := Lib.hid (And.intro HBD.out.lt HBE.out.lt); clear hbt hown hox hgt hws
    by_cases he : er = 0
    case neg =>
      have HE := Lib.hid (show D.edit e = D by rw [HED.out]; exact if_pos he); have he2 : (er == 0) = false := beq_eq_false_iff_ne.2 he
      clear he
      go_wp2_with fail
      refine bodyPost_ret (results_none rfl _ _ _) rfl ?_
      refine ⟨rfl, ?_⟩
      rw [HE.out]; exact ⟨G, HMC.out, (HOF.out.trans_nil HOX.out).mono (fun _ _ h => by simp at h), fun b hb => .inl hb, HSB.out⟩
    subst he; have HE := Lib.hid (show D.edit e = { D.editN e.path X with later := (D.editN e.path X).later ++ [(D.editN e.path X).names] } by rw [HED.out]; rfl); have HPB := Lib.hid (show ∀ b, b ∈ p :: G.parts → b < w.heap.size from fun b hb => by
      rcases List.mem_cons.1 hb with rfl | hb
      · exact HM.out.blk.lt
      exact HM.out.parts.lt hb)
    have HNR := Lib.hid (show ∀ b, w.heap.size ≤ b → b ≠ wc.heap.size → b ∉ p :: wc.heap.size :: G.rest from fun b hb hne hm => by
      rcases List.mem_cons.1 hm with h | hm
      · have := HPB.out p (List.mem_cons_self ..); omega
      rcases List.mem_cons.1 hm with h | hm
      · exact hne h
      have := HPB.out b (List.mem_cons_of_mem _ (List.mem_cons_of_mem _ hm)); omega)
    have HCH := Lib.hid (dchange_any p G D (D.editN e.path X) 238 #[.pointer (some ⟨w.heap.size + 1, 0, none⟩), .pointer (some ⟨gt, 0, none⟩), .pointer (some ⟨w.heap.size, 0, none⟩)] wc HMC.out HSB.out (by
        rw [show (D.editN e.path X).later = D.later from (laid_same e.path X _).1]; have := HK.out.llen; omega) EDCEN (fun W1 hW1 ho1 => by
      have hpw : p < w.heap.size := HPB.out p (List.mem_cons_self ..)
      have hrl : wc.heap.size ∉ G.rest := fun h => by have := HPB.out _ (List.mem_cons_of_mem _ (List.mem_cons_of_mem _ h)); have := HWS.out; omega
      have hW0 : W.heap.size ≤ wc.heap.size := HOX.out.size
      have hw0 : w.heap.size ≤ W.heap.size := HOF.out.size
      have hrow1 := own_offk HOWN.out ho1 (fun b hb h => by
        have := (own_made_ HOWN.out b hb).1; simp at h; omega)
      have hgtl := HBT.out.lt; obtain ⟨s1, s2⟩ := HSZ.out; have hgt0 := HGT.out; rw [← HXN.out] at hrow1; obtain ⟨px', cx', hv, hrr, -, -, hpb⟩ := own_row hrow1; have hv := hv; rw [HXN.out] at hv; obtain ⟨rfl, rfl⟩ : px = px' ∧ cx = cx' := by simpa using hv
      exact editc_any p wc.heap.size (w.heap.size + 1) gt w.heap.size xn cx px G D e.at_ e.path (.slice q vn d) X W1 hW1 hrl
        (HBE2.out.off ho1 (by simp; omega)) (HBT.out.off ho1 (by simp; omega)) (HBD2.out.off ho1 (by simp; omega))
        ⟨HNR.out _ (by omega) (by omega), HNR.out _ (by omega) (by omega), HNR.out _ (by omega) (by omega)⟩ HXN.out hrr
        (fun a ha => by
          have h1 := hpb a ha; have h2 : a.block < wc.heap.size := by
            have := (own_made_ HOWN.out a.block (by
              rcases HOWN.out.2 with ⟨e, _⟩ | ⟨g, cap, cur, e, _⟩
              · cases e; cases ha
              cases e; cases ha; simp [Value.ownBlock])).2
            exact this
          exact HNR.out _ (by omega) (by omega))
        HPF.out (by have := HK.out.inos; omega) (by have := HK.out.nlen; omega) (by rw [← HXN.out]; have := HPL.out; omega) (by have := HK.out.clock; omega)
        (fun W' hW' => HT.out W' ((((HOF.out.trans_nil HOX.out).mono (fun _ _ h => by simp at h)).trans ho1 (fun x _ h => by simp at h; subst h; exact List.mem_cons_self ..)).trans hW' (fun x hx hm => by
          rcases List.mem_cons.1 hm with rfl | hm
          · exact List.mem_cons_self ..
          rcases List.mem_cons.1 hm with rfl | hm
          · omega
          exact List.mem_cons_of_mem _ (List.mem_cons_of_mem _ hm))))))
    go_wp2_with fail
    refine HCH.out.mono ?_
    rintro e' w9 ⟨rfl, hTo⟩
    go_wp2_with fail
    refine bodyPost_end (results_none rfl _ _ _) rfl ?_
    refine ⟨rfl, ?_⟩
    rw [HE.out]; exact DiskTo.next ((HOF.out.trans_nil HOX.out).mono (fun _ _ h => by simp at h)) (fun b hb => .inl hb) hTo
end
section
open Go.RowKit Go.Op Go.Maps
theorem infoStr7 : (Tryz.prog.info? 9).map (fun i => (i.zero, i.size, i.bytes)) = some (some (.string ⟨#[]⟩), 1, 16) := by kernel_rfl
theorem infoDid : (Tryz.prog.info? 155).map (fun i => (i.zero, i.size, i.bytes)) = some (some (.agg #[.string ⟨#[]⟩, .string ⟨#[]⟩, .string ⟨#[]⟩]), 3, 48) := by kernel_rfl
theorem DiskP.traced {w w' : World} {G : Geo} {D : PDisk} {tv : Value} {k : List Nat} {d : DidP} {c : Nat} (h : DiskP w G D) (ho : Off k w w') (hk : ∀ b ∈ k, b ∈ G.parts → b ∈ G.tv.ownBlock.toList)
    (hv : w'.ownsRow 0 155 3 tv (D.trace.length + 1) (didCells D.trace ++ [.string d.call, .string d.path, .string d.dest])) :
    DiskP w' { G with tv := tv } { D with trace := D.trace ++ [d], clock := c } := by
  have hl : ∀ b ∈ k, b ∈ G.parts → ∃ cs, Blk w b 155 cs := fun b hb hp => own_blks h.trace b (hk b hb hp)
  have mp : ∀ b ∈ G.parts, IsMapB w b → b ∉ k := fun b hb hm hin => by
    obtain ⟨cs, hB⟩ := hl b hin hb; exact hm.ne hB rfl
  have ty : ∀ b ∈ G.parts, ∀ t cs, Blk w b t cs → t ≠ 155 → b ∉ k := fun b hb t cs hB ht hin => by
    obtain ⟨cs', hB'⟩ := hl b hin hb; exact hB.ne_ hB' ht rfl
  have r1 : ∀ b ∈ G.rest, b ∈ G.parts := fun b hb => List.mem_cons_of_mem _ hb
  exact {
    names := h.names.off ho (mp _ (List.mem_cons_self ..) h.names.isMap)
    safe := h.safe.off ho (fun x hx => mp x (r1 _ (mem_rest.2 (.inl hx))) (by
      have := h.safe
      cases hs : G.sb with
      | none => rw [hs] at hx; simp at hx
      | some s =>
        rw [hs] at hx this; simp at hx; subst hx; exact NMat.isMap this))
    later := own_offk h.later ho (fun x hx => by
      obtain ⟨cs, hB⟩ := own_blks h.later x hx; exact ty x (r1 _ (mem_rest.2 (.inr (.inr (.inr (.inr (.inl hx))))))) _ _ hB (by decide))
    lbl := h.lbl
    laters := fun i b l h1 h2 => by
      have hN := h.laters i b l h1 h2; exact hN.off ho (mp b (r1 _ (mem_rest.2 (.inr (.inr (.inl (List.mem_of_getElem? h1)))))) hN.isMap)
    ino := h.ino.off ho (mp _ (r1 _ (mem_rest.2 (.inr (.inl rfl)))) h.ino.isMap)
    qsl := h.qsl
    inos := fun i q n h1 h2 => by
      have hB := h.inos i q n h1 h2; exact hB.off ho (ty q (r1 _ (mem_rest.2 (.inr (.inr (.inr (.inl (List.mem_of_getElem? h1))))))) _ _ hB (by decide))
    nodup := h.nodup
    trace := by
      show w'.ownsRow 0 155 3 tv (D.trace ++ [d]).length (didCells (D.trace ++ [d]))
      rw [List.length_append]; have e : didCells (D.trace ++ [d]) = didCells D.trace ++ [.string d.call, .string d.path, .string d.dest] := by simp [didCells]
      rw [e]; exact hv
    fates := h.fates.off ho (fun x hx => by
      obtain ⟨t, cs, hB, hW⟩ := h.fbl x hx; exact ty x (r1 _ (mem_rest.2 (.inr (.inr (.inr (.inr (.inr (.inr hx)))))))) _ _ hB (hW.ne (by decide)))
    fbl := fun g hg => by
      obtain ⟨t, cs, hB, hW⟩ := h.fbl g hg; exact ⟨t, cs, hB.off ho (ty g (r1 _ (mem_rest.2 (.inr (.inr (.inr (.inr (.inr (.inr hg)))))))) _ _ hB (hW.ne (by decide))), hW⟩
    apart := h.apart }
theorem row_len {w : World} {base e sz n : Nat} {v : Value} {xs : List Value} (h : w.ownsRow base e sz v n xs) : ∃ p c, v = .slice p n c := by
  rcases h.2 with ⟨h1, h2⟩ | ⟨g, cap, cur, h1, _⟩
  · exact ⟨none, 0, by rw [h1, h2]⟩
  exact ⟨_, _, h1⟩
theorem cell_three_at {w : World} {g : Nat} {t : TypeId} {x y z : Value} (h : Blk w g t #[x, y, z]) : ∀ j u, [x, y, z][j]? = some u → w.cell? ((⟨g, 0, none⟩ : Addr).add j) = some u := by
  intro j u hj
  rw [addr_add, h.cell]
  simpa using hj
def strVals (xs : List ByteArray) : List Value := xs.map .string
theorem two_more (xs : List ByteArray) : (strVals xs ++ [.string ⟨#[]⟩, .string ⟨#[]⟩])[0]? = some (.string (xs.getD 0 ⟨#[]⟩)) ∧ (strVals xs ++ [.string ⟨#[]⟩, .string ⟨#[]⟩])[1]? = some (.string (xs.getD 1 ⟨#[]⟩)) := by
  match xs with
  | [] => exact ⟨rfl, rfl⟩
  | [a] => exact ⟨rfl, rfl⟩
  | a :: b :: l => exact ⟨rfl, rfl⟩
theorem own_cells {w : World} {base n : Nat} {v : Value} {xs : List Value} (h : w.ownsRow base 9 1 v n xs) (hn : 0 < n) : ∃ g c, v = .slice (some ⟨g, 0, none⟩) n c ∧ base ≤ g ∧ g < w.heap.size ∧ n ≤ c ∧ (∃ cs, Blk w g 9 cs) ∧ ∀ (i : Nat) (u : Value), xs[i]? = some u → w.cell? ⟨g, i, none⟩ = some u := by
  rcases h.2 with ⟨_, h2⟩ | ⟨g, cap, cur, rfl, hb, hh, hc, _⟩
  · omega
  obtain ⟨cur', hB, _, _, hk⟩ := own_blk h hn; exact ⟨g, cap, rfl, hb, hB.lt, hc, ⟨_, hB⟩, fun i u hu => (hB.cell i).trans (hk i u hu)⟩
def StepMid (w : World) (p ga T : Nat) (G : Geo) (E : PDisk) (wx : World) : Prop :=
  ∃ G', DiskM wx p G' E ∧ G'.sb = G.sb ∧ Off (p :: G.parts) w wx ∧ (∀ b ∈ G'.parts, b ∈ G.parts ∨ w.heap.size ≤ b) ∧ Blk wx ga 3 #[.int .i64 T]
theorem step_mid {w W w7 : World} {p ga T cl gg cap : Nat} {pt : Option Addr} {ct : Nat} {G : Geo} {D : PDisk} {call P1 P2 : ByteArray} {o : Obj} (hM : DiskM w p G D) (htv : G.tv = .slice pt T ct) (hT : D.trace.length = T) (hcl : D.clock = cl)
    (hB : Blk W p 126 ((diskCells G D).setIfInBounds 6 (.int .i64 (cl + 1)))) (ho : Off [p] w W) (hb : Blk W ga 3 #[.int .i64 T]) (hP : DiskP W G D)
    (hown : w7.ownsRow 0 155 3 (.slice (some ⟨gg, 0, none⟩) (T + 1) cap) (T + 1) (didCells D.trace ++ [.string call, .string P1, .string P2])) (hg : (W.alloc o).drew.grownBy w7 (Value.slice pt T ct).ownBlock) (hat : (Value.slice pt T ct).ownBlock = some gg ∨ gg = W.heap.size + 1) :
    StepMid w p ga T G { D with clock := D.clock + 1, trace := D.trace ++ [⟨call, P1, P2⟩] } (w7.setCell ⟨p, 7, none⟩ (.slice (some ⟨gg, 0, none⟩) (T + 1) cap)) := by
  rw [← htv] at hg hat; have hlr : ∀ b ∈ G.tv.ownBlock.toList, b ∈ G.rest := fun b hb => mem_rest.2 (.inr (.inr (.inr (.inr (.inr (.inl hb))))))
  have ho7 : Off G.tv.ownBlock.toList W w7 := ((Off.refl _ W).alloc o).drew.grown hg (fun x hx => .inr (by rw [hx]; simp))
  have hP7 := hP.traced (tv := .slice (some ⟨gg, 0, none⟩) (T + 1) cap) (d := ⟨call, P1, P2⟩) (c := D.clock + 1) ho7 (fun b hb _ => hb) (by rw [hT]; exact hown); have hpl : p ∉ G.tv.ownBlock.toList := fun h => hM.far (List.mem_cons_of_mem _ (hlr p h))
  have hB7 := hB.off ho7 hpl; have hga : ga ∉ G.tv.ownBlock.toList := fun h => by
    obtain ⟨cs, hBc⟩ := own_blks hP.trace ga h; exact hb.ne_ hBc (by decide) rfl
  have hgap : ga ≠ p := hb.ne_ hB (by decide)
  refine ⟨{ G with tv := .slice (some ⟨gg, 0, none⟩) (T + 1) cap }, ⟨?_, hP7.off (k := [p]) ((Off.refl [p] w7).setCell (.inr (by simp)) _) (fun b hb h => ?_)⟩, rfl, ?_, fun b hb => ?_, (hb.off ho7 hga).far hgap _⟩
  · have := hB7.set_ 7 (.slice (some ⟨gg, 0, none⟩) (T + 1) cap)
    unfold diskCells at this ⊢; subst hcl
    simpa using this
  · simp at h; subst h
    exact hP7.far hB7 (by decide) hb
  · refine ((ho.mono (fun x _ h => by simp at h; subst h; exact List.mem_cons_self ..)).trans ho7 (fun x _ h => List.mem_cons_of_mem _ (List.mem_cons_of_mem _ (hlr x h)))).setCell (.inr (by simp)) _
  have hsz := ho.size
  rcases List.mem_cons.1 hb with rfl | hb
  · exact .inl (List.mem_cons_self ..)
  rcases mem_rest.1 hb with h | h | h | h | h | h | h
  · exact .inl (List.mem_cons_of_mem _ (mem_rest.2 (.inl h)))
  · exact .inl (List.mem_cons_of_mem _ (mem_rest.2 (.inr (.inl h))))
  · exact .inl (List.mem_cons_of_mem _ (mem_rest.2 (.inr (.inr (.inl h)))))
  · exact .inl (List.mem_cons_of_mem _ (mem_rest.2 (.inr (.inr (.inr (.inl h))))))
  · exact .inl (List.mem_cons_of_mem _ (mem_rest.2 (.inr (.inr (.inr (.inr (.inl h)))))))
  · simp [Value.ownBlock] at h
    subst h
    rcases hat with h | h
    · exact .inl (List.mem_cons_of_mem _ (hlr b (by rw [h]; simp)))
    exact .inr (by omega)
  exact .inl (List.mem_cons_of_mem _ (mem_rest.2 (.inr (.inr (.inr (.inr (.inr (.inr h))))))))
def PDisk.editTo (D : PDisk) (i : Nat) : PDisk := (D.edits.take i).foldl (fun E e => if e.at_ = (D.trace.length : Int) then E.edit e else E) D
theorem edit_keeps (D : PDisk) (e : EditP) : (D.edit e).trace = D.trace ∧ (D.edit e).off = D.off ∧ (D.edit e).fates = D.fates ∧ (D.edit e).clock = D.clock ∧ (D.edit e).edits = D.edits ∧ (D.edit e).ev = D.ev ∧ (D.edit e).safe = D.safe := by
  unfold PDisk.edit
  split
  · exact ⟨rfl, rfl, rfl, rfl, rfl, rfl, rfl⟩
  obtain ⟨-, h2, h3, h4, h5, h6, h7⟩ := laid_same e.path (putR D.tree e.path e.value).1 { D with names := D.names.filter fun y => !within (str y.1) (str e.path) }; obtain ⟨-, -, h8⟩ := laid_few e.path (putR D.tree e.path e.value).1 { D with names := D.names.filter fun y => !within (str y.1) (str e.path) }; exact ⟨h3, h4, h5, h8, h6, h7, h2⟩
theorem edits_keep (t : Int) : ∀ (es : List EditP) (D : PDisk), (es.foldl (fun E e => if e.at_ = t then E.edit e else E) D).trace = D.trace ∧ (es.foldl (fun E e => if e.at_ = t then E.edit e else E) D).off = D.off ∧ (es.foldl (fun E e => if e.at_ = t then E.edit e else E) D).fates = D.fates ∧ (es.foldl (fun E e => if e.at_ = t then E.edit e else E) D).clock = D.clock ∧ (es.foldl (fun E e => if e.at_ = t then E.edit e else E) D).edits = D.edits ∧ (es.foldl (fun E e => if e.at_ = t then E.edit e else E) D).ev = D.ev ∧ (es.foldl (fun E e => if e.at_ = t then E.edit e else E) D).safe = D.safe
  | [], D => ⟨rfl, rfl, rfl, rfl, rfl, rfl, rfl⟩
  | e :: es, D => by
    rw [List.foldl_cons]
    by_cases h : e.at_ = t
    · rw [if_pos h]
      obtain ⟨a1, a2, a3, a4, a5, a6, a7⟩ := edits_keep t es (D.edit e); obtain ⟨b1, b2, b3, b4, b5, b6, b7⟩ := edit_keeps D e; exact ⟨a1.trans b1, a2.trans b2, a3.trans b3, a4.trans b4, a5.trans b5, a6.trans b6, a7.trans b7⟩
    rw [if_neg h]; exact edits_keep t es D
theorem edited_eq {D : PDisk} (h : D.off = false) : D.edited = D.editTo D.edits.length := by
  unfold PDisk.edited PDisk.editTo; rw [h, List.take_length]
  rfl
theorem edited_off {D : PDisk} (h : D.off = true) : D.edited = D := by
  unfold PDisk.edited; rw [h]
  rfl
theorem editTo_next {D : PDisk} {i : Nat} (hi : i < D.edits.length) : D.editTo (i + 1) = if D.edits[i].at_ = (D.trace.length : Int) then (D.editTo i).edit D.edits[i] else D.editTo i := by
  unfold PDisk.editTo; rw [List.take_succ_eq_append_getElem hi, List.foldl_append]
  rfl
structure EditsOk (D : PDisk) (n : Nat) : Prop where
  ok : ∀ i, Ok (D.editTo i) n
  light : ∀ i, i < D.edits.length → Light (D.editTo i)
theorem EditsOk.last {D : PDisk} {n : Nat} (h : EditsOk D n) : Ok D.edited n := by
  cases ho : D.off
  · rw [edited_eq ho]; exact h.ok _
  rw [edited_off ho]; have := h.ok 0; unfold PDisk.editTo at this
  simpa using this
set_option maxRecDepth 100000 in
set_option maxHeartbeats 8000000 in
theorem dstep_any (p k n : Nat) (ao : Option Addr) (G : Geo) (D : PDisk) (call : ByteArray) (xs : List ByteArray) (w : World) (hM : DiskM w p G D) (hsb : G.sb.isSome = true) (hE : EditsOk D n) (hnn : n ≤ 50000000)
    (hx : xs.length = k) (hk : k ≤ 2) (hn : ao = none → k = 0) (hc : ∀ b, ao = some b → ∀ j u, (strVals xs)[j]? = some u → w.cell? (b.add j) = some u) (hbl : ∀ b, ao = some b → b.block ∉ p :: G.parts ∧ b.block < w.heap.size) (hTT : ∀ W, Off (p :: G.parts) w W → Tabs W) :
    Calls Tryz.prog 83 #[.pointer (some ⟨p, 0, none⟩), .string call, .slice ao k k] w fun e w' =>
      e = .returned (.tuple #[.bool (D.edited.step call (xs.getD 0 ⟨#[]⟩) (xs.getD 1 ⟨#[]⟩)).1, .int .i64 (D.edited.step call (xs.getD 0 ⟨#[]⟩) (xs.getD 1 ⟨#[]⟩)).2.1]) ∧ DiskTo w p G.parts w' (D.edited.step call (xs.getD 0 ⟨#[]⟩) (xs.getD 1 ⟨#[]⟩)).2.2 := by
  obtain ⟨i0, hi0, hz0, hz1, hz2⟩ := info_parts infoStr7; obtain ⟨i1, hi1, hy0, hy1, hy2⟩ := info_parts infoDid; have HM := Lib.hid hM; have HSB := Lib.hid hsb; have HE := Lib.hid hE; have HTT := Lib.hid hTT; have HK0 := Lib.hid (show Ok D n by have := hE.ok 0; unfold PDisk.editTo at this; simpa using this); have HXL := Lib.hid hx; have HN := Lib.hid hn; have HC := Lib.hid hc
  have HBL := Lib.hid hbl; obtain ⟨T, hT⟩ : ∃ T, D.trace.length = T := ⟨_, rfl⟩
  have HT := Lib.hid hT; obtain ⟨pt, ct, htv⟩ := row_len hM.parts.trace; rw [hT] at htv; have HTV := Lib.hid htv; have hTb : T ≤ 100000000 := by rw [← hT]; have := HK0.out.tlen; omega
  obtain ⟨cl, hcl⟩ : ∃ cl, D.clock = cl := ⟨_, rfl⟩
  have HCL := Lib.hid hcl; have hclb : cl ≤ 1000000000000 := by rw [← hcl]; have := HK0.out.clock; omega
  have hc0 := hM.blk.cell; have hf0 := hM.blk.frozen; have hl0 := hM.blk.lt; unfold diskCells at hc0; obtain ⟨pe, ce, hev, -, hNm, -⟩ := hM.parts.fates.edits; obtain ⟨N, hN⟩ : ∃ N, D.edits.length = N := ⟨_, rfl⟩
  rw [hN] at hev hNm; unfold maxLen at hNm; have HNN := Lib.hid hN; have HEV := Lib.hid hev; rw [htv, hcl, hev] at hc0
  cases ho : D.off
  case true =>
    rw [ho] at hc0; have HS := Lib.hid (show D.edited.step call (xs.getD 0 ⟨#[]⟩) (xs.getD 1 ⟨#[]⟩) = (false, 75, D) by rw [edited_off ho]; unfold PDisk.step; rw [ho]; rfl); clear hM hsb hE hTT hx hn hc hbl hT htv hcl ho hev
    go_enter Tryz.func83, Tryz.ntmps83
    go_wp2_with fail
    go_ret2
    rw [HS.out]; exact ⟨rfl, DiskTo.refl HM.out HSB.out⟩
  case false =>
    rw [ho] at hc0; have HOF := Lib.hid ho; clear hM hsb hE hTT hx hn hc hbl hT htv hcl ho hev
    go_enter Tryz.func83, Tryz.ntmps83
    go_wp2_with fail
    have HGP := Lib.hid (show ∀ b ∈ p :: G.parts, b < w.heap.size from fun b hb => by
      rcases List.mem_cons.1 hb with rfl | hb
      · exact HM.out.blk.lt
      exact HM.out.parts.lt hb)
    have HST := Lib.hid (show DiskTo w p G.parts (w.alloc (.cells #[.int .i64 T] 3)) (D.editTo 0) ∧ Blk (w.alloc (.cells #[.int .i64 T] 3)) w.heap.size 3 #[.int .i64 T] from
      ⟨⟨G, by have : D.editTo 0 = D := by unfold PDisk.editTo; simp
              rw [this]; exact HM.out.alloc _, (Off.refl _ _).alloc _, fun b hb => .inl hb, HSB.out⟩, Blk.new w _ _⟩)
    clear hc0 hf0 hl0
    go_loopw [30] (fun x wr => ∃ i : Nat, x = .int .i64 i ∧ i ≤ N ∧ Hid (DiskTo w p G.parts wr (D.editTo i) ∧ Blk wr w.heap.size 3 #[.int .i64 T])) (fun x _ => N - (intOf x).toNat)
    case atStart => exact ⟨0, rfl, by omega, HST⟩
    case round =>
      clear HST; obtain ⟨i, rfl, hi, HI⟩ := hrel; obtain ⟨⟨G1, hM1, ho1, hp1, hsb1⟩, hb1⟩ := HI.out; obtain ⟨k1, k2, k3, k4, k5, k6, k7⟩ := edits_keep (D.trace.length : Int) (D.edits.take i) D; have k1 : (D.editTo i).trace = D.trace := k1
      have k2 : (D.editTo i).off = D.off := k2
      have k3 : (D.editTo i).fates = D.fates := k3
      have k4 : (D.editTo i).clock = D.clock := k4
      have k5 : (D.editTo i).edits = D.edits := k5
      have k6 : (D.editTo i).ev = D.ev := k6
      clear k7; have HM1 := Lib.hid hM1; have HO1 := Lib.hid (And.intro ho1 (And.intro hp1 hsb1)); have HB1 := Lib.hid hb1; have hgf : w.heap.size ∉ p :: G1.parts := fun h => by
        rcases List.mem_cons.1 h with h | h
        · have := HGP.out p (List.mem_cons_self ..); omega
        exact hM1.parts.far hb1 (by decide) h
      have HGF := Lib.hid hgf
      by_cases hlt : i < N
      · have hil : i < D.edits.length := by rw [HNN.out]; exact hlt
        have hNX := editTo_next hil; have hOK := HE.out.ok i; have hLI := HE.out.light i hil; obtain ⟨pe', ce', hv, -, -, hf⟩ := hM1.parts.fates.edits; rw [k6, k5, HEV.out, HNN.out] at hv; obtain ⟨rfl, rfl⟩ : pe = pe' ∧ ce = ce' := by simpa using hv
        rw [k5] at hf; obtain ⟨g, rfl, hg, hgl, hcell⟩ := hf (fun e => by rw [e] at hil; simp at hil); obtain ⟨u, hu, hcs⟩ := hcell i _ (List.getElem?_eq_getElem hil); generalize D.edits[i] = e at hNX hu hcs; rw [HT.out] at hNX; have HNX := Lib.hid hNX; have HOK := Lib.hid (And.intro hOK hLI); have HU := Lib.hid hu; obtain ⟨uq, ud, rfl, -⟩ := hu
        obtain ⟨un, hun⟩ : ∃ un, e.value.length = un := ⟨_, rfl⟩
        rw [hun] at hcs HU; have c0 : wr.cell? ⟨g, i * 3, none⟩ = some (.int .i64 e.at_) := hcs 0 _ rfl
        have c1 : wr.cell? ⟨g, i * 3 + 1, none⟩ = some (.string e.path) := hcs 1 _ rfl
        have c2 : wr.cell? ⟨g, i * 3 + 2, none⟩ = some (.slice uq un ud) := hcs 2 _ rfl
        have hinn : (i : Int) < N := by omega
        clear hv hf hcell hcs hg hNX hOK hLI hun hil k1 k2 k3 k4 k5 k6 hM1 ho1 hp1 hsb1 hb1 hgf
        go_upto_region 7 with fail
        refine code_gen (fun W3 => Blk W3 wr.heap.size 36 #[.int .i64 e.at_, .string e.path, .slice uq un ud] ∧ Off [] wr W3) ⟨Blk.new _ _ _, (Off.refl _ _).alloc _⟩ ?_
        rintro W3 ⟨hbe, ho3⟩; have hce := hbe.cell; have HO3 := Lib.hid ho3; have HM3 := Lib.hid (HM1.out.off (k := []) ho3 (by simp) (by simp)); have HB3 := Lib.hid (HB1.out.off ho3 (by simp)); have hcb := HB3.out.cell; clear hbe ho3 c0 c1 c2 hgl
        by_cases hq : e.at_ = T
        · have hq1 : (e.at_ == (T : Int)) = true := by rw [hq]; simp
          have HNX := Lib.hid (show D.editTo (i + 1) = (D.editTo i).edit e by rw [HNX.out, if_pos hq]); have HEDI := Lib.hid (dedit_any p n G1 (D.editTo i) e (.slice uq un ud) G1.fb W3 HM3.out HO1.out.2.2 HOK.out.1 hnn HOK.out.2 (HU.out.off HO3.out (by simp)) (fun W hW => HTT.out W ((HO1.out.1.trans HO3.out (fun _ _ h => by simp at h)).trans hW (fun x hx hm => by
            rcases List.mem_cons.1 hm with rfl | hm
            · exact List.mem_cons_self ..
            rcases HO1.out.2.1 x hm with h | h
            · exact List.mem_cons_of_mem _ h
            omega))))
          clear hq
          go_wp2_with fail
          refine HEDI.out.mono ?_
          rintro e' w5 ⟨rfl, hT5⟩; have HT5 := Lib.hid hT5; clear hT5 hce hcb HEDI
          go_wp2_with fail
          refine ⟨⟨i + 1, by congr 1, by omega, Lib.hid ⟨?_, ?_⟩⟩, by simp only [intOf]; omega⟩
          · rw [HNX.out]
            exact DiskTo.next (HO1.out.1.trans HO3.out (fun _ _ h => by simp at h)) HO1.out.2.1 HT5.out
          obtain ⟨_, -, h2, -⟩ := HT5.out; exact HB3.out.off h2 HGF.out
        have hq1 : (e.at_ == (T : Int)) = false := beq_eq_false_iff_ne.2 hq
        have HNX := Lib.hid (show D.editTo (i + 1) = D.editTo i by rw [HNX.out, if_neg hq]); clear hq
        go_wp2_with fail
        refine ⟨⟨i + 1, by congr 1, by omega, Lib.hid ⟨?_, HB3.out⟩⟩, by simp only [intOf]; omega⟩
        rw [HNX.out]; exact ⟨G1, HM3.out, HO1.out.1.trans HO3.out (fun _ _ h => by simp at h), HO1.out.2.1, HO1.out.2.2⟩
      obtain rfl : N = i := by omega
      have HEDT := Lib.hid (show D.edited = D.editTo N by rw [edited_eq HOF.out, HNN.out]); have HOKE := Lib.hid (HE.out.ok N); obtain ⟨E0, hE0⟩ : ∃ E0, D.editTo N = E0 := ⟨_, rfl⟩
      rw [hE0] at HM1 HEDT HOKE k1 k2 k3 k4 k5 k6; obtain ⟨pt, ct, htv⟩ := row_len HM1.out.parts.trace; rw [k1, HT.out] at htv; have HTV := Lib.hid htv; have HT := Lib.hid (show E0.trace.length = T by rw [k1]; exact HT.out); have HCL := Lib.hid (show E0.clock = cl by rw [k4]; exact HCL.out); have HOF := Lib.hid (show E0.off = false by rw [k2]; exact HOF.out)
      have HEV := Lib.hid (show E0.ev = .slice pe N ce by rw [k6]; exact HEV.out); have HSB := Lib.hid HO1.out.2.2; have HF := Lib.hid (HOKE.out.few (by omega)); have HC := Lib.hid (show ∀ b, ao = some b → ∀ j u, (strVals xs)[j]? = some u → wr.cell? (b.add j) = some u from fun b hb j u hu => by
        rw [HO1.out.1.cell (p := b.add j) (by rw [add_block]; exact (HBL.out b hb).2) (by rw [add_block]; exact (HBL.out b hb).1)]; exact HC.out b hb j u hu)
      have HBL := Lib.hid (show ∀ b, ao = some b → b.block < wr.heap.size from fun b hb => Nat.lt_of_lt_of_le (HBL.out b hb).2 HO1.out.1.size); have HEDS := Lib.hid (show D.edited = E0 from HEDT.out); clear hE0 k1 k2 k3 k4 k5 k6 hM1 ho1 hp1 hsb1 hb1 hgf htv HI HM HK0 HE HEDT HTT HGP HNN; have HO := Lib.hid (Off.refl [] wr); have ho := HO.out; have HB := HB1; have HM := HM1
      have hBp := HM.out.blk; have HBP := Lib.hid hBp; have hc0 := hBp.cell; have hf0 := hBp.frozen; have hl0 := hBp.lt; have hlw := ho.size; have hb := HB.out; unfold diskCells at hc0; rw [HTV.out, HCL.out, HOF.out, HEV.out] at hc0
      have HCW := Lib.hid (show ∀ b, ao = some b → ∀ j u, (strVals xs)[j]? = some u → (wr.alloc (.cells #[.string ⟨#[]⟩, .string ⟨#[]⟩] 9)).cell? (b.add j) = some u from fun b hb j u hu => by
        have h1 := HC.out b hb j u hu; have h2 := HBL.out b hb; have h3 := ((ho.alloc (.cells #[.string ⟨#[]⟩, .string ⟨#[]⟩] 9)).cell (p := b.add j) (by rw [add_block]; exact h2) (by simp)); rw [h3]; exact h1)
      have HSL := Lib.hid (show (strVals xs).length = k * 1 by unfold strVals; rw [List.length_map, HXL.out]; omega); clear hb ho hBp
      go_upto_region 10 with fail
      go_upto_region 11 with (at_builtin; refine wpList_append_grows _ rfl _ _ 45 rfl 9 i0 _ 1 16 Tryz.underlying45 hi0 hz0 hz1 hz2 rfl (by decide) ao k k (strVals xs) rfl (fun h => ⟨HN.out h, HN.out h⟩) HSL.out HCW.out ⟨wr.heap.size, 0, none⟩ 2 2 [.string ⟨#[]⟩, .string ⟨#[]⟩] rfl rfl (cell_two_at (Blk.new wr _ _)) (by simp [Value.oneCell']) (by omega) (by unfold maxLen; omega) (by omega) ?_; intro v' w5 hown hgrow; obtain ⟨g5, c5, rfl, hge, hlt5, hkc, hst, hce⟩ := own_cells hown (by omega))
      obtain ⟨P1, hP1⟩ : ∃ P1, xs.getD 0 ⟨#[]⟩ = P1 := ⟨_, rfl⟩
      obtain ⟨P2, hP2⟩ : ∃ P2, xs.getD 1 ⟨#[]⟩ = P2 := ⟨_, rfl⟩
      have hw5 : Off [] wr w5 := ((Off.refl [] wr).alloc _).grown hgrow (fun k hk => by cases hk)
      refine code_gen (fun W => Blk W p 126 (diskCells G1 E0) ∧ Off [] wr W ∧ Blk W w.heap.size 3 #[.int .i64 T] ∧ (∃ cs, Blk W g5 9 cs) ∧ W.cell? ⟨g5, 0, none⟩ = some (.string P1) ∧ W.cell? ⟨g5, 1, none⟩ = some (.string P2))
        ⟨HBP.out.off hw5 (by simp), HO.out.trans_nil hw5, HB.out.off hw5 (by simp), hst, by rw [← hP1]; exact hce 0 _ (two_more xs).1, by rw [← hP2]; exact hce 1 _ (two_more xs).2⟩ ?_
      clear hc0 hf0 hl0 hown hgrow hst hce hw5 hge hlt5; rintro W5 ⟨hBp, ho5, hb5, hst5, hs1, hs2⟩; have HBP5 := Lib.hid hBp; have HO5 := Lib.hid ho5; have HB5 := Lib.hid hb5; have HST5 := Lib.hid hst5; have HS1 := Lib.hid hs1; have HS2 := Lib.hid hs2; have HPP := Lib.hid (And.intro hP1 hP2); have hc0 := hBp.cell; have hf0 := hBp.frozen; have hl0 := hBp.lt; unfold diskCells at hc0
      rw [HTV.out, HCL.out, HOF.out, HEV.out] at hc0; clear hBp ho5 hb5 hst5 hP1 hP2 hs1 hs2
      go_upto_region 12 with fail
      have hg5p : g5 ≠ p := by
        obtain ⟨cs, hB⟩ := HST5.out; exact hB.ne_ HBP5.out (by decide)
      have hgap : w.heap.size ≠ p := HB5.out.ne_ HBP5.out (by decide)
      refine code_gen (fun W => Blk W p 126 ((diskCells G1 E0).setIfInBounds 6 (.int .i64 (cl + 1))) ∧ Off [p] wr W ∧ Blk W w.heap.size 3 #[.int .i64 T] ∧ W.cell? ⟨g5, 0, none⟩ = some (.string P1) ∧ W.cell? ⟨g5, 1, none⟩ = some (.string P2) ∧ DiskP W G1 E0 ∧ g5 < W.heap.size)
        ⟨HBP5.out.set_ 6 _, (HO5.out.mono (fun _ _ h => by simp at h)).setCell (.inr (by simp)) _, HB5.out.far hgap _, ?_, ?_, ?_, ?_⟩ ?_
      · obtain ⟨cs, hB⟩ := HST5.out
        have h1 := HS1.out; rw [hB.cell] at h1; rw [(hB.far hg5p _).cell]; exact h1
      · obtain ⟨cs, hB⟩ := HST5.out
        have h1 := HS2.out; rw [hB.cell] at h1; rw [(hB.far hg5p _).cell]; exact h1
      · refine (HM.out.parts.off HO5.out (by simp)).off (k := [p]) ((Off.refl [p] W5).setCell (.inr (by simp)) _) (fun b hb h => ?_)
        simp at h; subst h; exact HM.out.far hb
      · obtain ⟨cs, hB⟩ := HST5.out
        exact (hB.far hg5p _).lt
      clear hc0 hf0 hl0; rintro W6 ⟨hBp, ho6, hb6, hs1, hs2, hP6, hlg⟩; have HBP6 := Lib.hid hBp; have HO6 := Lib.hid ho6; have HB6 := Lib.hid hb6; have HP6 := Lib.hid hP6; have hc0 := hBp.cell; have hf0 := hBp.frozen; have hl0 := hBp.lt; unfold diskCells at hc0; simp only [List.setIfInBounds_toArray, List.set_cons_zero, List.set_cons_succ] at hc0; rw [HTV.out, HOF.out, HEV.out] at hc0
      have hpl : some p ≠ G1.tv.ownBlock := fun e => HM.out.far (List.mem_cons_of_mem _ (mem_rest.2 (.inr (.inr (.inr (.inr (.inr (.inl (by rw [← e]; simp)))))))))
      have HPL := Lib.hid hpl; have hown6 : (W6.alloc (.cells #[.string call, .string P1, .string P2] 155)).drew.ownsRow 0 155 3 (.slice pt T ct) T (didCells E0.trace) := by
        have := own_offk (k := []) hP6.trace (((Off.refl [] W6).alloc (.cells #[.string call, .string P1, .string P2] 155)).drew) (by simp); rw [HTV.out, HT.out] at this; exact this
      have HW6 := Lib.hid hown6; clear hBp ho6 hb6 hP6 hpl hown6 hg5p hgap; have hk0 : (0 : Int) < (k : Int) + 2 := by omega
      have hk1 : (1 : Int) < (k : Int) + 2 := by omega
      go_cut [] from 52 to 68 (fun wx => StepMid wr p w.heap.size T G1 { E0 with clock := E0.clock + 1, trace := E0.trace ++ [⟨call, P1, P2⟩] } wx)
      case first =>
        go_region_law ((refine step_append_lies _ (by rfl) _ _ _ (by rfl) 0 155 i1 _ 3 48 Tryz.underlying62 hi1 hy0 hy1 hy2 rfl (by decide) _ T _ (by rfl) HW6.out ⟨W6.heap.size, 0, none⟩ 1 1 [_, _, _] (by rfl) (by rfl) (cell_three_at (Blk.new W6 _ _)) (by simp [Value.oneCell']) (by omega) (by unfold maxLen; omega) (by omega) (by simp) (W6.heap.size + 1) (by simp) ?_; intro gg cap w7 hown7 hgrow7 hat7 hlt7; have hB7 := ((HBP6.out.alloc _).drew).grown hgrow7 (by rw [← HTV.out]; exact HPL.out); have hc7 := hB7.cell; have hf7 := hB7.frozen; unfold diskCells at hc7))
        all_goals go_wp2_with fail
        all_goals go_meet
        all_goals exact step_mid HM.out HTV.out HT.out HCL.out HBP6.out HO6.out HB6.out HP6.out (by assumption) (by assumption) (by assumption)
      case rest =>
        obtain ⟨G3, hM3, hsb3, ho3, hp3, hb3⟩ := hcut; have HSTEP := Lib.hid (show E0.step call P1 P2 = match E0.fates.find? (fun f => decide (f.at_ = (T : Int))) with
          | none => (false, 0, { E0 with clock := E0.clock + 1, trace := E0.trace ++ [⟨call, P1, P2⟩] })
          | some f => if f.what = 3 then (false, 75, ({ E0 with clock := E0.clock + 1, trace := E0.trace ++ [⟨call, P1, P2⟩] } : PDisk).crash f) else if f.what = 1 then (false, 70, { E0 with clock := E0.clock + 1, trace := E0.trace ++ [⟨call, P1, P2⟩] }) else (decide (f.what = 2), 0, { E0 with clock := E0.clock + 1, trace := E0.trace ++ [⟨call, P1, P2⟩] }) from by
          unfold PDisk.step; rw [HOF.out, HT.out]
          rfl)
        have HEF := Lib.hid (show ({ E0 with clock := E0.clock + 1, trace := E0.trace ++ [⟨call, P1, P2⟩] } : PDisk).fates = E0.fates from rfl); have HEL := Lib.hid (show ({ E0 with clock := E0.clock + 1, trace := E0.trace ++ [⟨call, P1, P2⟩] } : PDisk).later.length ≤ 1000000000 from Nat.le_trans HF.out.later (by decide))
        have HEI := Lib.hid (show ({ E0 with clock := E0.clock + 1, trace := E0.trace ++ [⟨call, P1, P2⟩] } : PDisk).inos.length ≤ 1152921504606846976 from Nat.le_trans HF.out.inos (by decide)); generalize ({ E0 with clock := E0.clock + 1, trace := E0.trace ++ [⟨call, P1, P2⟩] } : PDisk) = E at hM3 HSTEP HEF HEL HEI; clear hc0 hf0 hl0 hs1 hs2; have HM3 := Lib.hid hM3
        have HO3 := Lib.hid ho3; have HP3 := Lib.hid hp3; have HSB3 := Lib.hid (show G3.sb.isSome = true by rw [hsb3]; exact HSB.out); have HB3 := Lib.hid hb3; have hfts := hM3.parts.fates.fates; obtain ⟨nf, hn⟩ : ∃ nf, E.fates.length = nf := ⟨_, rfl⟩
        have HNF := Lib.hid hn; have hnb : nf ≤ 5000000000000 := by rw [← hn, HEF.out]; exact HF.out.fates
        obtain ⟨pf, cf, hfv, -, hfc⟩ := hfts; rw [hn] at hfv; have HFV := Lib.hid hfv; have HFC := Lib.hid hfc; have hc0 := hM3.blk.cell; have hf0 := hM3.blk.frozen; have hl0 := hM3.blk.lt; unfold diskCells at hc0; rw [hfv] at hc0; have HFIND := Lib.hid (dfind_any G3.fv G3.fb E.fates T w.heap.size nf wc hM3.parts.fates.fates hn hnb hb3); rw [hfv] at HFIND
        clear hM3 ho3 hp3 hsb3 hb3 hfv hfc hn
        go_wp2_with fail
        refine HFIND.out.mono ?_
        rintro e w8 ⟨rfl, ho8⟩; have hM8 := HM3.out.off ho8 (by simp) (by simp); have HM8 := Lib.hid hM8; have HO8 := Lib.hid (HO3.out.trans_nil ho8); clear hc0 hf0 hl0; have hc0 := hM8.blk.cell; have hf0 := hM8.blk.frozen; have hl0 := hM8.blk.lt; unfold diskCells at hc0; rw [HFV.out] at hc0; clear hM8
        have HEND := Lib.hid (DiskTo.next HO1.out.1 HO1.out.2.1 (DiskTo.next HO8.out HP3.out (DiskTo.refl HM8.out HSB3.out)))
        rcases idxAt_spec E.fates T with ⟨h1, h2⟩ | ⟨i, f, h1, h2, h3⟩
        · have HS := Lib.hid (show E0.step call P1 P2 = (false, 0, E) by rw [HSTEP.out, ← HEF.out, h2])
          rw [h1]; clear h1 h2 ho8 HSTEP
          go_wp2_with fail
          go_ret2
          rw [HEDS.out, HPP.out.1, HPP.out.2, HS.out]; exact ⟨rfl, HEND.out⟩
        have HS0 := Lib.hid (show E0.step call P1 P2 = if f.what = 3 then (false, 75, E.crash f) else if f.what = 1 then (false, 70, E) else (decide (f.what = 2), 0, E) by rw [HSTEP.out, ← HEF.out, h3]); have hin : i < nf := by rw [← HNF.out]; exact (List.getElem?_eq_some_iff.1 h2).1
        have hne : E.fates ≠ [] := by intro e; rw [e] at h2; simp at h2
        obtain ⟨g, rfl, hg, hgl, hcell⟩ := HFC.out hne; have hcs := hcell i f h2; have c0 : w8.cell? ⟨g, i * 4, none⟩ = some (.int .i64 f.at_) := (ho8.cell (p := ⟨g, i * 4, none⟩) hgl (by simp)).trans (hcs 0 _ rfl)
        have c1 : w8.cell? ⟨g, i * 4 + 1, none⟩ = some (.int .i64 f.what) := (ho8.cell (p := ⟨g, i * 4 + 1, none⟩) hgl (by simp)).trans (hcs 1 _ rfl)
        have c2 : w8.cell? ⟨g, i * 4 + 2, none⟩ = some (.int .i64 f.keep) := (ho8.cell (p := ⟨g, i * 4 + 2, none⟩) hgl (by simp)).trans (hcs 2 _ rfl)
        have c3 : w8.cell? ⟨g, i * 4 + 3, none⟩ = some (.int .i64 f.torn) := (ho8.cell (p := ⟨g, i * 4 + 3, none⟩) hgl (by simp)).trans (hcs 3 _ rfl)
        have hinn : (i : Int) < nf := by omega
        rw [h1]; clear h1 h2 h3 hne hg hcell hcs HSTEP ho8 HFC
        by_cases h3 : f.what = 3
        · have HS := Lib.hid (show E0.step call P1 P2 = (false, 75, E.crash f) by rw [HS0.out, if_pos h3])
          have hq3 : (f.what == 3) = true := by rw [h3]; rfl
          clear HS0 h3
          go_wp2_with fail
          refine (dcrash_any p G3 E f w8 HM8.out HSB3.out HEL.out HEI.out).mono ?_
          rintro e w9 ⟨rfl, hT⟩; clear hc0 hf0 hl0 c0 c1 c2 c3 hq3
          go_wp2_with fail
          go_ret2
          rw [HEDS.out, HPP.out.1, HPP.out.2, HS.out]; exact ⟨rfl, DiskTo.next HO1.out.1 HO1.out.2.1 (DiskTo.next HO8.out HP3.out hT)⟩
        have hq3 : (f.what == 3) = false := beq_eq_false_iff_ne.2 h3
        by_cases h4 : f.what = 1
        · have HS := Lib.hid (show E0.step call P1 P2 = (false, 70, E) by rw [HS0.out, if_neg h3, if_pos h4])
          have hq4 : (f.what == 1) = true := by rw [h4]; rfl
          clear HS0 h3 h4
          go_wp2_with fail
          go_ret2
          rw [HEDS.out, HPP.out.1, HPP.out.2, HS.out]; exact ⟨rfl, HEND.out⟩
        have HS := Lib.hid (show E0.step call P1 P2 = (decide (f.what = 2), 0, E) by rw [HS0.out, if_neg h3, if_neg h4]); have hq4 : (f.what == 1) = false := beq_eq_false_iff_ne.2 h4
        clear HS0 h3 h4
        go_wp2_with fail
        go_ret2
        rw [HEDS.out, HPP.out.1, HPP.out.2, HS.out]; exact ⟨rfl, HEND.out⟩
end
section
open Go.RowKit Go.Op Go.Maps
theorem DiskP.flushed {w : World} {G : Geo} {D : PDisk} (h : DiskP w G D) : DiskP w { G with sb := some G.nb, lv := .slice none 0 0, lb := [] } { D with safe := D.names, later := [] } where
  names := h.names
  safe := h.names
  later := World.ownsRow_nil w 0 _ 1
  lbl := rfl
  laters := fun i b l h1 _ => by simp at h1
  ino := h.ino
  qsl := h.qsl
  inos := h.inos
  nodup := h.nodup
  trace := h.trace
  fates := h.fates
  fbl := h.fbl
  apart := ⟨h.apart.1, fun e => h.apart.1 (by injection e with e; exact e.symm), by simp⟩
theorem DiskP.inoSet {w w' : World} {G : Geo} {D : PDisk} {i q : Nat} {n : Ino} {k : List Nat} (h : DiskP w G D) (ho : Off k w w') (hk : ∀ b ∈ k, b ∈ G.parts → b = q) (hq : G.qs[i]? = some q) (hB : Blk w' q 159 (inoCells n)) :
    DiskP w' G { D with inos := D.inos.set i n } := by
  have hqb : ∃ cs, Blk w q 159 cs := by
    have hl : i < D.inos.length := by rw [← h.qsl]; exact (List.getElem?_eq_some_iff.1 hq).1
    exact ⟨_, h.inos i q _ hq (List.getElem?_eq_getElem hl)⟩
  obtain ⟨cq, hqb⟩ := hqb; have mp : ∀ b ∈ G.parts, IsMapB w b → b ∉ k := fun b hb hm hin => by
    have e := hk b hin hb; rw [e] at hm; exact hm.ne hqb rfl
  have ty : ∀ b ∈ G.parts, ∀ t cs, Blk w b t cs → t ≠ 159 → b ∉ k := fun b hb t cs hB ht hin => by
    have e := hk b hin hb; rw [e] at hB; exact hB.ne_ hqb ht rfl
  have r1 : ∀ b ∈ G.rest, b ∈ G.parts := fun b hb => List.mem_cons_of_mem _ hb
  exact {
    names := h.names.off ho (mp _ (List.mem_cons_self ..) h.names.isMap)
    safe := h.safe.off ho (fun x hx => mp x (r1 _ (mem_rest.2 (.inl hx))) (by
      have := h.safe
      cases hs : G.sb with
      | none => rw [hs] at hx; simp at hx
      | some s =>
        rw [hs] at hx this; simp at hx; subst hx; exact NMat.isMap this))
    later := own_offk h.later ho (fun x hx => by
      obtain ⟨cs, hB⟩ := own_blks h.later x hx; exact ty x (r1 _ (mem_rest.2 (.inr (.inr (.inr (.inr (.inl hx))))))) _ _ hB (by decide))
    lbl := h.lbl
    laters := fun i b l h1 h2 => by
      have hN := h.laters i b l h1 h2; exact hN.off ho (mp b (r1 _ (mem_rest.2 (.inr (.inr (.inl (List.mem_of_getElem? h1)))))) hN.isMap)
    ino := h.ino.off ho (mp _ (r1 _ (mem_rest.2 (.inr (.inl rfl)))) h.ino.isMap)
    qsl := by simp [h.qsl]
    inos := fun j r m h1 h2 => by
      have h2 : (D.inos.set i n)[j]? = some m := h2
      by_cases hj : i = j
      · subst hj
        rw [hq] at h1
        cases h1
        have hl : i < D.inos.length := by rw [← h.qsl]; exact (List.getElem?_eq_some_iff.1 hq).1
        rw [List.getElem?_set_self hl] at h2
        cases h2
        exact hB
      rw [List.getElem?_set_ne hj] at h2; have hB' := h.inos j r m h1 h2; have hne : r ≠ q := fun e => by
        subst e; have h3 := (List.getElem?_eq_some_iff.1 h1); have h4 := (List.getElem?_eq_some_iff.1 hq); have h5 := List.pairwise_iff_getElem.1 h.nodup
        rcases Nat.lt_or_ge j i with h | h
        · exact h5 j i h3.1 h4.1 h (by rw [h3.2, h4.2])
        exact h5 i j h4.1 h3.1 (by omega) (by rw [h3.2, h4.2])
      exact hB'.off ho (fun hin => hne (hk r hin (r1 _ (mem_rest.2 (.inr (.inr (.inr (.inl (List.mem_of_getElem? h1)))))))))
    nodup := h.nodup
    trace := own_offk h.trace ho (fun x hx => by
      obtain ⟨cs, hB⟩ := own_blks h.trace x hx; exact ty x (r1 _ (mem_rest.2 (.inr (.inr (.inr (.inr (.inr (.inl hx)))))))) _ _ hB (by decide))
    fates := h.fates.off ho (fun x hx => by
      obtain ⟨t, cs, hB, hW⟩ := h.fbl x hx; exact ty x (r1 _ (mem_rest.2 (.inr (.inr (.inr (.inr (.inr (.inr hx)))))))) _ _ hB (hW.ne (by decide)))
    fbl := fun g hg => by
      obtain ⟨t, cs, hB, hW⟩ := h.fbl g hg; exact ⟨t, cs, hB.off ho (ty g (r1 _ (mem_rest.2 (.inr (.inr (.inr (.inr (.inr (.inr hg)))))))) _ _ hB (hW.ne (by decide))), hW⟩
    apart := h.apart }
set_option maxRecDepth 100000 in
set_option maxHeartbeats 4000000 in
theorem dflush_any (p n : Nat) (G : Geo) (D : PDisk) (w : World) (hM : DiskM w p G D) (hsb : G.sb.isSome = true) (hE : EditsOk D n) (hn : n ≤ 50000000) (hTT : ∀ W, Off (p :: G.parts) w W → Tabs W) :
    Calls Tryz.prog 34 #[.pointer (some ⟨p, 0, none⟩)] w fun e w' => e = .returned (.int .i64 D.edited.flush.1) ∧ DiskTo w p G.parts w' D.edited.flush.2 := by
  have HST := Lib.hid (dstep_any p 0 n none G D ⟨#[70, 108, 117, 115, 104]⟩ [] w hM hsb hE hn rfl (by omega) (fun _ => rfl) (fun b hb => by cases hb) (fun b hb => by cases hb) hTT); have HS := Lib.hid (show D.edited.flush = match D.edited.step ⟨#[70, 108, 117, 115, 104]⟩ ⟨#[]⟩ ⟨#[]⟩ with | (full, e, E) => if e ≠ 0 then (e, E) else (0, E.flush_) from rfl); clear hM hsb hE hTT
  have HST := Lib.hid (show Calls Tryz.prog 83 #[.pointer (some ⟨p, 0, none⟩), .string ⟨#[70, 108, 117, 115, 104]⟩, .slice none 0 0] w fun e w' => e = .returned (.tuple #[.bool (D.edited.step ⟨#[70, 108, 117, 115, 104]⟩ ⟨#[]⟩ ⟨#[]⟩).1, .int .i64 (D.edited.step ⟨#[70, 108, 117, 115, 104]⟩ ⟨#[]⟩ ⟨#[]⟩).2.1]) ∧ DiskTo w p G.parts w' (D.edited.step ⟨#[70, 108, 117, 115, 104]⟩ ⟨#[]⟩ ⟨#[]⟩).2.2 from HST.out)
  generalize D.edited.step ⟨#[70, 108, 117, 115, 104]⟩ ⟨#[]⟩ ⟨#[]⟩ = st at HST HS
  obtain ⟨full, er, E⟩ := st; have HS := Lib.hid (show D.edited.flush = if er ≠ 0 then (er, E) else (0, E.flush_) from HS.out)
  go_enter Tryz.func34, Tryz.ntmps34
  go_wp2_with fail
  refine HST.out.mono ?_
  rintro e w1 ⟨rfl, hT⟩; have HT := Lib.hid hT; clear hT
  by_cases h0 : er = 0
  · subst h0
    have HS2 := Lib.hid (show D.edited.flush = (0, E.flush_) by rw [HS.out]; simp); obtain ⟨G1, hM1, ho1, hp1, hs1⟩ := HT.out; have HM1 := Lib.hid hM1; have HO1 := Lib.hid ho1; have HP1 := Lib.hid hp1; have hc := hM1.blk.cell; have hf := hM1.blk.frozen; have hl := hM1.blk.lt; unfold diskCells at hc; clear hM1 ho1 hp1 hs1
    go_wp2_with fail
    go_ret
    rw [HS2.out]; refine ⟨rfl, DiskTo.next HO1.out HP1.out ?_⟩; refine ⟨{ G1 with sb := some G1.nb, lv := .slice none 0 0, lb := [] }, ⟨?_, ?_⟩, ?_, fun b hb => ?_, rfl⟩
    · have := (HM1.out.blk.set_ 1 (.map (some G1.nb))).set_ 2 (.slice none 0 0)
      unfold diskCells at this ⊢
      simpa [PDisk.flush_] using this
    · refine HM1.out.parts.flushed.off (k := [p]) (((Off.refl [p] w1).setCell (.inr (by simp)) _).setCell (.inr (by simp)) _) (fun b hb h => ?_)
      simp at h; subst h
      exact HM1.out.parts.flushed.far HM1.out.blk (by decide) hb
    · exact (((Off.refl (p :: G1.parts) w1).setCell (.inr (by simp)) _).setCell (.inr (by simp)) _)
    left
    rcases List.mem_cons.1 hb with rfl | hb
    · exact List.mem_cons_self ..
    rcases mem_rest.1 hb with h | h | h | h | h | h | h
    · simp at h; subst h; exact List.mem_cons_self ..
    · exact List.mem_cons_of_mem _ (mem_rest.2 (.inr (.inl h)))
    · simp at h
    · exact List.mem_cons_of_mem _ (mem_rest.2 (.inr (.inr (.inr (.inl h)))))
    · simp [Value.ownBlock] at h
    · exact List.mem_cons_of_mem _ (mem_rest.2 (.inr (.inr (.inr (.inr (.inr (.inl h)))))))
    exact List.mem_cons_of_mem _ (mem_rest.2 (.inr (.inr (.inr (.inr (.inr (.inr h)))))))
  have HS2 := Lib.hid (show D.edited.flush = (er, E) by rw [HS.out, if_pos h0]); have hne : (er == 0) = false := beq_eq_false_iff_ne.2 h0
  clear h0
  go_wp2_with fail
  go_ret
  rw [HS2.out]; exact ⟨rfl, HT.out⟩
end
section
open Go.RowKit Go.Op Go.Maps
def TabsX (w : World) (p : Nat) (L : List Nat) : Prop := ∀ W, Off (p :: L) w W → Tabs W
structure DSE (w : World) (p : Nat) (G : Geo) (D : PDisk) (n : Nat) : Prop where
  m : DiskM w p G D
  sb : G.sb.isSome = true
  ok : Ok D n
  tabs : TabsX w p G.parts
theorem TabsX.tabs {w : World} {p : Nat} {L : List Nat} (h : TabsX w p L) : Tabs w := h w (Off.refl _ _)
theorem TabsX.off {w W : World} {p : Nat} {L : List Nat} (h : TabsX w p L) (ho : Off [] w W) : Tabs W := h W (ho.mono (fun _ _ h => by simp at h))
theorem TabsX.next {w w' : World} {p : Nat} {L L' : List Nat} (h : TabsX w p L) (ho : Off (p :: L) w w') (hp : ∀ b ∈ L', b ∈ L ∨ w.heap.size ≤ b) : TabsX w' p L' := fun W hW => by
  refine h W (ho.trans hW (fun x hx hm => ?_))
  rcases List.mem_cons.1 hm with rfl | hm
  · exact List.mem_cons_self ..
  rcases hp x hm with h | h
  · exact List.mem_cons_of_mem _ h
  omega
theorem TabsX.of {w0 w : World} {p : Nat} {L : List Nat} (h : Tabs w0) (ho : Off [] w0 w) (hp : w0.heap.size ≤ p) (hL : ∀ b ∈ L, w0.heap.size ≤ b) : TabsX w p L := fun W hW =>
  h.off (ho.trans hW (fun x hx hm => by
    rcases List.mem_cons.1 hm with rfl | hm
    · omega
    have := hL x hm; omega))
theorem DSE.off {w w' : World} {p n : Nat} {G : Geo} {D : PDisk} (h : DSE w p G D n) (ho : Off [] w w') : DSE w' p G D n :=
  ⟨h.m.off ho (by simp) (by simp), h.sb, h.ok, h.tabs.next (ho.mono (fun _ _ h => by simp at h)) (fun _ hb => .inl hb)⟩
def DSETo (w : World) (p : Nat) (L : List Nat) (w' : World) (D : PDisk) (n : Nat) : Prop := ∃ G, DSE w' p G D n ∧ Off (p :: L) w w' ∧ ∀ b ∈ G.parts, b ∈ L ∨ w.heap.size ≤ b
theorem DSE.to {w w1 w' : World} {p n n' : Nat} {G : Geo} {D D' : PDisk} (h : DSE w p G D n) (ho : Off [] w w1) (k : DiskTo w1 p G.parts w' D') (hk : Ok D' n') : DSETo w p G.parts w' D' n' := by
  obtain ⟨G', h1, h2, h3, h4⟩ := k; have ho2 : Off (p :: G.parts) w w' := (ho.mono (fun _ _ h => by simp at h)).trans h2 (fun _ _ h => h)
  have hp : ∀ b ∈ G'.parts, b ∈ G.parts ∨ w.heap.size ≤ b := fun b hb => by
    rcases h3 b hb with h | h
    · exact .inl h
    exact .inr (Nat.le_trans ho.size h)
  exact ⟨G', ⟨h1, h4, hk, h.tabs.next ho2 hp⟩, ho2, hp⟩
theorem DSETo.next {w w1 w2 : World} {p n n2 : Nat} {L : List Nat} {D1 D2 : PDisk} (h : DSETo w p L w1 D1 n) (k : ∀ G1, DSE w1 p G1 D1 n → DSETo w1 p G1.parts w2 D2 n2) : DSETo w p L w2 D2 n2 := by
  obtain ⟨G1, h1, h2, h3⟩ := h; obtain ⟨G2, h4, h5, h6⟩ := k G1 h1; refine ⟨G2, h4, h2.trans h5 (fun x hx hm => ?_), fun b hb => ?_⟩
  · rcases List.mem_cons.1 hm with rfl | hm
    · exact List.mem_cons_self ..
    rcases h3 x hm with h | h
    · exact List.mem_cons_of_mem _ h
    omega
  rcases h6 b hb with h | h
  · exact h3 b h
  exact .inr (Nat.le_trans h2.size h)
theorem DSETo.step {w w1 w2 : World} {p n2 : Nat} {L : List Nat} {G1 : Geo} {D2 : PDisk} (ho : Off (p :: L) w w1) (hp : ∀ b ∈ G1.parts, b ∈ L ∨ w.heap.size ≤ b) (k : DSETo w1 p G1.parts w2 D2 n2) : DSETo w p L w2 D2 n2 := by
  obtain ⟨G2, h4, h5, h6⟩ := k; refine ⟨G2, h4, ho.trans h5 (fun x hx hm => ?_), fun b hb => ?_⟩
  · rcases List.mem_cons.1 hm with rfl | hm
    · exact List.mem_cons_self ..
    rcases hp x hm with h | h
    · exact List.mem_cons_of_mem _ h
    omega
  rcases h6 b hb with h | h
  · exact hp b h
  exact .inr (Nat.le_trans ho.size h)
theorem DSETo.off {w w1 w2 : World} {p n : Nat} {L : List Nat} {D : PDisk} (h : DSETo w p L w1 D n) (ho : Off [] w1 w2) : DSETo w p L w2 D n :=
  h.next fun G1 h1 => ⟨G1, h1.off ho, ho.mono (fun _ _ h => by simp at h), fun _ hb => .inl hb⟩
theorem DSE.refl {w : World} {p n : Nat} {G : Geo} {D : PDisk} (h : DSE w p G D n) : DSETo w p G.parts w D n := ⟨G, h, Off.refl _ _, fun _ hb => .inl hb⟩
theorem DSETo.le {w w' : World} {p n m : Nat} {L : List Nat} {D : PDisk} (h : DSETo w p L w' D n) (hm : n ≤ m) : DSETo w p L w' D m := by
  obtain ⟨G, h1, h2, h3⟩ := h; exact ⟨G, ⟨h1.m, h1.sb, PDisk.ok_mono h1.ok hm, h1.tabs⟩, h2, h3⟩
theorem dstep_oneE (p n : Nat) (G : Geo) (D : PDisk) (call path : ByteArray) (w : World) (h : DSE w p G D n) (hE : EditsOk D n) (hn : n ≤ 50000000) :
    Calls Tryz.prog 83 #[.pointer (some ⟨p, 0, none⟩), .string call, .slice (some ⟨w.heap.size, 0, none⟩) 1 1] (w.alloc (.cells #[.string path] 9)) fun e w' =>
      e = .returned (.tuple #[.bool (D.edited.step call path ⟨#[]⟩).1, .int .i64 (D.edited.step call path ⟨#[]⟩).2.1]) ∧ DSETo w p G.parts w' (D.edited.step call path ⟨#[]⟩).2.2 (n + 1) := by
  have hlt := h.m.blk.lt; refine (dstep_any p 1 n (some ⟨w.heap.size, 0, none⟩) G D call [path] (w.alloc (.cells #[.string path] 9)) (h.m.alloc _) h.sb hE hn rfl (by omega) (by intro e; cases e) (fun b hb => ?_) (fun b hb => ?_) (fun W hW => h.tabs W (((Off.refl (p :: G.parts) w).alloc _).trans hW (fun _ _ h => h)))).mono ?_
  · cases hb
    exact cell_one_at (Blk.new w _ _)
  · cases hb
    refine ⟨fun hm => ?_, by simp⟩
    rcases List.mem_cons.1 hm with h1 | h1
    · dsimp only at h1; omega
    have := h.m.parts.lt h1; dsimp only at this; omega
  rintro e w' ⟨he, hT⟩; exact ⟨he, h.to ((Off.refl [] w).alloc _) hT (PDisk.step_ok hE.last _ _ _)⟩
theorem dstep_twoE (p n : Nat) (G : Geo) (D : PDisk) (call path q : ByteArray) (w : World) (h : DSE w p G D n) (hE : EditsOk D n) (hn : n ≤ 50000000) :
    Calls Tryz.prog 83 #[.pointer (some ⟨p, 0, none⟩), .string call, .slice (some ⟨w.heap.size, 0, none⟩) 2 2] (w.alloc (.cells #[.string path, .string q] 9)) fun e w' =>
      e = .returned (.tuple #[.bool (D.edited.step call path q).1, .int .i64 (D.edited.step call path q).2.1]) ∧ DSETo w p G.parts w' (D.edited.step call path q).2.2 (n + 1) := by
  have hlt := h.m.blk.lt; refine (dstep_any p 2 n (some ⟨w.heap.size, 0, none⟩) G D call [path, q] (w.alloc (.cells #[.string path, .string q] 9)) (h.m.alloc _) h.sb hE hn rfl (by omega) (by intro e; cases e) (fun b hb => ?_) (fun b hb => ?_) (fun W hW => h.tabs W (((Off.refl (p :: G.parts) w).alloc _).trans hW (fun _ _ h => h)))).mono ?_
  · cases hb
    exact cell_two_at (Blk.new w _ _)
  · cases hb
    refine ⟨fun hm => ?_, by simp⟩
    rcases List.mem_cons.1 hm with h1 | h1
    · dsimp only at h1; omega
    have := h.m.parts.lt h1; dsimp only at this; omega
  rintro e w' ⟨he, hT⟩; exact ⟨he, h.to ((Off.refl [] w).alloc _) hT (PDisk.step_ok hE.last _ _ _)⟩
theorem flush_callE (p n : Nat) (G : Geo) (D : PDisk) (w : World) (h : DSE w p G D n) (hE : EditsOk D n) (hn : n ≤ 50000000) :
    Calls Tryz.prog 34 #[.pointer (some ⟨p, 0, none⟩)] w fun e w' => e = .returned (.int .i64 D.edited.flush.1) ∧ DSETo w p G.parts w' D.edited.flush.2 (n + 2) :=
  (dflush_any p n G D w h.m h.sb hE hn h.tabs).mono fun e w' ⟨he, hT⟩ => ⟨he, h.to (Off.refl _ _) hT (PDisk.flush_ok hE.last)⟩
theorem dtree_callE (p n : Nat) (G : Geo) (D : PDisk) (w : World) (h : DSE w p G D n) (hn : n ≤ 50000000) :
    Calls Tryz.prog 27 #[.pointer (some ⟨p, 0, none⟩)] w fun e w' => ∃ v, e = .returned v ∧ w'.ownsRow w.heap.size 105 4 v D.tree.length (cellsOf D.tree) ∧ Off [] w w' := dtree_any p n G D w h.m h.ok hn
end
section
open Go.RowKit Go.Op Go.Maps
theorem rsns_new (w : World) (l : List (Bool × Int)) (cs : Array Value) (h : (rsnCells l).toArray = cs) : RsnsAt (w.alloc (.cells cs 164)) w.heap.size l := by
  subst h; exact Rsns.at_ (Blk.new w 164 _)
theorem sync_end {w w' : World} {p q n : Nat} {G : Geo} {D : PDisk} {i : Nat} {m : Ino} (h : DSE w p G D n) (hq : G.qs[i]? = some q) (hw : Off [q] w w') (hB : Blk w' q 159 (inoCells m)) (hp : p ≠ q) : DSETo w p G.parts w' { D with inos := D.inos.set i m } n := by
  have hqp : q ∈ G.parts := List.mem_cons_of_mem _ (mem_rest.2 (.inr (.inr (.inr (.inl (List.mem_of_getElem? hq))))))
  have hM : DiskM w' p G { D with inos := D.inos.set i m } := by
    refine ⟨?_, h.m.parts.inoSet hw (fun b hb _ => by simpa using hb) hq hB⟩
    have := h.m.blk.off hw (by simpa using hp); unfold diskCells at this ⊢
    simpa using this
  have ho : Off (p :: G.parts) w w' := hw.mono (fun x _ hx => by simp at hx; subst hx; exact List.mem_cons_of_mem _ hqp)
  exact ⟨G, ⟨hM, h.sb, PDisk.set_ok h.ok i m, h.tabs.next ho (fun _ hb => .inl hb)⟩, ho, fun _ hb => .inl hb⟩
set_option maxRecDepth 100000 in
set_option maxHeartbeats 8000000 in
theorem dsync_callE (p n : Nat) (G : Geo) (D : PDisk) (path : ByteArray) (w : World) (h : DSE w p G D n) (hE : EditsOk D n) (hn : n ≤ 50000000) (hs : path.size ≤ 9223372036854775807) :
    Calls Tryz.prog 33 #[.pointer (some ⟨p, 0, none⟩), .string path] w fun e w' => e = .returned (.int .i64 (D.edited.sync path).1) ∧ DSETo w p G.parts w' (D.edited.sync path).2 (n + 2) := by
  have HST := Lib.hid (dstep_oneE p n G D ⟨#[83, 121, 110, 99]⟩ path w h hE hn); have HS := Lib.hid (show D.edited.sync path = match D.edited.step ⟨#[83, 121, 110, 99]⟩ path ⟨#[]⟩ with | (full, e, E) => if e ≠ 0 then (e, E) else E.sync_ path from rfl); clear h; generalize D.edited.step ⟨#[83, 121, 110, 99]⟩ path ⟨#[]⟩ = st at HST HS; obtain ⟨full, er, E⟩ := st
  have HS := Lib.hid (show D.edited.sync path = if er ≠ 0 then (er, E) else E.sync_ path from HS.out)
  go_enter Tryz.func33, Tryz.ntmps33
  go_wp2_with fail
  refine HST.out.mono ?_
  rintro e w1 ⟨rfl, hT⟩; have HT := Lib.hid hT; clear hT HST
  by_cases h0 : er = 0
  · subst h0
    have HS2 := Lib.hid (show D.edited.sync path = E.sync_ path by rw [HS.out]; simp); obtain ⟨G1, h1, ho1, hp1⟩ := HT.out; have H1 := Lib.hid h1; have HOP := Lib.hid (And.intro ho1 hp1); clear ho1 hp1; obtain ⟨x1, hx1⟩ : ∃ x, PDisk.no path = x := ⟨_, rfl⟩
    obtain ⟨x2, hx2⟩ : ∃ x, E.gone path = x := ⟨_, rfl⟩
    have HX := Lib.hid (And.intro hx1 hx2); have hno := dno_any path w1 h1.tabs.tabs; have HGO := Lib.hid (fun (W : World) (ho : Off [] w1 W) => dgone_any p G1 E path W (h1.m.off ho (by simp) (by simp)) (by unfold maxLen; omega) (h1.ok.look (by omega) path)); rw [hx1] at hno; rw [hx2] at HGO; unfold rsn at hno HGO; have HNO := Lib.hid hno; clear HS h1 hx1 hx2 hno
    go_wp2_with fail
    refine HNO.out.mono ?_
    rintro e w2 ⟨rfl, ho2⟩
    go_wp2_with fail
    refine (HGO.out _ ho2).mono ?_
    rintro e w3 ⟨rfl, ho3⟩; have HO3 := Lib.hid (ho2.trans_nil ho3); clear HGO HNO ho2 ho3
    go_wp2_with fail
    refine (dfirst_any w3.heap.size 2 2 [x1, x2] _ (rsns_new w3 [x1, x2] _ rfl) rfl (by omega)).mono ?_
    rintro e w4 ⟨rfl, ho4⟩; have HO4 := Lib.hid ((HO3.out.alloc _).trans_nil ho4); clear ho4; obtain ⟨v, hv⟩ : ∃ v, firstE [x1, x2] = v := ⟨_, rfl⟩
    rw [hv]; have HV := Lib.hid hv; clear hv; have HSY := Lib.hid (show E.sync_ path = if v ≠ 0 then (v, E) else (0, match E.at_ path with | none => E | some n => { E with inos := E.inos.set (lookN E.names path - 1) { n with dirty := false } }) by
      unfold PDisk.sync_; rw [HX.out.1, HX.out.2, HV.out]
      rfl)
    by_cases hv0 : v = 0
    · subst hv0
      have hat : ∃ m, E.at_ path = some m := by
        cases ha : E.at_ path with
        | some m => exact ⟨m, rfl⟩
        | none =>
          exfalso
          have h2 : E.gone path = (true, 74) := by unfold PDisk.gone; rw [ha]; rfl
          have h3 := HV.out; rw [← HX.out.1, ← HX.out.2, h2] at h3; unfold PDisk.no at h3; simp only [firstE] at h3
          split at h3 <;> simp at h3
      obtain ⟨m, hm⟩ := hat; have H4 := Lib.hid (H1.out.off HO4.out); obtain ⟨q, hq1, hq2, -, hq3, -⟩ := at_some H4.out.m hm; have HAT := Lib.hid (dat_some p G1 E path w4 H4.out.m (by unfold maxLen; omega) (H4.out.ok.look (by omega) path) q hq1); have HQ2 := Lib.hid hq2; have HQ3 := Lib.hid hq3
      have HF := Lib.hid (show D.edited.sync path = (0, { E with inos := E.inos.set (lookN E.names path - 1) { m with dirty := false } }) by
        rw [HS2.out, HSY.out, hm]; simp)
      clear hm hq1 hq2 hq3 HSY
      go_wp2_with fail
      refine HAT.out.mono ?_
      rintro e w5 ⟨rfl, ho5⟩; have HO5 := Lib.hid ho5; have hB5 := HQ2.out.off ho5 (by simp); have HB5 := Lib.hid hB5; have hc := hB5.cell; have hf := hB5.frozen; have hl := hB5.lt; unfold inoCells at hc; clear ho5 hB5 HAT
      go_wp2_with fail
      go_ret
      rw [HF.out]; refine ⟨rfl, ?_⟩; refine DSETo.step ((HOP.out.1.trans_nil HO4.out).trans_nil HO5.out) HOP.out.2 ((sync_end (H4.out.off HO5.out) HQ3.out ((Off.refl [q] w5).setCell (p := ⟨q, 5, none⟩) (.inr (by simp)) _) ?_ ?_).le (by omega))
      · have := HB5.out.set_ 5 (.bool false)
        simpa [inoCells] using this
      exact Ne.symm (HB5.out.ne_ (H4.out.m.blk.off HO5.out (by simp)) (by decide))
    have HF := Lib.hid (show D.edited.sync path = (v, E) by rw [HS2.out, HSY.out, if_pos hv0]); have hne : (v == 0) = false := beq_eq_false_iff_ne.2 hv0
    clear hv0 HSY
    go_wp2_with fail
    go_ret
    rw [HF.out]; exact ⟨rfl, DSETo.step (HOP.out.1.trans_nil HO4.out) HOP.out.2 ((H1.out.off HO4.out).refl.le (by omega))⟩
  have HS2 := Lib.hid (show D.edited.sync path = (er, E) by rw [HS.out, if_pos h0]); have hne : (er == 0) = false := beq_eq_false_iff_ne.2 h0
  clear h0
  go_wp2_with fail
  go_ret
  rw [HS2.out]; exact ⟨rfl, HT.out.le (by omega)⟩
end
section
open Go.RowKit Go.Op Go.Maps
theorem DSETo.own {w W w1 w2 : World} {p n n1 : Nat} {G : Geo} {D D1 : PDisk} {k : List Nat} (h : DSE w p G D n) (hW : Off [] w W) (hT : DSETo W p G.parts w1 D1 n1) (ho : Off k w1 w2) (hk : ∀ b ∈ k, w.heap.size ≤ b ∧ b < W.heap.size) : DSETo w p G.parts w2 D1 n1 := by
  obtain ⟨G1, h1, h2, h3⟩ := hT; have hp := h.m.blk.lt; have ho1 : Off (p :: G.parts) w w1 := (hW.mono (fun _ _ h => by simp at h)).trans h2 (fun _ _ h => h)
  have ho2 : Off (p :: G.parts) w w2 := ho1.trans ho (fun x hx hm => by have := (hk x hm).1; omega)
  have hp3 : ∀ b ∈ G1.parts, b ∈ G.parts ∨ w.heap.size ≤ b := fun b hb => by
    rcases h3 b hb with h | h
    · exact .inl h
    exact .inr (Nat.le_trans hW.size h)
  refine ⟨G1, ⟨h1.m.off ho (fun hm => by have := (hk p hm).1; omega) (fun b hb hm => ?_), h1.sb, h1.ok, h.tabs.next ho2 hp3⟩, ho2, hp3⟩
  have h4 := hk b hm
  rcases h3 b hb with h5 | h5
  · have := h.m.parts.lt h5; omega
  omega
theorem put7 {w : World} {gn gs : Nat} {c0 c1 c2 c3 d0 d1 d2 a b c d x y z : Value} (hn : Blk w gn 105 #[c0, c1, c2, c3]) (hs : Blk w gs 117 #[d0, d1, d2]) :
    Blk (((((((w.setCell ⟨gn, 0, none⟩ a).setCell ⟨gn, 1, none⟩ b).setCell ⟨gn, 2, none⟩ c).setCell ⟨gn, 3, none⟩ d).setCell ⟨gs, 0, none⟩ x).setCell ⟨gs, 1, none⟩ y).setCell ⟨gs, 2, none⟩ z) gn 105 #[a, b, c, d] ∧
    Blk (((((((w.setCell ⟨gn, 0, none⟩ a).setCell ⟨gn, 1, none⟩ b).setCell ⟨gn, 2, none⟩ c).setCell ⟨gn, 3, none⟩ d).setCell ⟨gs, 0, none⟩ x).setCell ⟨gs, 1, none⟩ y).setCell ⟨gs, 2, none⟩ z) gs 117 #[x, y, z] ∧
    Off [gn, gs] w (((((((w.setCell ⟨gn, 0, none⟩ a).setCell ⟨gn, 1, none⟩ b).setCell ⟨gn, 2, none⟩ c).setCell ⟨gn, 3, none⟩ d).setCell ⟨gs, 0, none⟩ x).setCell ⟨gs, 1, none⟩ y).setCell ⟨gs, 2, none⟩ z) := by
  have hne : gn ≠ gs := hn.ne_ hs (by decide)
  refine ⟨?_, ?_, ?_⟩
  · have := (((((((hn.set_ 0 a).set_ 1 b).set_ 2 c).set_ 3 d).far (p := ⟨gs, 0, none⟩) hne x).far (p := ⟨gs, 1, none⟩) hne y).far (p := ⟨gs, 2, none⟩) hne z)
    simpa using this
  · have := (((((((hs.far (p := ⟨gn, 0, none⟩) (Ne.symm hne) a).far (p := ⟨gn, 1, none⟩) (Ne.symm hne) b).far (p := ⟨gn, 2, none⟩) (Ne.symm hne) c).far (p := ⟨gn, 3, none⟩) (Ne.symm hne) d).set_ 0 x).set_ 1 y).set_ 2 z)
    simpa using this
  exact (((((((Off.refl [gn, gs] w).setCell (.inr (by simp)) _).setCell (.inr (by simp)) _).setCell (.inr (by simp)) _).setCell (.inr (by simp)) _).setCell (.inr (by simp)) _).setCell (.inr (by simp)) _).setCell (.inr (by simp)) _
def getVal (r : Int × Node × Int × Int × Int) : Value := .tuple #[.agg #[.string r.2.1.path, .int .i64 r.2.1.kind, .string r.2.1.data, .int .i64 r.2.1.mode], .agg #[.int .i64 r.2.2.1, .int .i64 r.2.2.2.1, .int .i64 r.2.2.2.2], .int .i64 r.1]
set_option maxRecDepth 100000 in
set_option maxHeartbeats 8000000 in
theorem dget_callE (p n : Nat) (G : Geo) (D : PDisk) (path : ByteArray) (w : World) (h : DSE w p G D n) (hE : EditsOk D n) (hn : n ≤ 50000000) (hs : path.size ≤ 9223372036854775807) :
    Calls Tryz.prog 154 #[.pointer (some ⟨p, 0, none⟩), .string path] w fun e w' => e = .returned (getVal (D.edited.get path).1) ∧ DSETo w p G.parts w' (D.edited.get path).2 (n + 1) := by
  have H := Lib.hid h; have HS := Lib.hid (show D.edited.get path = match D.edited.step ⟨#[71, 101, 116]⟩ path ⟨#[]⟩ with | (_, e, E) => if e ≠ 0 then ((e, ⟨⟨#[]⟩, 0, ⟨#[]⟩, 0⟩, 0, 0, 0), E) else (E.get_ path, E) from rfl); have HSTEP := Lib.hid (fun (W : World) (ho : Off [] w W) => dstep_oneE p n G D ⟨#[71, 101, 116]⟩ path W (h.off ho) hE hn); clear h
  generalize D.edited.step ⟨#[71, 101, 116]⟩ path ⟨#[]⟩ = st at HS HSTEP
  obtain ⟨full, er, E⟩ := st; have HS := Lib.hid (show D.edited.get path = if er ≠ 0 then ((er, ⟨⟨#[]⟩, 0, ⟨#[]⟩, 0⟩, 0, 0, 0), E) else (E.get_ path, E) from HS.out)
  go_enter Tryz.func154, Tryz.ntmps154
  go_upto_region 1 with fail
  refine code_gen (fun W => Blk W w.heap.size 105 #[.string ⟨#[]⟩, .int .i64 0, .string ⟨#[]⟩, .int .i64 0] ∧ Blk W (w.heap.size + 1) 117 #[.int .i64 0, .int .i64 0, .int .i64 0] ∧ Off [] w W ∧ w.heap.size + 1 < W.heap.size)
    ⟨(Blk.new w _ _).alloc _, Blk.new1 w _ _ _, ((Off.refl _ _).alloc _).alloc _, by simp⟩ ?_
  rintro W ⟨hbn, hbs, hof, hsz⟩; have HBN := Lib.hid hbn; have HBS := Lib.hid hbs; have HOF := Lib.hid hof; have HSZ := Lib.hid hsz; clear hbn hbs hof hsz
  go_wp2_with fail
  refine (HSTEP.out W HOF.out).mono ?_
  rintro e w1 ⟨rfl, hT⟩; have HT := Lib.hid hT; obtain ⟨G1, h1, ho1, hp1⟩ := hT; have hno : ∀ b, w.heap.size ≤ b → b < W.heap.size → b ∉ p :: G.parts := fun b hb _ hm => by
    rcases List.mem_cons.1 hm with rfl | hm
    · have := H.out.m.blk.lt; omega
    have := H.out.m.parts.lt hm; omega
  have hbn1 := HBN.out.off ho1 (hno _ (Nat.le_refl _) (by have := HSZ.out; omega)); have hbs1 := HBS.out.off ho1 (hno _ (by omega) HSZ.out); have HBN1 := Lib.hid hbn1; have HBS1 := Lib.hid hbs1; have H1 := Lib.hid h1; have HOP := Lib.hid (And.intro ho1 hp1); have HKK := Lib.hid (show ∀ b ∈ [w.heap.size, w.heap.size + 1], w.heap.size ≤ b ∧ b < W.heap.size from fun b hb => by
    have := HSZ.out; simp at hb; omega)
  clear h1 ho1 hp1 hno HSTEP; have hcn := hbn1.cell; have hfn := hbn1.frozen; have hln := hbn1.lt; have hcs := hbs1.cell; have hfs := hbs1.frozen; have hls := hbs1.lt; clear hbn1 hbs1
  by_cases h0 : er = 0
  · subst h0
    have HS2 := Lib.hid (show D.edited.get path = (E.get_ path, E) by rw [HS.out]; simp)
    by_cases hp : path = ⟨#[]⟩
    · subst hp
      have HS3 := Lib.hid (show D.edited.get ⟨#[]⟩ = ((0, ⟨⟨#[]⟩, 2, ⟨#[]⟩, 0⟩, 0, 0, 0), E) by rw [HS2.out]; unfold PDisk.get_; rw [if_pos rfl]); clear HS
      go_wp2_with fail
      obtain ⟨k1, k2, k3⟩ := put7 (a := .string ⟨#[]⟩) (b := .int .i64 2) (c := .string ⟨#[]⟩) (d := .int .i64 0) (x := .int .i64 0) (y := .int .i64 0) (z := .int .i64 0) HBN1.out HBS1.out; have hc1 := k1.cell; have hc2 := k2.cell; have K3 := Lib.hid k3; clear k1 k2 k3 hcn hfn hln hcs hfs hls
      refine bodyPost_ret (v := .tuple #[.agg #[.string ⟨#[]⟩, .int .i64 2, .string ⟨#[]⟩, .int .i64 0], .agg #[.int .i64 0, .int .i64 0, .int .i64 0], .int .i64 0]) ?_ rfl ?_
      · have hres : Tryz.f154.results = #[.cell 4 105, .cell 5 117, .tmp 6] := rfl
        simp only [results, hres]
        go_simp
      rw [HS3.out]; exact ⟨rfl, DSETo.own H.out HOF.out HT.out K3.out HKK.out⟩
    obtain ⟨hpe1, hpe2⟩ := emp_ne hp; obtain ⟨x1, hx1⟩ : ∃ x, PDisk.no path = x := ⟨_, rfl⟩
    obtain ⟨x2, hx2⟩ : ∃ x, E.gone path = x := ⟨_, rfl⟩
    have HX := Lib.hid (And.intro hx1 hx2); have hno := dno_any path w1 H1.out.tabs.tabs; have HGO := Lib.hid (fun (W : World) (ho : Off [] w1 W) => dgone_any p G1 E path W (H1.out.m.off ho (by simp) (by simp)) (by unfold maxLen; omega) (H1.out.ok.look (by omega) path)); rw [hx1] at hno; rw [hx2] at HGO; unfold rsn at hno HGO; have HNO := Lib.hid hno
    clear HS hx1 hx2 hno hcn hfn hln hcs hfs hls
    go_wp2_with fail
    refine HNO.out.mono ?_
    rintro e w2 ⟨rfl, ho2⟩
    go_wp2_with fail
    refine (HGO.out _ ho2).mono ?_
    rintro e w3 ⟨rfl, ho3⟩; have HO3 := Lib.hid (ho2.trans_nil ho3); clear HGO HNO ho2 ho3
    go_wp2_with fail
    refine (dfirst_any w3.heap.size 2 2 [x1, x2] _ (rsns_new w3 [x1, x2] _ rfl) rfl (by omega)).mono ?_
    rintro e w4 ⟨rfl, ho4⟩; have HO4 := Lib.hid ((HO3.out.alloc _).trans_nil ho4); clear ho4; obtain ⟨v, hv⟩ : ∃ v, firstE [x1, x2] = v := ⟨_, rfl⟩
    rw [hv]; have HV := Lib.hid hv; clear hv; have HGE := Lib.hid (show E.get_ path = if v ≠ 0 then (v, ⟨⟨#[]⟩, 0, ⟨#[]⟩, 0⟩, 0, 0, 0) else match E.at_ path with | none => (0, ⟨⟨#[]⟩, 0, ⟨#[]⟩, 0⟩, 0, 0, 0) | some n => (0, { n.node with path := path }, (lookN E.names path : Int), (n.node.data.size : Int), n.time) by
      unfold PDisk.get_; rw [if_neg hp, HX.out.1, HX.out.2, HV.out]
      rfl)
    have HBN4 := Lib.hid (HBN1.out.off HO4.out (by simp)); have HBS4 := Lib.hid (HBS1.out.off HO4.out (by simp)); have hcn := HBN4.out.cell; have hfn := HBN4.out.frozen; have hln := HBN4.out.lt; have hcs := HBS4.out.cell; have hfs := HBS4.out.frozen; have hls := HBS4.out.lt
    by_cases hv0 : v = 0
    · subst hv0
      have hat : ∃ m, E.at_ path = some m := by
        cases ha : E.at_ path with
        | some m => exact ⟨m, rfl⟩
        | none =>
          exfalso
          have h2 : E.gone path = (true, 74) := by unfold PDisk.gone; rw [ha]; rfl
          have h3 := HV.out; rw [← HX.out.1, ← HX.out.2, h2] at h3; unfold PDisk.no at h3; simp only [firstE] at h3
          split at h3 <;> simp at h3
      obtain ⟨m, hm⟩ := hat; have H4 := Lib.hid (H1.out.off HO4.out); obtain ⟨q, hq1, hq2, -, -, -⟩ := at_some H4.out.m hm; have HAT := Lib.hid (dat_some p G1 E path w4 H4.out.m (by unfold maxLen; omega) (H4.out.ok.look (by omega) path) q hq1); have HQ2 := Lib.hid hq2
      have HF := Lib.hid (show D.edited.get path = ((0, { m.node with path := path }, (lookN E.names path : Int), (m.node.data.size : Int), m.time), E) by
        rw [HS2.out, HGE.out, hm]; simp)
      clear hm hq1 hq2 HGE hcn hfn hln hcs hfs hls
      go_wp2_with fail
      refine HAT.out.mono ?_
      rintro e w5 ⟨rfl, ho5⟩; have HO5 := Lib.hid ho5; have hB5 := HQ2.out.off ho5 (by simp); have hc := hB5.cell; have hf := hB5.frozen; have hl := hB5.lt; unfold inoCells at hc; clear ho5 hB5 HAT
      go_upto_region 11 with fail
      refine code_gen (fun W6 => Blk W6 w5.heap.size 159 #[.string path, .int .i64 m.node.kind, .string m.node.data, .int .i64 m.node.mode, .int .i64 m.time, .bool m.dirty] ∧ Off [] w5 W6) ⟨Blk.new w5 _ _, (Off.refl _ _).alloc _⟩ ?_
      clear hc hf hl; rintro W6 ⟨hb6, ho6⟩; have HO6 := Lib.hid ((HO4.out.trans_nil HO5.out).trans_nil ho6); have H6 := H1.out.off HO6.out; have HBN6 := Lib.hid (HBN1.out.off HO6.out (by simp)); have HBS6 := Lib.hid (HBS1.out.off HO6.out (by simp))
      have hL : (Instr.lookup 122 (.map (some G1.nb)) (.string path) false).run Tryz.prog W6.drew = .ok (.int .i64 (lookN E.names path)) W6.drew := (H6.m.drew).parts.names.look path (by unfold maxLen; omega)
      have hgn : w.heap.size ∉ G1.parts := fun hm => by
        rcases HOP.out.2 _ hm with h5 | h5
        · have := H.out.m.parts.lt h5; omega
        have := HSZ.out; omega
      have hL2 : (Instr.lookup 122 (.map (some G1.nb)) (.string path) false).run Tryz.prog ((((W6.setCell ⟨w.heap.size, 0, none⟩ (.string path)).setCell ⟨w.heap.size, 1, none⟩ (.int .i64 m.node.kind)).setCell ⟨w.heap.size, 2, none⟩ (.string m.node.data)).setCell ⟨w.heap.size, 3, none⟩ (.int .i64 m.node.mode)).drew = .ok (.int .i64 (lookN E.names path)) ((((W6.setCell ⟨w.heap.size, 0, none⟩ (.string path)).setCell ⟨w.heap.size, 1, none⟩ (.int .i64 m.node.kind)).setCell ⟨w.heap.size, 2, none⟩ (.string m.node.data)).setCell ⟨w.heap.size, 3, none⟩ (.int .i64 m.node.mode)).drew :=
        NMat.look ((H6.m.parts.names.off (k := [w.heap.size]) (((((Off.refl _ W6).setCell (.inr (by simp)) _).setCell (.inr (by simp)) _).setCell (.inr (by simp)) _).setCell (.inr (by simp)) _).drew (by simp; intro e; exact hgn (by rw [← e]; exact List.mem_cons_self ..)))) path (by unfold maxLen; omega)
      have hne1 : p ≠ w.heap.size := by have := H.out.m.blk.lt; omega
      have hne2 : p ≠ w.heap.size + 1 := by have := H.out.m.blk.lt; omega
      have hne3 : w5.heap.size ≠ w.heap.size := by have := HO6.out.size; have := HBN1.out.lt; have := (HO4.out.trans_nil HO5.out).size; omega
      have hne4 : w5.heap.size ≠ w.heap.size + 1 := by have := HBS1.out.lt; have := (HO4.out.trans_nil HO5.out).size; omega
      have hc := hb6.cell; have hf := hb6.frozen; have hl := hb6.lt; have hcd := H6.m.blk.cell; unfold diskCells at hcd; have hcn := HBN6.out.cell; have hfn := HBN6.out.frozen; have hln := HBN6.out.lt; have hcs := HBS6.out.cell; have hfs := HBS6.out.frozen; have hls := HBS6.out.lt; clear hb6 ho6 H6; generalize hIX : (lookN E.names path : Int) = ix at hL hL2 HF
      clear hgn
      go_region
      obtain ⟨k1, k2, k3⟩ := put7 (a := .string path) (b := .int .i64 m.node.kind) (c := .string m.node.data) (d := .int .i64 m.node.mode) (x := .int .i64 ix) (y := .int .i64 m.node.data.size) (z := .int .i64 m.time) HBN6.out HBS6.out; have hc1 := k1.drew.cell; have hc2 := k2.drew.cell; have hl1 := k1.drew.lt; have K3 := Lib.hid k3.drew
      clear k1 k2 k3 hcn hfn hln hcs hfs hls hc hf hl hcd hL hL2
      go_wp2_with fail
      refine bodyPost_ret (v := .tuple #[.agg #[.string path, .int .i64 m.node.kind, .string m.node.data, .int .i64 m.node.mode], .agg #[.int .i64 ix, .int .i64 m.node.data.size, .int .i64 m.time], .int .i64 0]) ?_ rfl ?_
      · have hres : Tryz.f154.results = #[.cell 4 105, .cell 5 117, .tmp 6] := rfl
        simp only [results, hres]
        go_simp
      rw [HF.out]; exact ⟨rfl, DSETo.own H.out HOF.out (HT.out.off HO6.out) K3.out HKK.out⟩
    have HF := Lib.hid (show D.edited.get path = ((v, ⟨⟨#[]⟩, 0, ⟨#[]⟩, 0⟩, 0, 0, 0), E) by rw [HS2.out, HGE.out, if_pos hv0]); have hne : (v == 0) = false := beq_eq_false_iff_ne.2 hv0
    clear hv0 HGE
    go_wp2_with fail
    obtain ⟨k1, k2, k3⟩ := put7 (a := .string ⟨#[]⟩) (b := .int .i64 0) (c := .string ⟨#[]⟩) (d := .int .i64 0) (x := .int .i64 0) (y := .int .i64 0) (z := .int .i64 0) HBN4.out HBS4.out; have hc1 := k1.cell; have hc2 := k2.cell; have K3 := Lib.hid k3; clear k1 k2 k3 hcn hfn hln hcs hfs hls
    refine bodyPost_ret (v := .tuple #[.agg #[.string ⟨#[]⟩, .int .i64 0, .string ⟨#[]⟩, .int .i64 0], .agg #[.int .i64 0, .int .i64 0, .int .i64 0], .int .i64 v]) ?_ rfl ?_
    · have hres : Tryz.f154.results = #[.cell 4 105, .cell 5 117, .tmp 6] := rfl
      simp only [results, hres]
      go_simp
    rw [HF.out]; exact ⟨rfl, DSETo.own H.out HOF.out (HT.out.off HO4.out) K3.out HKK.out⟩
  have HS2 := Lib.hid (show D.edited.get path = ((er, ⟨⟨#[]⟩, 0, ⟨#[]⟩, 0⟩, 0, 0, 0), E) by rw [HS.out, if_pos h0]); have hne : (er == 0) = false := beq_eq_false_iff_ne.2 h0
  clear h0
  go_wp2_with fail
  obtain ⟨k1, k2, k3⟩ := put7 (a := .string ⟨#[]⟩) (b := .int .i64 0) (c := .string ⟨#[]⟩) (d := .int .i64 0) (x := .int .i64 0) (y := .int .i64 0) (z := .int .i64 0) HBN1.out HBS1.out; have hc1 := k1.cell; have hc2 := k2.cell; have K3 := Lib.hid k3; clear k1 k2 k3 hcn hfn hln hcs hfs hls
  refine bodyPost_ret (v := .tuple #[.agg #[.string ⟨#[]⟩, .int .i64 0, .string ⟨#[]⟩, .int .i64 0], .agg #[.int .i64 0, .int .i64 0, .int .i64 0], .int .i64 er]) ?_ rfl ?_
  · have hres : Tryz.f154.results = #[.cell 4 105, .cell 5 117, .tmp 6] := rfl
    simp only [results, hres]
    go_simp
  rw [HS2.out]; exact ⟨rfl, DSETo.own H.out HOF.out HT.out K3.out HKK.out⟩
end
end Go.Proofs.YthciejabapdbgaaGreatDoor
