/- Texts of this claim, one behind the other: SafeLaw RunP DReads DSafe. Conditions: what each lemma states. -/
import Derived.Test.YtgcfkljooabjjaaGreatDoorGi
import Derived.Test.YtgcfkljooabjjaaGreatDoorGg
/- What is synced file by file, and flushed, survives a crash: the plain law of DiskSafe. Conditions: none beyond what each lemma states. -/
namespace Go.Proofs.YtgcfkljooabjjaaGreatDoor
open Go.RowKit Go.Op Go.Maps

theorem filterMap_same {α β : Type} {f g : α → Option β} : ∀ (l : List α), (∀ x ∈ l, f x = g x) → l.filterMap f = l.filterMap g
  | [], _ => rfl
  | x :: l, h => by
    rw [List.filterMap_cons, List.filterMap_cons, h x (List.mem_cons_self ..), filterMap_same l (fun y hy => h y (List.mem_cons_of_mem _ hy))]
theorem tree_congr {D E : PDisk} (hn : E.names = D.names) (h : ∀ x ∈ D.names, (E.inode x.2).map Ino.node = (D.inode x.2).map Ino.node) : E.tree = D.tree := by
  unfold PDisk.tree
  rw [hn]
  refine filterMap_same _ fun x hx => ?_
  have h1 := h x (List.mem_mergeSort.1 hx)
  have h2 : ∀ o : Option Ino, (o.map fun n => { n.node with path := x.1 }) = (o.map Ino.node).map fun n => { n with path := x.1 } := fun o => by cases o <;> rfl
  rw [h2, h2, h1]
/-- a disk some of whose files were synced -/
structure SyncTo (D E : PDisk) (ps : List ByteArray) : Prop where
  names : E.names = D.names
  calm : Calm E
  inos : ∀ i, (E.inode i).map Ino.node = (D.inode i).map Ino.node
  clean : ∀ p ∈ ps, ∀ m, E.at_ p = some m → m.dirty = false
theorem SyncTo.start {D : PDisk} (h : Calm D) : SyncTo D D [] := ⟨rfl, h, fun _ => rfl, fun p hp => by cases hp⟩
theorem inode_put {D : PDisk} {i : Nat} {x : Ino} (j : Nat) (hi : D.inode i ≠ none) : ({ D with inos := D.inos.set (i - 1) x } : PDisk).inode j = if j = i then some x else D.inode j := by
  unfold PDisk.inode at *
  by_cases h0 : i = 0
  · rw [if_pos h0] at hi; exact absurd rfl hi
  rw [if_neg h0] at hi
  have hl : i - 1 < D.inos.length := by
    refine Nat.lt_of_not_le fun hh => hi ?_
    exact List.getElem?_eq_none hh
  dsimp only
  by_cases hj0 : j = 0
  · rw [if_pos hj0, if_pos hj0, if_neg (by omega)]
  rw [if_neg hj0, if_neg hj0, List.getElem?_set]
  by_cases e : j = i
  · subst e
    rw [if_pos rfl, if_pos rfl, if_pos hl]
  · rw [if_neg (by omega), if_neg e]
theorem SyncTo.sync {D E : PDisk} {ps : List ByteArray} (h : SyncTo D E ps) {p : ByteArray} (hp : okPath (str p) = true) (hm : D.at_ p ≠ none) : (E.sync p).1 = 0 ∧ SyncTo D (E.sync p).2 (p :: ps) := by
  have hs : E.sync p = (E.tick sN p ⟨#[]⟩).sync_ p := call_run (step_free _ _ _ h.calm.on h.calm.fates)
  have hat : ∃ m, E.at_ p = some m := by
    have h1 := h.inos (lookN D.names p)
    unfold PDisk.at_ at hm ⊢
    rw [h.names]
    cases h2 : E.inode (lookN D.names p) with
    | none =>
      rw [h2] at h1
      cases h3 : D.inode (lookN D.names p) with
      | none => exact absurd h3 hm
      | some m => rw [h3] at h1; cases h1
    | some m => exact ⟨m, rfl⟩
  obtain ⟨m, hat⟩ := hat
  have hy := sync__some (E := E.tick sN p ⟨#[]⟩) hp hat
  rw [hs, hy]
  have hne : (E.tick sN p ⟨#[]⟩).inode (lookN (E.tick sN p ⟨#[]⟩).names p) ≠ none := by
    rw [show (E.tick sN p ⟨#[]⟩).inode (lookN (E.tick sN p ⟨#[]⟩).names p) = some m from hat]
    exact fun e => by cases e
  have key : ∀ j, ({ E.tick sN p ⟨#[]⟩ with inos := (E.tick sN p ⟨#[]⟩).inos.set (lookN (E.tick sN p ⟨#[]⟩).names p - 1) { m with dirty := false } } : PDisk).inode j = if j = lookN E.names p then some { m with dirty := false } else E.inode j := fun j => inode_put (D := E.tick sN p ⟨#[]⟩) j hne
  refine ⟨rfl, h.names, ⟨h.calm.on, h.calm.fates⟩, fun i => ?_, fun q hq m' hm' => ?_⟩
  · rw [← h.inos i]
    dsimp only
    rw [key i]
    by_cases e : i = lookN E.names p
    · rw [if_pos e, e]
      rw [show E.inode (lookN E.names p) = some m from hat]
      rfl
    · rw [if_neg e]
  · have h3 := key (lookN E.names q)
    have h4 : ({ E.tick sN p ⟨#[]⟩ with inos := (E.tick sN p ⟨#[]⟩).inos.set (lookN (E.tick sN p ⟨#[]⟩).names p - 1) { m with dirty := false } } : PDisk).inode (lookN E.names q) = some m' := hm'
    rw [h3] at h4
    by_cases e : lookN E.names q = lookN E.names p
    · rw [if_pos e] at h4
      cases h4
      rfl
    · rw [if_neg e] at h4
      rcases List.mem_cons.1 hq with rfl | hq
      · exact absurd rfl e
      · exact h.clean q hq m' h4
theorem SyncTo.tree {D E : PDisk} {ps : List ByteArray} (h : SyncTo D E ps) : E.tree = D.tree := tree_congr h.names fun x _ => h.inos x.2
/-- the names of a disk's tree -/
theorem tree_has {D : PDisk} {n : Nat} (hk : Ok D n) (ha : Apart D.names) {x : ByteArray × Nat} (hx : x ∈ D.names) : x.1 ∈ D.tree.map Node.path := by
  obtain ⟨m, h1, -⟩ := hk.inode ha hx
  refine List.mem_map.2 ⟨{ m.node with path := x.1 }, ?_, rfl⟩
  refine List.mem_filterMap.2 ⟨x, List.mem_mergeSort.2 hx, ?_⟩
  rw [h1]
  rfl
theorem tree_name {D : PDisk} {n : Nat} (hk : Ok D n) (hg : Good D) {y : Node} (hy : y ∈ D.tree) : okPath (str y.path) = true ∧ D.at_ y.path ≠ none := by
  obtain ⟨x, hx, e⟩ := List.mem_filterMap.1 hy
  have hx := List.mem_mergeSort.1 hx
  obtain ⟨m, h1, h2⟩ := hk.inode hg.names hx
  rw [h1] at e
  have e : ({ m.node with path := x.1 } : Node) = y := by simpa using e
  subst e
  refine ⟨(hg.tree.names x hx).1, ?_⟩
  show D.at_ x.1 ≠ none
  rw [h2]
  exact fun e => by cases e
/-- the crash behind a flush -/
theorem safe_end {D E : PDisk} {n : Nat} (hk : Ok D n) (hg : Good D) (h : SyncTo D E (D.tree.map Node.path)) (k t : Int) (a : ByteArray) :
    E.flush.1 = 0 ∧ (((E.flush.2.boot [⟨1, 3, k, t⟩]).get a).2.flush).1 = 75 ∧ ((((E.flush.2.boot [⟨1, 3, k, t⟩]).get a).2.flush).2.boot []).tree = D.tree := by
  have h1 : E.flush = (0, (E.tick fN ⟨#[]⟩ ⟨#[]⟩).flush_) := call_run (step_free _ _ _ h.calm.on h.calm.fates)
  rw [h1]
  dsimp only
  generalize hF : (E.tick fN ⟨#[]⟩ ⟨#[]⟩).flush_.boot [⟨1, 3, k, t⟩] = F
  have f1 : F.names = D.names := by subst hF; exact h.names
  have f2 : F.safe = D.names := by subst hF; exact h.names
  have f3 : F.later = [] := by subst hF; rfl
  have f4 : F.off = false := by subst hF; rfl
  have f5 : F.fates = [⟨1, 3, k, t⟩] := by subst hF; rfl
  have f6 : F.trace = [] := by subst hF; rfl
  have f7 : ∀ i, F.inode i = E.inode i := by subst hF; exact fun i => rfl
  have g1 : (F.get a).2 = F.tick ⟨#[71, 101, 116]⟩ a ⟨#[]⟩ := by
    unfold PDisk.get
    rw [step_quiet _ _ _ f4 (by rw [f5, f6]; intro f hf; simp at hf; subst hf; simp)]
    rfl
  rw [g1]
  have g2 : (F.tick ⟨#[71, 101, 116]⟩ a ⟨#[]⟩).flush = (75, ((F.tick ⟨#[71, 101, 116]⟩ a ⟨#[]⟩).tick fN ⟨#[]⟩ ⟨#[]⟩).crash ⟨1, 3, k, t⟩) := by
    unfold PDisk.flush
    exact call_err (step_crash _ _ _ ⟨1, 3, k, t⟩ f4 f5 (by show (1 : Int) = ((F.trace ++ [_]).length : Int); rw [f6]; rfl) rfl) n75
  rw [g2]
  refine ⟨rfl, rfl, ?_⟩
  dsimp only
  generalize hH : (F.tick ⟨#[71, 101, 116]⟩ a ⟨#[]⟩).tick fN ⟨#[]⟩ ⟨#[]⟩ = H
  have e1 : H.safe = D.names := by subst hH; exact f2
  have e2 : H.later = [] := by subst hH; exact f3
  have e3 : ∀ i, H.inode i = E.inode i := by subst hH; exact f7
  refine tree_congr ?_ fun x hx => ?_
  · show (H.crash ⟨1, 3, k, t⟩).names = D.names
    rcases crash_names H ⟨1, 3, k, t⟩ with e | e
    · rw [e, e1]
    · rw [e2] at e; cases e
  · obtain ⟨m, h5, h6⟩ := hk.inode hg.names hx
    have h7 := h.inos x.2
    rw [h5] at h7
    obtain ⟨m', h8⟩ : ∃ m', E.inode x.2 = some m' := by
      cases h8 : E.inode x.2 with
      | none => rw [h8] at h7; cases h7
      | some m' => exact ⟨m', rfl⟩
    have h9 : m'.dirty = false := h.clean x.1 (tree_has hk hg.names hx) m' (by
      unfold PDisk.at_
      rw [h.names, lookN_mem hg.names hx]
      exact h8)
    have h10 : (H.crash ⟨1, 3, k, t⟩).inode x.2 = some m' := by
      have hh : H.inode x.2 = some m' := (e3 x.2).trans h8
      unfold PDisk.inode at hh ⊢
      by_cases h0 : x.2 = 0
      · rw [if_pos h0] at hh; cases hh
      · rw [if_neg h0] at hh ⊢
        exact crash_old hh h9
    show ((H.crash ⟨1, 3, k, t⟩).inode x.2).map Ino.node = (D.inode x.2).map Ino.node
    rw [h10, h5]
    rw [h8] at h7
    exact h7
end Go.Proofs.YtgcfkljooabjjaaGreatDoor

/- A disk in a run, with blocks that are none of its own: they are kept by every call. Conditions: what each contract states. -/
namespace Go.Proofs.YtgcfkljooabjjaaGreatDoor
open Go.RowKit Go.Op Go.Maps

/-- a disk that was made since the world w0; the listed blocks are none of its parts -/
def RunP (w0 w : World) (p : Nat) (D : PDisk) (n : Nat) (k : List Nat) : Prop :=
  ∃ G, DS w p G D n ∧ Off [] w0 w ∧ w0.heap.size ≤ p ∧ (∀ b ∈ G.parts, w0.heap.size ≤ b) ∧ ∀ b ∈ k, b < w.heap.size ∧ b ∉ p :: G.parts
/-- listed blocks that are as they were -/
def Kept (k : List Nat) (w w' : World) : Prop := ∀ b ∈ k, w'.heap[b]? = w.heap[b]?
section
variable {w0 wr w w' : World} {p n : Nat} {D : PDisk} {k : List Nat}
theorem RunP.run (h : RunP w0 w p D n k) : Run w0 w p D n := by
  obtain ⟨G, h1, h2, h3, h4, -⟩ := h
  exact ⟨G, h1, h2, h3, h4⟩
theorem Run.keep (h : Run w0 wr p D n) (ho : Off [] wr w) (hk : ∀ b ∈ k, wr.heap.size ≤ b ∧ b < w.heap.size) : RunP w0 w p D n k := by
  obtain ⟨G, h1, h2, h3, h4⟩ := h
  refine ⟨G, h1.off ho, h2.trans_nil ho, h3, h4, fun b hb => ⟨(hk b hb).2, fun hm => ?_⟩⟩
  have h5 := (hk b hb).1
  rcases List.mem_cons.1 hm with rfl | hm
  · have := h1.m.blk.lt; omega
  · have := h1.m.parts.lt hm; omega
theorem RunP.more {k' : List Nat} (h : RunP w0 wr p D n k) (ho : Off [] wr w) (hk : ∀ b ∈ k', wr.heap.size ≤ b ∧ b < w.heap.size) : RunP w0 w p D n (k' ++ k) := by
  obtain ⟨G, h1, h2, h3, h4, h5⟩ := h
  refine ⟨G, h1.off ho, h2.trans_nil ho, h3, h4, fun b hb => ?_⟩
  rcases List.mem_append.1 hb with hb | hb
  · refine ⟨(hk b hb).2, fun hm => ?_⟩
    have h6 := (hk b hb).1
    rcases List.mem_cons.1 hm with rfl | hm
    · have := h1.m.blk.lt; omega
    · have := h1.m.parts.lt hm; omega
  · have h6 := h5 b hb
    exact ⟨Nat.lt_of_lt_of_le h6.1 ho.size, h6.2⟩
theorem RunP.off (h : RunP w0 w p D n k) (ho : Off [] w w') : RunP w0 w' p D n k := by
  have := h.more (k' := []) ho (fun b hb => by cases hb)
  exact this
theorem RunP.since (h : RunP w0 w p D n k) : Off [] w0 w := h.run.since
theorem RunP.le {m : Nat} (h : RunP w0 w p D n k) (hm : n ≤ m) : RunP w0 w p D m k := by
  obtain ⟨G, h1, h2⟩ := h
  exact ⟨G, ⟨h1.m, h1.sb, PDisk.ok_mono h1.ok hm, h1.tabs⟩, h2⟩
theorem RunP.ok (h : RunP w0 w p D n k) : Ok D n := by obtain ⟨G, h1, -⟩ := h; exact h1.ok
theorem Run.ok (h : Run w0 w p D n) : Ok D n := by obtain ⟨G, h1, -⟩ := h; exact h1.ok
/-- fewer blocks -/
theorem RunP.drop {k' : List Nat} (h : RunP w0 w p D n k) (hk : ∀ b ∈ k', b ∈ k) : RunP w0 w p D n k' := by
  obtain ⟨G, h1, h2, h3, h4, h5⟩ := h
  exact ⟨G, h1, h2, h3, h4, fun b hb => h5 b (hk b hb)⟩
theorem RunP.to_ {G : Geo} {D' : PDisk} {n' : Nat} (h1 : DS w p G D n) (h2 : Off [] w0 w) (h3 : w0.heap.size ≤ p) (h4 : ∀ b ∈ G.parts, w0.heap.size ≤ b) (h5 : ∀ b ∈ k, b < w.heap.size ∧ b ∉ p :: G.parts) (hT : DSTo w p G.parts w' D' n') : RunP w0 w' p D' n' k ∧ Kept k w w' := by
  obtain ⟨G', h6, h7, h8, h9⟩ := Run.next h2 h3 h4 hT
  obtain ⟨G2, k1, k2, k3⟩ := hT
  refine ⟨⟨G2, k1, h7, h8, fun b hb => ?_, fun b hb => ?_⟩, fun b hb => k2.block b (h5 b hb).1 (h5 b hb).2⟩
  · rcases k3 b hb with h | h
    · exact h4 b h
    · exact Nat.le_trans h2.size h
  · obtain ⟨a1, a2⟩ := h5 b hb
    refine ⟨Nat.lt_of_lt_of_le a1 k2.size, fun hm => ?_⟩
    rcases List.mem_cons.1 hm with rfl | hm
    · exact a2 (List.mem_cons_self ..)
    · rcases k3 b hm with h | h
      · exact a2 (List.mem_cons_of_mem _ h)
      · omega
/-- a call of the disk -/
theorem RunP.call {f : FuncId} {args : Array Value} {R : Ending → Prop} {D' : PDisk} {n' : Nat} (h : RunP w0 w p D n k) (hc : ∀ G, DS w p G D n → Calls Tryz.prog f args w fun e w' => R e ∧ DSTo w p G.parts w' D' n') :
    Calls Tryz.prog f args w fun e w' => R e ∧ RunP w0 w' p D' n' k ∧ Kept k w w' := by
  obtain ⟨G, h1, h2, h3, h4, h5⟩ := h
  exact (hc G h1).mono fun e w' ⟨he, hT⟩ => ⟨he, RunP.to_ h1 h2 h3 h4 h5 hT⟩
theorem Kept.blk {b : Nat} {t : TypeId} {cs : Array Value} (h : Kept k w w') (hB : Blk w b t cs) (hb : b ∈ k) : Blk w' b t cs := by
  unfold Blk at hB ⊢
  rw [h b hb]; exact hB
theorem Kept.row {base e sz m : Nat} {v : Value} {xs : List Value} (h : Kept k w w') (hr : w.ownsRow base e sz v m xs) (hb : ∀ b ∈ v.ownBlock.toList, b ∈ k) : w'.ownsRow base e sz v m xs := by
  refine ⟨hr.1, ?_⟩
  rcases hr.2 with h1 | ⟨g, cap, cur, h1, h2, h3, h4⟩
  · exact .inl h1
  · exact .inr ⟨g, cap, cur, h1, h2, (h g (hb g (by rw [h1]; simp [Value.ownBlock]))).trans h3, h4⟩
theorem Kept.trans {w2 : World} (h : Kept k w w') (h2 : Kept k w' w2) : Kept k w w2 := fun b hb => (h2 b hb).trans (h b hb)
theorem own_made {base e sz m : Nat} {v : Value} {xs : List Value} (hr : w.ownsRow base e sz v m xs) : ∀ b ∈ v.ownBlock.toList, base ≤ b ∧ b < w.heap.size := by
  rcases hr.2 with ⟨rfl, _⟩ | ⟨g, cap, cur, rfl, h2, h3, h4⟩
  · intro b hb; simp [Value.ownBlock] at hb
  · intro b hb
    simp [Value.ownBlock] at hb
    subst hb
    exact ⟨h2, (Array.getElem?_eq_some_iff.1 h3).1⟩
theorem runP_get (h : RunP w0 w p D n k) (hn : n ≤ 1000000) (path : ByteArray) (hs : path.size ≤ 9223372036854775807) :
    Calls Tryz.prog 20 #[.pointer (some ⟨p, 0, none⟩), .string path] w fun e w' => e = .returned (getVal (D.get path).1) ∧ RunP w0 w' p (D.get path).2 (n + 1) k ∧ Kept k w w' :=
  h.call fun G hG => dget_call p n G D path w hG hn hs
theorem runP_sync (h : RunP w0 w p D n k) (hn : n ≤ 1000000) (path : ByteArray) (hs : path.size ≤ 9223372036854775807) :
    Calls Tryz.prog 17 #[.pointer (some ⟨p, 0, none⟩), .string path] w fun e w' => e = .returned (.int .i64 (D.sync path).1) ∧ RunP w0 w' p (D.sync path).2 (n + 2) k ∧ Kept k w w' :=
  h.call fun G hG => dsync_call p n G D path w hG hn hs
theorem runP_flush (h : RunP w0 w p D n k) (hn : n ≤ 1000000) :
    Calls Tryz.prog 19 #[.pointer (some ⟨p, 0, none⟩)] w fun e w' => e = .returned (.int .i64 D.flush.1) ∧ RunP w0 w' p D.flush.2 (n + 2) k ∧ Kept k w w' :=
  h.call fun G hG => flush_call p n G D w hG hn
theorem runP_boot (h : RunP w0 w p D n k) (fp : Option Addr) (fs : List FateP) (nf c : Nat) (hF : FRow w fp fs) (hn : fs.length = nf) (hb : nf ≤ 1000000) (hpn : fp = none → fs = []) :
    Calls Tryz.prog 15 #[.pointer (some ⟨p, 0, none⟩), .slice fp nf c, .slice none 0 0] w fun e w' => e = .returned (.tuple #[]) ∧ RunP w0 w' p (D.boot fs) n k ∧ Kept k w w' :=
  h.call fun G hG => dboot_call p n G D fp fs nf c w hG hF hn hb hpn
theorem runP_names (h : RunP w0 w p D n k) (hn : n ≤ 90000) (path : ByteArray) (hs : path.size ≤ 9223372036854775807) (hF : Light D) :
    Calls Tryz.prog 37 #[.pointer (some ⟨p, 0, none⟩), .string path] w fun e w' => ∃ v wm, e = .returned (.tuple #[v, .int .i64 (D.namesC path).1.2]) ∧ w'.ownsRow wm.heap.size 9 1 v (D.namesC path).1.1.length ((D.namesC path).1.1.map Value.string) ∧ RunP w0 wm p (D.namesC path).2 (n + 1) k ∧ Off [] wm w' ∧ Kept k w w' := by
  obtain ⟨G, h1, h2, h3, h4, h5⟩ := h
  refine (dnames_call p n G D path w h1 hn hs hF).mono fun e w' ⟨v, wm, he, hr, hT, ho⟩ => ?_
  obtain ⟨a1, a2⟩ := RunP.to_ (k := k) h1 h2 h3 h4 h5 hT
  refine ⟨v, wm, he, hr, a1, ho, fun b hb => ?_⟩
  obtain ⟨G', -, -, -, -, c5⟩ := a1
  rw [ho.block b (c5 b hb).1 (by simp), a2 b hb]
theorem runP_ask (h : RunP w0 w p D n k) (hn : n ≤ 80000) (hF : Light D) (c : CallP) (hs1 : c.path.size ≤ 9223372036854775807) (hs2 : c.to_.size ≤ 9223372036854775807)
    (hfr : ∀ E, (D.step ⟨#[77, 111, 118, 101]⟩ c.path c.to_).2.2 = E → firstE (E.mvE c.path c.to_) = 0 → Free c.path c.to_ E.names) :
    Calls Tryz.prog 35 #[.pointer (some ⟨p, 0, none⟩), .agg #[.int .i64 c.what, .string c.path, .string c.to_, .string c.data, .int .i64 c.mode]] w fun e w' => (∃ v, e = .returned v) ∧ RunP w0 w' p (askD D c) (n + 2) k ∧ Kept k w w' :=
  h.call fun G hG => ask_on p n G D c w hG hn hF hs1 hs2 hfr
theorem runP_on (h : RunP w0 w p D n k) : Calls Tryz.prog 36 #[.pointer (some ⟨p, 0, none⟩)] w fun e w' => e = .returned (.bool (!D.off)) ∧ RunP w0 w' p D n k ∧ Off [] w w' := by
  have h' := h
  obtain ⟨G, h1, h2⟩ := h
  exact (don_any p G D w h1.m).mono fun e w' ⟨he, ho⟩ => ⟨he, h'.off ho, ho⟩
theorem runP_tree (h : RunP w0 w p D n k) (hn : n ≤ 100000) : Calls Tryz.prog 24 #[.pointer (some ⟨p, 0, none⟩)] w fun e w' => ∃ v, e = .returned v ∧ w'.ownsRow w.heap.size 30 4 v D.tree.length (cellsOf D.tree) ∧ Off [] w w' ∧ RunP w0 w' p D n (v.ownBlock.toList ++ k) := by
  have h' := h
  obtain ⟨G, h1, h2⟩ := h
  exact (dtree_call p n G D w h1 hn).mono fun e w' ⟨v, he, hr, ho⟩ => ⟨v, he, hr, ho, h'.more ho (own_made hr)⟩
end
end Go.Proofs.YtgcfkljooabjjaaGreatDoor

/- hawserlaw07.DiskReads: the walk. Conditions: the tables of unicode/utf8 are laid. -/
namespace Go.Proofs.YtgcfkljooabjjaaGreatDoor
open Go.RowKit Go.Op Go.Maps

theorem namesOn_len (D : PDisk) (p : ByteArray) : (D.namesOn p).1.length ≤ 1001 := by
  unfold PDisk.namesOn
  dsimp only
  generalize (if p = ⟨#[]⟩ then (0 : Int) else firstE [PDisk.no p, D.gone p]) = e
  split
  · simp
  · split
    · show (namesR D.tree (str p)).length ≤ 1001
      unfold namesR
      split
      · rename_i h
        simp only [Bool.and_eq_true] at h
        have h1 := okTree_len h.1
        have h2 := List.length_filter_le (fun n : Node => decide (parent n.p = str p)) D.tree
        unfold namesOf
        rw [List.length_map]
        omega
      · simp
    · simp
section
variable {w0 w : World} {p n : Nat} {D : PDisk} {k : List Nat}
theorem calm_get (h : RunP w0 w p D n k) (hc : Calm D) (hn : n ≤ 1000000) (path : ByteArray) (hs : path.size ≤ 9223372036854775807) (er : Int) (nd : Node) (s1 s2 s3 : Int) (hr : D.get_ path = (er, nd, s1, s2, s3)) :
    Calls Tryz.prog 20 #[.pointer (some ⟨p, 0, none⟩), .string path] w fun e w' => e = .returned (.tuple #[.agg #[.string nd.path, .int .i64 nd.kind, .string nd.data, .int .i64 nd.mode], .agg #[.int .i64 s1, .int .i64 s2, .int .i64 s3], .int .i64 er]) ∧ RunP w0 w' p (D.tick ⟨#[71, 101, 116]⟩ path ⟨#[]⟩) (n + 1) k ∧ Kept k w w' := by
  have h1 := runP_get h hn path hs
  rw [hc.get, hr] at h1
  exact h1
theorem calm_names (h : RunP w0 w p D n k) (hc : Calm D) (hn : n ≤ 90000) (path : ByteArray) (hs : path.size ≤ 9223372036854775807) (hF : Light D) (L : List ByteArray) (er : Int) (hr : D.namesOn path = (L, er)) :
    Calls Tryz.prog 37 #[.pointer (some ⟨p, 0, none⟩), .string path] w fun e w' => ∃ v wm, e = .returned (.tuple #[v, .int .i64 er]) ∧ w'.ownsRow wm.heap.size 9 1 v L.length (L.map Value.string) ∧ RunP w0 wm p (D.tick ⟨#[78, 97, 109, 101, 115]⟩ path ⟨#[]⟩) (n + 1) k ∧ Off [] wm w' ∧ Kept k w w' := by
  have h1 := runP_names h hn path hs hF
  rw [hc.names, hr] at h1
  exact h1
end
theorem Good.tick {D : PDisk} (h : Good D) (c p q : ByteArray) : Good (D.tick c p q) := h.of (h.tree.of rfl rfl rfl (KS.of_inos rfl)) rfl rfl rfl
theorem RunP.tree_len {w0 w : World} {p n : Nat} {D : PDisk} {k : List Nat} (h : RunP w0 w p D n k) : D.tree.length = D.names.length := by
  obtain ⟨G, h1, _⟩ := h
  rw [h1.ok.tree h1.m.parts.names.1, List.length_map, sortN_len]
theorem Light.tick {D : PDisk} (h : Light D) (c p q : ByteArray) : Light (D.tick c p q) := h.same rfl
theorem eqNodeS (a : ByteArray) (b : Int) (c : ByteArray) (d : Int) (w : World) : (Op.equalIn 10000 30 (.agg #[.string a, .int .i64 b, .string c, .int .i64 d]) (.agg #[.string a, .int .i64 b, .string c, .int .i64 d])).run Tryz.prog w = .ok true w := by
  have := eqNode ⟨a, b, c, d⟩ ⟨a, b, c, d⟩ w
  rw [decide_eq_true rfl] at this
  exact this
theorem eqStampS (a b c : Int) (w : World) : (Op.equalIn 10000 39 (.agg #[.int .i64 a, .int .i64 b, .int .i64 c]) (.agg #[.int .i64 a, .int .i64 b, .int .i64 c])).run Tryz.prog w = .ok true w := by
  have u3 := Tryz.underlying3
  have a3 := Tryz.isAgg3
  have z3 := Tryz.sizeOf3
  have hS : Tryz.prog.underlying 39 = some (.struct (Tryz.prog.fieldsOf 39)) := by kernel_rfl
  have hp : Tryz.prog.stoodInHeld 39 = false := by kernel_rfl
  rw [show (10000 : Nat) = 9999 + 1 from rfl, run_equalIn_agg w 9999 39 _ _ hS hp]
  simp only [Program.fieldsOf, Tryz.underlying39]
  go_simp
set_option maxRecDepth 100000 in
set_option maxHeartbeats 16000000 in
theorem dreads_any (fp : Option Addr) (t : List Node) (n c : Nat) (cp : Option Addr) (cs : List CallP) (m d : Nat) (w : World) (hR : Row w fp t) (hn : t.length = n) (hc : n ≤ c) (hcm : c ≤ maxLen) (hF : Fits t)
    (hC : CRow w cp cs) (hm : cs.length = m) (hmd : m ≤ d) (_hdm : d ≤ maxLen) (hZ : ∀ x ∈ cs, x.path.size ≤ maxLen ∧ x.to_.size ≤ maxLen ∧ x.data.size ≤ maxLen) (hT : Tabs w) :
    Calls Tryz.prog 9 #[.slice fp n c, .slice cp m d] w fun e w' => e = .returned (.bool true) ∧ Off [] w w' := by
  have HT := Lib.hid hT
  have HR0 := Lib.hid hR
  have HC0 := Lib.hid hC
  have HN := Lib.hid hn
  have HM := Lib.hid hm
  have HZ := Lib.hid hZ
  have HFT := Lib.hid hF
  have HAW := Lib.hid (fun (W : World) (ho : Off [] w W) => dawake_any W (hT.off ho))
  unfold maxLen at hcm
  clear hT hR hn hC hm hF hZ
  go_enter Tryz.func9, Tryz.ntmps9
  go_wp2_with fail
  refine (HAW.out _ (Off.refl _ _)).mono ?_
  rintro e w1 ⟨rfl, ho1⟩
  have HO1 := Lib.hid ho1
  clear ho1 HAW
  by_cases hok : okTree t = true
  case neg =>
    have hok : okTree t = false := by simpa using hok
    have HNB := Lib.hid (dnew_bad fp t n c w1 (HR0.out.off HO1.out) HN.out hc (by unfold maxLen; omega) hok HFT.out (HT.out.off HO1.out))
    clear hok
    go_wp2_with fail
    refine HNB.out.mono ?_
    rintro e w2 ⟨rfl, ho2⟩
    go_wp2_with fail
    go_ret
    exact ⟨rfl, HO1.out.trans_nil ho2⟩
  have HGN := Lib.hid (good_new hok)
  have HLN := Lib.hid (light_new HFT.out)
  have HNEW := Lib.hid (run_new fp t n c w1 w1 (Off.refl _ _) (HT.out.off HO1.out) (HR0.out.off HO1.out) HN.out hc hok HFT.out)
  clear hok
  go_wp2_with fail
  refine HNEW.out.mono ?_
  rintro e w2 ⟨gd, rfl, hr⟩
  have HR2 := Lib.hid hr
  clear hr HNEW
  go_wp2_with fail
  go_loopw [33] (fun x wr => ∃ (i : Nat) (D : PDisk), x = .int .i64 i ∧ i ≤ m ∧ i ≤ 60 ∧ Hid (Run w1 wr gd D (6 * i) ∧ Good D ∧ Calm D ∧ Light D)) (fun x _ => m - (intOf x).toNat)
  case atStart => exact ⟨0, _, rfl, by omega, by omega, Lib.hid ⟨HR2.out, HGN.out, ⟨rfl, rfl⟩, HLN.out⟩⟩
  case round =>
    clear HR2 HGN HLN
    obtain ⟨i, D, rfl, hi, hi60, HRW⟩ := hrel
    by_cases hlt : i < m
    · have hil : i < cs.length := by rw [HM.out]; exact hlt
      obtain ⟨a, rfl, hca, hab⟩ := (HC0.out.off (HO1.out.trans_nil HRW.out.1.since)).get i hil
      have HZX := Lib.hid (HZ.out _ (List.getElem_mem hil))
      generalize cs[i] = x at hca HZX
      have c0 := hca.what
      have c1 := hca.path
      have c2 := hca.to_
      have c3 := hca.data
      have c4 := hca.mode
      have hilt : (i : Int) < m := by omega
      have habk : (a.add (i * 5)).block < wr.heap.size := by rw [add_block]; exact hab
      clear hca hab hil
      go_upto_region 9 with fail
      refine code_gen (fun W => Blk W wr.heap.size 77 #[.int .i64 x.what, .string x.path, .string x.to_, .string x.data, .int .i64 x.mode] ∧ Off [] wr W) ⟨Blk.new _ _ _, (Off.refl _ _).alloc _⟩ ?_
      rintro W ⟨hbc, hof⟩
      clear c0 c1 c2 c3 c4 habk
      have HBC := Lib.hid hbc
      have hcc := hbc.cell
      have HRP := Lib.hid (HRW.out.1.keep (k := [wr.heap.size]) hof (fun b hb => by simp at hb; subst hb; exact ⟨Nat.le_refl _, hbc.lt⟩))
      have HS := Lib.hid (And.intro HRW.out.2.1 (And.intro HRW.out.2.2.1 HRW.out.2.2.2))
      have HOX := Lib.hid (HRW.out.1.since.trans_nil hof)
      clear hbc hof HRW
      by_cases h60 : i = 60
      · have hq : ((i : Int) == 60) = true := by rw [h60]; rfl
        clear h60
        go_wp2_with fail
        go_ret
        exact ⟨rfl, HO1.out.trans_nil HOX.out⟩
      have hq : ((i : Int) == 60) = false := beq_eq_false_iff_ne.2 (by omega)
      have HASK := Lib.hid (runP_ask HRP.out (by omega) HS.out.2.2 x HZX.out.1 HZX.out.2.1 (HS.out.1.free HRP.out.ok x.path x.to_))
      go_upto_region 11 with fail
      refine HASK.out.mono ?_
      rintro e w3 ⟨⟨_, rfl⟩, hr, hk⟩
      have HB3 := Lib.hid (hk.blk HBC.out (by simp))
      have HR3 := Lib.hid hr
      have HS3 := Lib.hid (And.intro (HS.out.1.ask HRP.out.ok x) (And.intro (HS.out.2.1.ask x) (HS.out.2.2.ask x HZX.out.2.2 HZX.out.2.1)))
      clear hr hk hcc HASK HRP HBC
      obtain ⟨E, hE⟩ : ∃ E, askD D x = E := ⟨_, rfl⟩
      rw [hE] at HR3 HS3
      clear hE HS
      have HTR := Lib.hid (runP_tree HR3.out (by omega))
      go_wp2_with fail
      refine HTR.out.mono ?_
      rintro e w4 ⟨v, rfl, hrow, ho, hr⟩
      have HROW := Lib.hid hrow
      obtain ⟨qa, qc, hv, -, -⟩ := own_row hrow
      subst hv
      have HB4 := Lib.hid (HB3.out.off ho (by simp))
      have hcc := HB4.out.cell
      have HR4 := Lib.hid hr
      clear hr ho hrow HTR HR3 HB3
      obtain ⟨er, nd, s1, s2, s3, hg⟩ : ∃ er nd s1 s2 s3, E.get_ x.path = (er, nd, s1, s2, s3) := ⟨_, _, _, _, _, rfl⟩
      obtain ⟨L, el, hl⟩ : ∃ L el, E.namesOn x.path = (L, el) := ⟨_, _, rfl⟩
      have HLL := Lib.hid (show L.length ≤ 1001 by have := namesOn_len E x.path; rw [hl] at this; exact this)
      have HG1 := Lib.hid (calm_get HR4.out HS3.out.2.1 (by omega) x.path HZX.out.1 er nd s1 s2 s3 hg)
      have HGL := Lib.hid (And.intro hg hl)
      clear hg hl
      go_wp2_with fail
      refine HG1.out.mono ?_
      rintro e w5 ⟨rfl, hr, hk⟩
      have HB5 := Lib.hid (hk.blk HB4.out (by simp))
      have HROW5 := Lib.hid (hk.row HROW.out (by intro b hb; simp [hb]))
      have HR5 := Lib.hid hr
      clear hr hk hcc HG1 HR4 HB4 HROW
      go_upto_region 13 with fail
      refine code_gen (fun W6 => Blk W6 w5.heap.size 30 #[.string nd.path, .int .i64 nd.kind, .string nd.data, .int .i64 nd.mode] ∧ Blk W6 (w5.heap.size + 1) 39 #[.int .i64 s1, .int .i64 s2, .int .i64 s3] ∧ Off [] w5 W6) ⟨(Blk.new w5 _ _).alloc _, Blk.new1 w5 _ _ _, ((Off.refl _ _).alloc _).alloc _⟩ ?_
      rintro W6 ⟨hbn, hbs, ho6⟩
      have HR6 := Lib.hid (HR5.out.more (k' := [w5.heap.size, w5.heap.size + 1]) ho6 (fun b hb => by
        simp at hb
        rcases hb with rfl | rfl
        · exact ⟨Nat.le_refl _, hbn.lt⟩
        · exact ⟨Nat.le_succ _, hbs.lt⟩))
      have HB6 := Lib.hid (HB5.out.off ho6 (by simp))
      have HN6 := Lib.hid hbn
      have HS6 := Lib.hid hbs
      have HROW6 := Lib.hid (own_offk HROW5.out ho6 (by simp))
      have hcc := HB6.out.cell
      have HG2 := Lib.hid (calm_names HR6.out (HS3.out.2.1.tick _ _ _) (by omega) x.path HZX.out.1 (HS3.out.2.2.tick _ _ _) L el HGL.out.2)
      obtain ⟨ga, hga⟩ : ∃ ga, w5.heap.size = ga := ⟨_, rfl⟩
      rw [hga] at HN6 HG2 HS6
      clear hbn hbs ho6 HR5 HB5 HROW5 HR6
      go_wp2_with fail
      refine HG2.out.mono ?_
      rintro e w7 ⟨v2, wm, rfl, hl2, hr, ho, hk⟩
      have HB7 := Lib.hid (hk.blk HB6.out (by simp))
      have HN7 := Lib.hid (hk.blk HN6.out (by simp))
      have HS7 := Lib.hid (hk.blk HS6.out (by simp))
      have HROW7 := Lib.hid (hk.row HROW6.out (by intro b hb; simp [hb]))
      have HL7 := Lib.hid hl2
      have HR7 := Lib.hid (hr.more ho (own_made hl2))
      obtain ⟨pl, pc, hv, -⟩ := own_strs hl2
      subst hv
      have hcc := HB7.out.cell
      have HG3 := Lib.hid (calm_get HR7.out ((HS3.out.2.1.tick _ _ _).tick _ _ _) (by omega) x.path HZX.out.1 er nd s1 s2 s3 HGL.out.1)
      clear hl2 hr ho hk HB6 HN6 HS6 HROW6 HG2
      go_wp2_with fail
      refine HG3.out.mono ?_
      rintro e w8 ⟨rfl, hr, hk⟩
      have HB8 := Lib.hid (hk.blk HB7.out (by simp))
      have HN8 := Lib.hid (hk.blk HN7.out (by simp))
      have HS8 := Lib.hid (hk.blk HS7.out (by simp))
      have HROW8 := Lib.hid (hk.row HROW7.out (by intro b hb; simp [hb]))
      have HL8 := Lib.hid (hk.row HL7.out (by intro b hb; simp [hb]))
      have HR8 := Lib.hid hr
      clear hr hk hcc HG3 HR7 HB7 HN7 HS7 HROW7 HL7
      go_upto_region 15 with fail
      refine code_gen (fun W9 => Blk W9 w8.heap.size 30 #[.string nd.path, .int .i64 nd.kind, .string nd.data, .int .i64 nd.mode] ∧ Blk W9 (w8.heap.size + 1) 39 #[.int .i64 s1, .int .i64 s2, .int .i64 s3] ∧ Off [] w8 W9) ⟨(Blk.new w8 _ _).alloc _, Blk.new1 w8 _ _ _, ((Off.refl _ _).alloc _).alloc _⟩ ?_
      rintro W9 ⟨hbn, hbs, ho6⟩
      have HR9 := Lib.hid (HR8.out.more (k' := [w8.heap.size, w8.heap.size + 1]) ho6 (fun b hb => by
        simp at hb
        rcases hb with rfl | rfl
        · exact ⟨Nat.le_refl _, hbn.lt⟩
        · exact ⟨Nat.le_succ _, hbs.lt⟩))
      have HB9 := Lib.hid (HB8.out.off ho6 (by simp))
      have HN9 := Lib.hid (HN8.out.off ho6 (by simp))
      have HS9 := Lib.hid (HS8.out.off ho6 (by simp))
      have HM9 := Lib.hid hbn
      have HT9 := Lib.hid hbs
      have HROW9 := Lib.hid (own_offk HROW8.out ho6 (by simp))
      have HL9 := Lib.hid (own_offk HL8.out ho6 (by simp))
      have hcc := HB9.out.cell
      have HG4 := Lib.hid (calm_names HR9.out (((HS3.out.2.1.tick _ _ _).tick _ _ _).tick _ _ _) (by omega) x.path HZX.out.1 (((HS3.out.2.2.tick _ _ _).tick _ _ _).tick _ _ _) L el HGL.out.2)
      obtain ⟨gb, hgb⟩ : ∃ gb, w8.heap.size = gb := ⟨_, rfl⟩
      rw [hgb] at HM9 HT9 HG4
      clear hbn hbs ho6 HR8 HB8 HN8 HS8 HROW8 HL8 HR9
      go_wp2_with fail
      refine HG4.out.mono ?_
      rintro e w10 ⟨v3, wm2, rfl, hl3, hr, ho, hk⟩
      have hN := (hk.blk HN9.out (by simp)).cell
      have hS := (hk.blk HS9.out (by simp)).cell
      have hM := (hk.blk HM9.out (by simp)).cell
      have hTT := (hk.blk HT9.out (by simp)).cell
      have HROW10 := Lib.hid (hk.row HROW9.out (by intro b hb; simp [hb]))
      obtain ⟨pl', pc', hv, hst1⟩ := own_strs (hk.row HL9.out (by intro b hb; simp [hb]))
      obtain ⟨rfl, rfl⟩ : pl = pl' ∧ pc = pc' := by simpa using hv
      have HR10 := Lib.hid (hr.more ho (own_made hl3))
      obtain ⟨pm, pd, hv3, hst2⟩ := own_strs hl3
      subst hv3
      have HTX := Lib.hid (texts_any L L pl pm pc pd w10 (by have := HLL.out; omega) (by have := HLL.out; omega) hst1 hst2)
      rw [decide_eq_true rfl] at HTX
      clear hl3 hr ho hk hv hst1 hst2 HB9 HN9 HS9 HM9 HT9 HROW9 HL9 HG4 hcc
      have hen := eqNodeS nd.path nd.kind nd.data nd.mode
      have hes := eqStampS s1 s2 s3
      have hgn : Tryz.prog.eqGuardType Tryz.prog.depth 30 = false := by kernel_rfl
      have hgs : Tryz.prog.eqGuardType Tryz.prog.depth 39 = false := by kernel_rfl
      go_wp2_with fail
      refine HTX.out.mono ?_
      rintro e w11 ⟨rfl, ho⟩
      have HR11 := Lib.hid (HR10.out.off ho)
      have HROW11 := Lib.hid (own_offk HROW10.out ho (by simp))
      have HTL := Lib.hid (show E.tree.length ≤ 10000 by
        have h1 := HR11.out.tree_len
        have h2 := HR11.out.ok.nlen
        rw [tick_tree, tick_tree, tick_tree, tick_tree] at h1
        omega)
      clear ho HTX HR10 HROW10 hN hS hM hTT
      have HTR := Lib.hid (runP_tree HR11.out (by omega))
      rw [tick_tree, tick_tree, tick_tree, tick_tree] at HTR
      go_wp2_with fail
      refine HTR.out.mono ?_
      rintro e w12 ⟨v5, rfl, hrow, ho, hr⟩
      obtain ⟨ra, rc, hv, hrr, -⟩ := own_row hrow
      subst hv
      obtain ⟨qa', qc', hv, hqr, -, -, -⟩ := own_row (own_offk HROW11.out ho (by simp))
      obtain ⟨rfl, rfl⟩ : qa = qa' ∧ qc = qc' := by simpa using hv
      have HSM := Lib.hid (rsame_any E.tree E.tree qa ra qc rc w12 (by have := HTL.out; omega) (by have := HTL.out; omega) hqr hrr)
      rw [decide_eq_true rfl] at HSM
      have HR12 := Lib.hid hr
      clear hrow hrr hqr ho hr HTR hv HR11
      go_wp2_with fail
      refine HSM.out.mono ?_
      rintro e w13 ⟨rfl, hog⟩
      have HR13 := Lib.hid (HR12.out.off hog).run
      clear hog HSM HR12
      go_wp2_with fail
      exact ⟨⟨i + 1, _, by congr 1, by omega, by omega, Lib.hid ⟨HR13.out.le (by omega), (((HS3.out.1.tick _ _ _).tick _ _ _).tick _ _ _).tick _ _ _, (((HS3.out.2.1.tick _ _ _).tick _ _ _).tick _ _ _).tick _ _ _, (((HS3.out.2.2.tick _ _ _).tick _ _ _).tick _ _ _).tick _ _ _⟩⟩, by simp only [intOf]; omega⟩
    · obtain rfl : i = m := by omega
      go_wp2_with fail
      go_ret
      exact ⟨rfl, HO1.out.trans_nil HRW.out.1.since⟩
end Go.Proofs.YtgcfkljooabjjaaGreatDoor

/- hawserlaw07.DiskSafe: the walk. Conditions: the tables of unicode/utf8 are laid. -/
namespace Go.Proofs.YtgcfkljooabjjaaGreatDoor
open Go.RowKit Go.Op Go.Maps

theorem SyncTo.sub {D E : PDisk} {ps qs : List ByteArray} (h : SyncTo D E ps) (hs : ∀ p ∈ qs, p ∈ ps) : SyncTo D E qs := ⟨h.names, h.calm, h.inos, fun p hp => h.clean p (hs p hp)⟩
set_option maxRecDepth 100000 in
set_option maxHeartbeats 16000000 in
theorem dsafe_any (fp : Option Addr) (t : List Node) (n c : Nat) (cp : Option Addr) (cs : List CallP) (m d : Nat) (f : FateP) (w : World) (hR : Row w fp t) (hn : t.length = n) (hc : n ≤ c) (hcm : c ≤ maxLen) (hF : Fits t)
    (hC : CRow w cp cs) (hm : cs.length = m) (hmd : m ≤ d) (_hdm : d ≤ maxLen) (hZ : ∀ x ∈ cs, x.path.size ≤ maxLen ∧ x.to_.size ≤ maxLen ∧ x.data.size ≤ maxLen) (hT : Tabs w) :
    Calls Tryz.prog 8 #[.slice fp n c, .slice cp m d, .agg #[.int .i64 f.at_, .int .i64 f.what, .int .i64 f.keep, .int .i64 f.torn]] w fun e w' => e = .returned (.bool true) ∧ Off [] w w' := by
  have HT := Lib.hid hT
  have HR0 := Lib.hid hR
  have HC0 := Lib.hid hC
  have HN := Lib.hid hn
  have HM := Lib.hid hm
  have HZ := Lib.hid hZ
  have HFT := Lib.hid hF
  have HAW := Lib.hid (fun (W : World) (ho : Off [] w W) => dawake_any W (hT.off ho))
  unfold maxLen at hcm
  clear hT hR hn hC hm hF hZ
  go_enter Tryz.func8, Tryz.ntmps8
  go_upto_region 1 with fail
  refine code_gen (fun W => Blk W w.heap.size 23 #[.int .i64 f.at_, .int .i64 f.what, .int .i64 f.keep, .int .i64 f.torn] ∧ Off [] w W) ⟨Blk.new w _ _, (Off.refl _ _).alloc _⟩ ?_
  rintro W ⟨hbf, hof⟩
  have HBF := Lib.hid hbf
  have HOF := Lib.hid hof
  clear hbf hof
  go_wp2_with fail
  refine (HAW.out W HOF.out).mono ?_
  rintro e w1 ⟨rfl, ho1⟩
  have HB1 := Lib.hid (HBF.out.off ho1 (by simp))
  have HO1 := Lib.hid (HOF.out.trans_nil ho1)
  clear ho1 HAW HBF HOF
  by_cases hok : okTree t = true
  case neg =>
    have hok : okTree t = false := by simpa using hok
    have HNB := Lib.hid (dnew_bad fp t n c w1 (HR0.out.off HO1.out) HN.out hc (by unfold maxLen; omega) hok HFT.out (HT.out.off HO1.out))
    clear hok
    go_wp2_with fail
    refine HNB.out.mono ?_
    rintro e w2 ⟨rfl, ho2⟩
    go_wp2_with fail
    go_ret
    exact ⟨rfl, HO1.out.trans_nil ho2⟩
  have HGN := Lib.hid (good_new hok)
  have HLN := Lib.hid (light_new HFT.out)
  have HNEW := Lib.hid (run_new fp t n c w1 w1 (Off.refl _ _) (HT.out.off HO1.out) (HR0.out.off HO1.out) HN.out hc hok HFT.out)
  clear hok
  go_wp2_with fail
  refine HNEW.out.mono ?_
  rintro e w2 ⟨gd, rfl, hr⟩
  have HR2 := Lib.hid hr
  clear hr HNEW
  go_wp2_with fail
  go_loopw [27] (fun x wr => ∃ (i : Nat) (D : PDisk), x = .int .i64 i ∧ i ≤ m ∧ i ≤ 60 ∧ Hid (Run w1 wr gd D (2 * i) ∧ Good D ∧ Calm D ∧ Light D)) (fun x _ => m - (intOf x).toNat)
  case atStart => exact ⟨0, _, rfl, by omega, by omega, Lib.hid ⟨HR2.out, HGN.out, ⟨rfl, rfl⟩, HLN.out⟩⟩
  case round =>
    clear HR2 HGN HLN
    obtain ⟨i, D, rfl, hi, hi60, HRW⟩ := hrel
    by_cases hlt : i < m
    · have hil : i < cs.length := by rw [HM.out]; exact hlt
      obtain ⟨a, rfl, hca, hab⟩ := (HC0.out.off (HO1.out.trans_nil HRW.out.1.since)).get i hil
      have HZX := Lib.hid (HZ.out _ (List.getElem_mem hil))
      generalize cs[i] = x at hca HZX
      have c0 := hca.what
      have c1 := hca.path
      have c2 := hca.to_
      have c3 := hca.data
      have c4 := hca.mode
      have hilt : (i : Int) < m := by omega
      have habk : (a.add (i * 5)).block < wr.heap.size := by rw [add_block]; exact hab
      clear hca hab hil
      go_upto_region 9 with fail
      refine code_gen (fun W => Blk W wr.heap.size 77 #[.int .i64 x.what, .string x.path, .string x.to_, .string x.data, .int .i64 x.mode] ∧ Off [] wr W) ⟨Blk.new _ _ _, (Off.refl _ _).alloc _⟩ ?_
      rintro W ⟨hbc, hof⟩
      clear c0 c1 c2 c3 c4 habk
      have hcc := hbc.cell
      have HRP := Lib.hid (HRW.out.1.keep (k := []) hof (fun b hb => by cases hb))
      have HS := Lib.hid (And.intro HRW.out.2.1 (And.intro HRW.out.2.2.1 HRW.out.2.2.2))
      clear hbc hof HRW
      by_cases h60 : i = 60
      · have hq : ((i : Int) == 60) = true := by rw [h60]; rfl
        clear h60 hcc
        go_wp2_with fail
        have HTR := Lib.hid (runP_tree HRP.out (by omega))
        refine HTR.out.mono ?_
        rintro e w3 ⟨v, rfl, hrow, ho, hr⟩
        have HOK := Lib.hid HRP.out.ok
        have HLEN := Lib.hid (show D.tree.length ≤ 1120 by
          have h1 := HRP.out.tree_len
          have h2 := HRP.out.ok.nlen
          omega)
        obtain ⟨T, hTT⟩ : ∃ T, D.tree = T := ⟨_, rfl⟩
        rw [hTT] at hrow HLEN
        have HTE := Lib.hid hTT
        obtain ⟨tn, htn⟩ : ∃ tn, T.length = tn := ⟨_, rfl⟩
        have HTN := Lib.hid htn
        obtain ⟨qa, qc, hv, hqr, hqc, -, hqb⟩ := own_row hrow
        rw [htn] at hv
        subst hv
        have htl : tn ≤ 1120 := by rw [← htn]; exact HLEN.out
        have HROW := Lib.hid hrow
        have HQB := Lib.hid (show ∀ a, qa = some a → a.block ∈ (Value.slice qa tn qc).ownBlock.toList ++ [] from fun a ha => by
          rcases hrow.2 with ⟨e, _⟩ | ⟨g, cap, cur, e, _⟩
          · cases e; cases ha
          · cases e; cases ha; simp [Value.ownBlock])
        have HR3 := Lib.hid hr
        clear hrow hr ho HTR HRP hqr hqc hqb hTT htn
        go_wp2_with fail
        go_loopw [42] (fun x wq => ∃ (j : Nat) (E : PDisk) (ps : List ByteArray), x = .int .i64 j ∧ j ≤ tn ∧ Hid (RunP w1 wq gd E (2 * i + 2 * j) ((Value.slice qa tn qc).ownBlock.toList ++ []) ∧ wq.ownsRow 0 30 4 (.slice qa tn qc) T.length (cellsOf T) ∧ SyncTo D E ps ∧ ∀ y ∈ T.take j, y.path ∈ ps)) (fun x _ => tn - (intOf x).toNat)
        case atStart => exact ⟨0, D, [], rfl, by omega, Lib.hid ⟨HR3.out, own_base HROW.out (Nat.zero_le _), SyncTo.start HS.out.2.1, fun y hy => by simp at hy⟩⟩
        case round =>
          clear HR3
          obtain ⟨j, E, ps, rfl, hj, HQ⟩ := hrel
          by_cases hjl : j < tn
          · have hjt : j < T.length := by rw [HTN.out]; exact hjl
            obtain ⟨qa', qc', hv, hqr, -, -, -⟩ := own_row HQ.out.2.1
            rw [HTN.out] at hv
            obtain ⟨rfl, -, rfl⟩ : qa = qa' ∧ tn = tn ∧ qc = qc' := by simpa using hv
            obtain ⟨qb, rfl, hqn, -⟩ := Row.get hqr j hjt
            have HY := Lib.hid (tree_name (y := T[j]) HOK.out HS.out.1 (by rw [HTE.out]; exact List.getElem_mem hjt))
            have HYM := Lib.hid (show ∀ y ∈ T.take (j + 1), y ∈ T.take j ∨ y.path = T[j].path from fun y hy => by
              rw [List.take_succ_eq_append_getElem hjt] at hy
              rcases List.mem_append.1 hy with h | h
              · exact .inl h
              · simp at h; subst h; exact .inr rfl)
            generalize T[j] = y at hqn HY HYM
            have c0 := hqn.path
            have c1 := hqn.kind
            have c2 := hqn.data
            have c3 := hqn.mode
            have hjlt : (j : Int) < tn := by omega
            have hqbk : (qb.add (j * 4)).block < wr.heap.size := World.block_lt_of_cell? _ _ c0
            clear hqr hqn hjt
            go_upto_region 16 with fail
            refine code_gen (fun W => Blk W wr.heap.size 30 #[.string y.path, .int .i64 y.kind, .string y.data, .int .i64 y.mode] ∧ Off [] wr W) ⟨Blk.new _ _ _, (Off.refl _ _).alloc _⟩ ?_
            rintro W ⟨hbn, hof⟩
            clear c0 c1 c2 c3 hqbk
            have hcn := hbn.cell
            have HQW := Lib.hid (And.intro (HQ.out.1.off hof) (own_offk HQ.out.2.1 hof (by simp)))
            have HSS := Lib.hid HQ.out.2.2
            clear hbn hof HQ
            have HSY := Lib.hid (runP_sync HQW.out.1 (by omega) y.path (by
              have := okPath_size HY.out.1
              rw [str_size] at this
              omega))
            rw [(HSS.out.1.sync HY.out.1 HY.out.2).1] at HSY
            go_wp2_with fail
            refine HSY.out.mono ?_
            rintro e w4 ⟨rfl, hr, hk⟩
            have HR4 := Lib.hid (And.intro hr (hk.row HQW.out.2 (by intro b hb; simp [hb])))
            clear hr hk HSY HQW hcn
            go_wp2_with fail
            exact ⟨⟨j + 1, (E.sync y.path).2, y.path :: ps, by congr 1, by omega, Lib.hid ⟨HR4.out.1.le (by omega), HR4.out.2, (HSS.out.1.sync HY.out.1 HY.out.2).2, fun z hz => by
              rcases HYM.out z hz with h | h
              · exact List.mem_cons_of_mem _ (HSS.out.2 z h)
              · rw [h]; exact List.mem_cons_self ..⟩⟩, by simp only [intOf]; omega⟩
          · obtain rfl : j = tn := by omega
            have HEND := Lib.hid (safe_end (E := E) HOK.out HS.out.1 (SyncTo.sub HQ.out.2.2.1 (fun p hp => by
              rw [HTE.out] at hp
              obtain ⟨y, hy, rfl⟩ := List.mem_map.1 hp
              exact HQ.out.2.2.2 y (by rw [← HTN.out, List.take_length]; exact hy))) f.keep f.torn ⟨#[97]⟩)
            rw [HTE.out] at HEND
            have HFL := Lib.hid (runP_flush HQ.out.1 (by omega))
            rw [HEND.out.1] at HFL
            have HRQ := Lib.hid HQ.out.2.1
            clear HQ
            go_wp2_with fail
            refine HFL.out.mono ?_
            rintro e w4 ⟨rfl, hr, hk⟩
            have HR4 := Lib.hid (And.intro hr (hk.row HRQ.out (by intro b hb; simp [hb])))
            have hbf := HB1.out.off hr.since (by simp)
            have hcf := hbf.cell
            have hlf := hbf.lt
            clear hr hk HFL HRQ hbf
            go_wp2_with fail
            refine (runP_boot (HR4.out.1.off ((Off.refl [] _).alloc _)) (some ⟨_, 0, none⟩) [⟨1, 3, f.keep, f.torn⟩] 1 1 (FRow.one _ (Blk.new _ _ _)) rfl (by decide) (fun h => by cases h)).mono ?_
            rintro e w5 ⟨rfl, hr, hk⟩
            have HR5 := Lib.hid (And.intro hr (hk.row (own_offk HR4.out.2 ((Off.refl [] _).alloc _) (by simp)) (by intro b hb; simp [hb])))
            clear hr hk hcf hlf HR4
            obtain ⟨D5, hD5⟩ : ∃ D5, E.flush.2.boot [⟨1, 3, f.keep, f.torn⟩] = D5 := ⟨_, rfl⟩
            rw [hD5] at HR5 HEND
            clear hD5
            have HGT := Lib.hid (runP_get HR5.out.1 (by omega) ⟨#[97]⟩ (by decide))
            obtain ⟨er, nd, s1, s2, s3, hg⟩ : ∃ er nd s1 s2 s3, (D5.get ⟨#[97]⟩).1 = (er, nd, s1, s2, s3) := ⟨_, _, _, _, _, rfl⟩
            rw [hg] at HGT
            unfold getVal at HGT
            clear hg
            obtain ⟨D6, hD6⟩ : ∃ D6, (D5.get ⟨#[97]⟩).2 = D6 := ⟨_, rfl⟩
            rw [hD6] at HGT HEND
            clear hD6
            go_wp2_with fail
            refine HGT.out.mono ?_
            rintro e w6 ⟨rfl, hr, hk⟩
            have HR6 := Lib.hid (And.intro hr (hk.row HR5.out.2 (by intro b hb; simp [hb])))
            clear hr hk HGT HR5
            have HFL := Lib.hid (runP_flush HR6.out.1 (by omega))
            rw [HEND.out.2.1] at HFL
            go_wp2_with fail
            refine HFL.out.mono ?_
            rintro e w7 ⟨rfl, hr, hk⟩
            have HR7 := Lib.hid (And.intro hr (hk.row HR6.out.2 (by intro b hb; simp [hb])))
            clear hr hk HFL HR6
            go_wp2_with fail
            refine (runP_boot HR7.out.1 none [] 0 0 (FRow.nil _ _) rfl (by decide) (fun _ => rfl)).mono ?_
            rintro e w8 ⟨rfl, hr, hk⟩
            have HR8 := Lib.hid (And.intro hr (hk.row HR7.out.2 (by intro b hb; simp [hb])))
            clear hr hk HR7
            have HTR := Lib.hid (runP_tree HR8.out.1 (by omega))
            rw [HEND.out.2.2] at HTR
            have HON := Lib.hid (show (D6.flush.2.boot []).off = false from rfl)
            obtain ⟨D8, hD8⟩ : ∃ D8, D6.flush.2.boot [] = D8 := ⟨_, rfl⟩
            rw [hD8] at HTR HON
            clear hD8
            go_wp2_with fail
            refine HTR.out.mono ?_
            rintro e w9 ⟨v, rfl, hrow, ho, hr⟩
            obtain ⟨ra, rc, hv, hrr, -⟩ := own_row hrow
            rw [HTN.out] at hv
            subst hv
            obtain ⟨qa', qc', hv, hqr, -, -, -⟩ := own_row (own_offk HR8.out.2 ho (by simp))
            rw [HTN.out] at hv
            obtain ⟨rfl, rfl⟩ : qa = qa' ∧ qc = qc' := by simpa using hv
            have HSM := Lib.hid (rsame_any T T ra qa rc qc w9 (by have := HLEN.out; omega) (by have := HLEN.out; omega) hrr hqr)
            rw [decide_eq_true rfl, HTN.out] at HSM
            have HR9 := Lib.hid hr
            clear hrow hrr hqr ho hr HTR hv HR8
            go_wp2_with fail
            refine HSM.out.mono ?_
            rintro e w10 ⟨rfl, hog⟩
            have HR10 := Lib.hid (HR9.out.off hog)
            clear hog HSM HR9
            go_wp2_with fail
            refine (runP_on HR10.out).mono ?_
            rintro e w11 ⟨he, hr, ho⟩
            rw [HON.out] at he
            have he : e = .returned (.bool true) := he
            subst he
            have HOZ := Lib.hid (HO1.out.trans_nil hr.since)
            clear hr ho HR10
            go_wp2_with fail
            go_ret
            exact ⟨rfl, HOZ.out⟩
      have hq : ((i : Int) == 60) = false := beq_eq_false_iff_ne.2 (by omega)
      have HASK := Lib.hid (runP_ask HRP.out (by omega) HS.out.2.2 x HZX.out.1 HZX.out.2.1 (HS.out.1.free HRP.out.ok x.path x.to_))
      go_wp2_with fail
      refine HASK.out.mono ?_
      rintro e w3 ⟨⟨_, rfl⟩, hr, hk⟩
      have HR3 := Lib.hid hr.run
      have HS3 := Lib.hid (And.intro (HS.out.1.ask HRP.out.ok x) (And.intro (HS.out.2.1.ask x) (HS.out.2.2.ask x HZX.out.2.2 HZX.out.2.1)))
      clear hr hk hcc HASK HRP
      go_wp2_with fail
      exact ⟨⟨i + 1, askD D x, by congr 1, by omega, by omega, Lib.hid ⟨HR3.out.le (by omega), HS3.out⟩⟩, by simp only [intOf]; omega⟩
    · obtain rfl : i = m := by omega
      have HRP := Lib.hid (HRW.out.1.keep (k := []) (Off.refl _ _) (fun b hb => by cases hb))
      have HS := Lib.hid (And.intro HRW.out.2.1 (And.intro HRW.out.2.2.1 HRW.out.2.2.2))
      clear HRW
      go_wp2_with fail
      have HTR := Lib.hid (runP_tree HRP.out (by omega))
      refine HTR.out.mono ?_
      rintro e w3 ⟨v, rfl, hrow, ho, hr⟩
      have HOK := Lib.hid HRP.out.ok
      have HLEN := Lib.hid (show D.tree.length ≤ 1120 by
        have h1 := HRP.out.tree_len
        have h2 := HRP.out.ok.nlen
        omega)
      obtain ⟨T, hTT⟩ : ∃ T, D.tree = T := ⟨_, rfl⟩
      rw [hTT] at hrow HLEN
      have HTE := Lib.hid hTT
      obtain ⟨tn, htn⟩ : ∃ tn, T.length = tn := ⟨_, rfl⟩
      have HTN := Lib.hid htn
      obtain ⟨qa, qc, hv, hqr, hqc, -, hqb⟩ := own_row hrow
      rw [htn] at hv
      subst hv
      have htl : tn ≤ 1120 := by rw [← htn]; exact HLEN.out
      have HROW := Lib.hid hrow
      have HQB := Lib.hid (show ∀ a, qa = some a → a.block ∈ (Value.slice qa tn qc).ownBlock.toList ++ [] from fun a ha => by
        rcases hrow.2 with ⟨e, _⟩ | ⟨g, cap, cur, e, _⟩
        · cases e; cases ha
        · cases e; cases ha; simp [Value.ownBlock])
      have HR3 := Lib.hid hr
      clear hrow hr ho HTR HRP hqr hqc hqb hTT htn
      go_wp2_with fail
      go_loopw [42] (fun x wq => ∃ (j : Nat) (E : PDisk) (ps : List ByteArray), x = .int .i64 j ∧ j ≤ tn ∧ Hid (RunP w1 wq gd E (2 * i + 2 * j) ((Value.slice qa tn qc).ownBlock.toList ++ []) ∧ wq.ownsRow 0 30 4 (.slice qa tn qc) T.length (cellsOf T) ∧ SyncTo D E ps ∧ ∀ y ∈ T.take j, y.path ∈ ps)) (fun x _ => tn - (intOf x).toNat)
      case atStart => exact ⟨0, D, [], rfl, by omega, Lib.hid ⟨HR3.out, own_base HROW.out (Nat.zero_le _), SyncTo.start HS.out.2.1, fun y hy => by simp at hy⟩⟩
      case round =>
        clear HR3
        obtain ⟨j, E, ps, rfl, hj, HQ⟩ := hrel
        by_cases hjl : j < tn
        · have hjt : j < T.length := by rw [HTN.out]; exact hjl
          obtain ⟨qa', qc', hv, hqr, -, -, -⟩ := own_row HQ.out.2.1
          rw [HTN.out] at hv
          obtain ⟨rfl, -, rfl⟩ : qa = qa' ∧ tn = tn ∧ qc = qc' := by simpa using hv
          obtain ⟨qb, rfl, hqn, -⟩ := Row.get hqr j hjt
          have HY := Lib.hid (tree_name (y := T[j]) HOK.out HS.out.1 (by rw [HTE.out]; exact List.getElem_mem hjt))
          have HYM := Lib.hid (show ∀ y ∈ T.take (j + 1), y ∈ T.take j ∨ y.path = T[j].path from fun y hy => by
            rw [List.take_succ_eq_append_getElem hjt] at hy
            rcases List.mem_append.1 hy with h | h
            · exact .inl h
            · simp at h; subst h; exact .inr rfl)
          generalize T[j] = y at hqn HY HYM
          have c0 := hqn.path
          have c1 := hqn.kind
          have c2 := hqn.data
          have c3 := hqn.mode
          have hjlt : (j : Int) < tn := by omega
          have hqbk : (qb.add (j * 4)).block < wr.heap.size := World.block_lt_of_cell? _ _ c0
          clear hqr hqn hjt
          go_upto_region 16 with fail
          refine code_gen (fun W => Blk W wr.heap.size 30 #[.string y.path, .int .i64 y.kind, .string y.data, .int .i64 y.mode] ∧ Off [] wr W) ⟨Blk.new _ _ _, (Off.refl _ _).alloc _⟩ ?_
          rintro W ⟨hbn, hof⟩
          clear c0 c1 c2 c3 hqbk
          have hcn := hbn.cell
          have HQW := Lib.hid (And.intro (HQ.out.1.off hof) (own_offk HQ.out.2.1 hof (by simp)))
          have HSS := Lib.hid HQ.out.2.2
          clear hbn hof HQ
          have HSY := Lib.hid (runP_sync HQW.out.1 (by omega) y.path (by
            have := okPath_size HY.out.1
            rw [str_size] at this
            omega))
          rw [(HSS.out.1.sync HY.out.1 HY.out.2).1] at HSY
          go_wp2_with fail
          refine HSY.out.mono ?_
          rintro e w4 ⟨rfl, hr, hk⟩
          have HR4 := Lib.hid (And.intro hr (hk.row HQW.out.2 (by intro b hb; simp [hb])))
          clear hr hk HSY HQW hcn
          go_wp2_with fail
          exact ⟨⟨j + 1, (E.sync y.path).2, y.path :: ps, by congr 1, by omega, Lib.hid ⟨HR4.out.1.le (by omega), HR4.out.2, (HSS.out.1.sync HY.out.1 HY.out.2).2, fun z hz => by
            rcases HYM.out z hz with h | h
            · exact List.mem_cons_of_mem _ (HSS.out.2 z h)
            · rw [h]; exact List.mem_cons_self ..⟩⟩, by simp only [intOf]; omega⟩
        · obtain rfl : j = tn := by omega
          have HEND := Lib.hid (safe_end (E := E) HOK.out HS.out.1 (SyncTo.sub HQ.out.2.2.1 (fun p hp => by
            rw [HTE.out] at hp
            obtain ⟨y, hy, rfl⟩ := List.mem_map.1 hp
            exact HQ.out.2.2.2 y (by rw [← HTN.out, List.take_length]; exact hy))) f.keep f.torn ⟨#[97]⟩)
          rw [HTE.out] at HEND
          have HFL := Lib.hid (runP_flush HQ.out.1 (by omega))
          rw [HEND.out.1] at HFL
          have HRQ := Lib.hid HQ.out.2.1
          clear HQ
          go_wp2_with fail
          refine HFL.out.mono ?_
          rintro e w4 ⟨rfl, hr, hk⟩
          have HR4 := Lib.hid (And.intro hr (hk.row HRQ.out (by intro b hb; simp [hb])))
          have hbf := HB1.out.off hr.since (by simp)
          have hcf := hbf.cell
          have hlf := hbf.lt
          clear hr hk HFL HRQ hbf
          go_wp2_with fail
          refine (runP_boot (HR4.out.1.off ((Off.refl [] _).alloc _)) (some ⟨_, 0, none⟩) [⟨1, 3, f.keep, f.torn⟩] 1 1 (FRow.one _ (Blk.new _ _ _)) rfl (by decide) (fun h => by cases h)).mono ?_
          rintro e w5 ⟨rfl, hr, hk⟩
          have HR5 := Lib.hid (And.intro hr (hk.row (own_offk HR4.out.2 ((Off.refl [] _).alloc _) (by simp)) (by intro b hb; simp [hb])))
          clear hr hk hcf hlf HR4
          obtain ⟨D5, hD5⟩ : ∃ D5, E.flush.2.boot [⟨1, 3, f.keep, f.torn⟩] = D5 := ⟨_, rfl⟩
          rw [hD5] at HR5 HEND
          clear hD5
          have HGT := Lib.hid (runP_get HR5.out.1 (by omega) ⟨#[97]⟩ (by decide))
          obtain ⟨er, nd, s1, s2, s3, hg⟩ : ∃ er nd s1 s2 s3, (D5.get ⟨#[97]⟩).1 = (er, nd, s1, s2, s3) := ⟨_, _, _, _, _, rfl⟩
          rw [hg] at HGT
          unfold getVal at HGT
          clear hg
          obtain ⟨D6, hD6⟩ : ∃ D6, (D5.get ⟨#[97]⟩).2 = D6 := ⟨_, rfl⟩
          rw [hD6] at HGT HEND
          clear hD6
          go_wp2_with fail
          refine HGT.out.mono ?_
          rintro e w6 ⟨rfl, hr, hk⟩
          have HR6 := Lib.hid (And.intro hr (hk.row HR5.out.2 (by intro b hb; simp [hb])))
          clear hr hk HGT HR5
          have HFL := Lib.hid (runP_flush HR6.out.1 (by omega))
          rw [HEND.out.2.1] at HFL
          go_wp2_with fail
          refine HFL.out.mono ?_
          rintro e w7 ⟨rfl, hr, hk⟩
          have HR7 := Lib.hid (And.intro hr (hk.row HR6.out.2 (by intro b hb; simp [hb])))
          clear hr hk HFL HR6
          go_wp2_with fail
          refine (runP_boot HR7.out.1 none [] 0 0 (FRow.nil _ _) rfl (by decide) (fun _ => rfl)).mono ?_
          rintro e w8 ⟨rfl, hr, hk⟩
          have HR8 := Lib.hid (And.intro hr (hk.row HR7.out.2 (by intro b hb; simp [hb])))
          clear hr hk HR7
          have HTR := Lib.hid (runP_tree HR8.out.1 (by omega))
          rw [HEND.out.2.2] at HTR
          have HON := Lib.hid (show (D6.flush.2.boot []).off = false from rfl)
          obtain ⟨D8, hD8⟩ : ∃ D8, D6.flush.2.boot [] = D8 := ⟨_, rfl⟩
          rw [hD8] at HTR HON
          clear hD8
          go_wp2_with fail
          refine HTR.out.mono ?_
          rintro e w9 ⟨v, rfl, hrow, ho, hr⟩
          obtain ⟨ra, rc, hv, hrr, -⟩ := own_row hrow
          rw [HTN.out] at hv
          subst hv
          obtain ⟨qa', qc', hv, hqr, -, -, -⟩ := own_row (own_offk HR8.out.2 ho (by simp))
          rw [HTN.out] at hv
          obtain ⟨rfl, rfl⟩ : qa = qa' ∧ qc = qc' := by simpa using hv
          have HSM := Lib.hid (rsame_any T T ra qa rc qc w9 (by have := HLEN.out; omega) (by have := HLEN.out; omega) hrr hqr)
          rw [decide_eq_true rfl, HTN.out] at HSM
          have HR9 := Lib.hid hr
          clear hrow hrr hqr ho hr HTR hv HR8
          go_wp2_with fail
          refine HSM.out.mono ?_
          rintro e w10 ⟨rfl, hog⟩
          have HR10 := Lib.hid (HR9.out.off hog)
          clear hog HSM HR9
          go_wp2_with fail
          refine (runP_on HR10.out).mono ?_
          rintro e w11 ⟨he, hr, ho⟩
          rw [HON.out] at he
          have he : e = .returned (.bool true) := he
          subst he
          have HOZ := Lib.hid (HO1.out.trans_nil hr.since)
          clear hr ho HR10
          go_wp2_with fail
          go_ret
          exact ⟨rfl, HOZ.out⟩
end Go.Proofs.YtgcfkljooabjjaaGreatDoor
