/- Texts of this claim, one behind the other: DBoot Quiet Store WholeLaw SaveLaw DRun DAwake StoreLaw StoreLaw2 SAwake. Conditions: what each lemma states. -/
import Derived.Test.YtoicjadioiomkaaGreatDoorIg
import Derived.Test.YtoicjadioiomkaaGreatDoorIc
import Derived.Test.YtoicjadioiomkaaGreatDoorId
import Derived.Lib.SliceRun
import Derived.KernelRfl
namespace Go.Proofs.YtoicjadioiomkaaGreatDoor
section
open Go.RowKit Go.Op Go.Maps
end
section
open Go.RowKit Go.Op Go.Maps
structure DS (w : World) (p : Nat) (G : Geo) (D : PDisk) (n : Nat) : Prop where
  m : DiskM w p G D
  sb : G.sb.isSome = true
  ok : Ok D n
  tabs : TabsX w p G.parts
  quiet : D.edits = []
theorem DS.e {w : World} {p n : Nat} {G : Geo} {D : PDisk} (h : DS w p G D n) : DSE w p G D n := ⟨h.m, h.sb, h.ok, h.tabs⟩
theorem step_edits (D : PDisk) (c p q : ByteArray) : (D.step c p q).2.2.edits = D.edits := by
  unfold PDisk.step
  split
  · rfl
  dsimp only
  split
  · rfl
  split
  · rfl
  split <;> rfl
theorem get_edits (D : PDisk) (p : ByteArray) : (D.get p).2.edits = D.edits := by
  have h := step_edits D ⟨#[71, 101, 116]⟩ p ⟨#[]⟩; unfold PDisk.get; generalize D.step ⟨#[71, 101, 116]⟩ p ⟨#[]⟩ = st at h; obtain ⟨full, e, E⟩ := st; dsimp only at h ⊢
  split <;> exact h
theorem names_edits (D : PDisk) (p : ByteArray) : (D.namesC p).2.edits = D.edits := by
  have h := step_edits D ⟨#[78, 97, 109, 101, 115]⟩ p ⟨#[]⟩; unfold PDisk.namesC; generalize D.step ⟨#[78, 97, 109, 101, 115]⟩ p ⟨#[]⟩ = st at h; obtain ⟨full, e, E⟩ := st; dsimp only at h ⊢
  split <;> exact h
section
variable {w : World} {p n : Nat} {G : Geo} {D : PDisk}
end
end
section
open Go.RowKit Go.Op Go.Maps
section
variable (p n gd gb gt : Nat) (G : Geo) (D : PDisk) (W : World)
end
end
section
open PDisk
theorem step_quiet {D : PDisk} (c p q : ByteArray) (h : D.off = false) (hf : ∀ f ∈ D.fates, f.at_ ≠ D.trace.length) : D.step c p q = (false, 0, { D with clock := D.clock + 1, trace := D.trace ++ [⟨c, p, q⟩] }) := by
  unfold PDisk.step; rw [h]; have : D.fates.find? (fun f => decide (f.at_ = (D.trace.length : Int))) = none := List.find?_eq_none.2 (fun f hm => by simpa using hf f hm)
  simp [this]
theorem crash_names (D : PDisk) (f : FateP) : (D.crash f).names = D.safe ∨ (D.crash f).names ∈ D.later := by
  show (match D.later[(min f.keep (D.later.length : Int)).toNat - 1]? with | some l => if 0 < min f.keep (D.later.length : Int) then l else D.safe | none => D.safe) = D.safe ∨ (match D.later[(min f.keep (D.later.length : Int)).toNat - 1]? with | some l => if 0 < min f.keep (D.later.length : Int) then l else D.safe | none => D.safe) ∈ D.later
  split
  · rename_i y hy
    split
    · exact .inr (List.mem_of_getElem? hy)
    exact .inl rfl
  exact .inl rfl
theorem crash_inode (D : PDisk) (f : FateP) (i : Nat) : (D.crash f).inode i = (D.inode i).map (tear f.torn) := by
  unfold PDisk.inode
  split
  · rfl
  show (D.inos.map (tear f.torn))[i - 1]? = _
  rw [List.getElem?_map]
section
variable (old new : ByteArray) (f : FateP)
variable {old new f}
end
end
section
open PDisk
def PDisk.tick (D : PDisk) (c p q : ByteArray) : PDisk := { D with clock := D.clock + 1, trace := D.trace ++ [⟨c, p, q⟩] }
theorem step_free {D : PDisk} (c p q : ByteArray) (h : D.off = false) (hf : D.fates = []) : D.step c p q = (false, 0, D.tick c p q) :=
  step_quiet c p q h (by rw [hf]; intro f hf; cases hf)
section
variable {E : PDisk} {p q data : ByteArray} {mode : Int} {full : Bool}
end
theorem tear_kind (t : Int) (n : Ino) : (tear t n).node.kind = n.node.kind := by unfold tear; split <;> rfl
def newI (D : PDisk) : Nat := D.inos.length + 1
def nm1 (D : PDisk) (t : ByteArray) : NameL := putN D.names t (newI D)
def nm2 (D : PDisk) (p t : ByteArray) : NameL := delN (putN (nm1 D t) p (newI D)) t
section
variable {D : PDisk} {p t text : ByteArray} {f : FateP}
structure W1 (D E : PDisk) (p t text : ByteArray) (d : Bool) : Prop where
  names : E.names = nm1 D t
  safe : E.safe = D.names
  later : E.later = [nm1 D t]
  inos : ∃ tm, E.inos = D.inos ++ [⟨⟨⟨#[]⟩, 1, text, 384⟩, tm, d⟩]
  on : E.off = false
structure W3 (D E : PDisk) (p t text : ByteArray) : Prop where
  names : E.names = nm2 D p t
  safe : E.safe = D.names
  later : E.later = [nm1 D t, nm2 D p t]
  inos : ∃ tm, E.inos = D.inos ++ [⟨⟨⟨#[]⟩, 1, text, 384⟩, tm, false⟩]
  on : E.off = false
end
end
section
open Go.RowKit Go.Op Go.Maps
def Run (w0 w : World) (p : Nat) (D : PDisk) (n : Nat) : Prop := ∃ G, DS w p G D n ∧ Off [] w0 w ∧ w0.heap.size ≤ p ∧ ∀ b ∈ G.parts, w0.heap.size ≤ b
theorem Run.since {w0 w : World} {p n : Nat} {D : PDisk} (h : Run w0 w p D n) : Off [] w0 w := by obtain ⟨_, _, h2, _⟩ := h; exact h2
section
variable {w0 w : World} {p n : Nat} {D : PDisk}
end
theorem nmOf_look : ∀ (a : List Node) (i : Nat) (p : ByteArray), lookN (nmOf a i) p ≤ i + a.length ∧ (hasN (nmOf a i) p = true → i + 1 ≤ lookN (nmOf a i) p)
  | [], i, p => ⟨Nat.zero_le _, fun h => by simp [nmOf, hasN] at h⟩
  | n :: a, i, p => by
    obtain ⟨h1, h2⟩ := nmOf_look a (i + 1) p; unfold nmOf lookN
    by_cases e : n.path = p
    · rw [if_pos e]
      exact ⟨by simp only [List.length_cons]; omega, fun _ => Nat.le_refl _⟩
    rw [if_neg e]; refine ⟨by simp only [List.length_cons]; omega, fun h => ?_⟩; have := h2 (by simpa [hasN, e] using h); omega
theorem newD_ok {t : List Node} (hok : okTree t = true) : Ok (newD t) 0 := by
  have hl := okTree_len hok; have hN : NOk (newD t).inos.length (nmOf t 0) := fun x => by
    obtain ⟨h1, h2⟩ := nmOf_look t 0 x; refine ⟨by simp [newD, newD']; omega, fun h => ⟨by have := h2 h; omega, ?_⟩⟩; obtain ⟨n, hn, rfl⟩ := (nmOf_has _ _ _).1 h; exact okTree_small hok hn
  exact ⟨hN, hN, fun l hl => by simp [newD, newD'] at hl, by simp [newD, newD'], by simp [newD, newD']; omega, by simp [newD, newD'], by simp [newD, newD'], by simp [newD, newD'], by simp [newD, newD', nmOf_len]; omega, by simp [newD, nmOf_len]; omega, fun l hl => by simp [newD, newD'] at hl⟩
theorem run_new (fp : Option Addr) (t : List Node) (n c : Nat) (w0 w : World) (hof : Off [] w0 w) (hT : Tabs w0) (hR : Row w fp t) (hn : t.length = n) (hc : n ≤ c) (hok : okTree t = true) (hF : Fits t) :
    Calls Tryz.prog 12 #[.slice fp n c] w fun e w' => ∃ gd, e = .returned (.tuple #[.pointer (some ⟨gd, 0, none⟩), .int .i64 0]) ∧ Run w0 w' gd (newD t) 0 := by
  refine (dnew_ok fp t n c w hR hn hc hok hF (hT.off hof)).mono ?_
  rintro e w' ⟨gd, G, he, hM, hgd, hpl, hsb, ho⟩; have h1 := Nat.le_trans hof.size hgd; have h2 : ∀ b ∈ G.parts, w0.heap.size ≤ b := fun b hb => Nat.le_trans hof.size (hpl b hb)
  exact ⟨gd, he, G, ⟨hM, hsb, newD_ok hok, TabsX.of hT (hof.trans_nil ho) h1 h2, rfl⟩, hof.trans_nil ho, h1, h2⟩
end
section
open Go.RowKit Go.Op Go.Maps
end
section
open PDisk
section
variable {D E : PDisk} {p t text : ByteArray}
end
section
variable {old text : ByteArray} {f : FateP}
end
end
section
open PDisk
section
variable {a b : ByteArray} {f : FateP}
end
end
section
open Go.RowKit Go.Op Go.Maps
section
variable {w0 w : World} {p n : Nat} {D : PDisk}
end
end
end Go.Proofs.YtoicjadioiomkaaGreatDoor
