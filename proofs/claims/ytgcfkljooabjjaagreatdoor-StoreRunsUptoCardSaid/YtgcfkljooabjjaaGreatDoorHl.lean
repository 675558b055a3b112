/- Texts of this claim, one behind the other: RNorm3 RKeep RPut LastOp. Conditions: what each lemma states. -/
import Derived.Test.YtgcfkljooabjjaaGreatDoorHk
import Derived.Test.YtgcfkljooabjjaaGreatDoorHc
import Derived.Test.YtgcfkljooabjjaaGreatDoorHd
import Derived.Test.YtgcfkljooabjjaaGreatDoorHb
import Derived.StillTail
import Derived.Deep.RegionHeld
namespace Go.Proofs.YtgcfkljooabjjaaGreatDoor
section
open Go.RowKit Go.Op Go.Maps
def rchg (E : PDisk) (l : NameL) : PDisk := { E with names := sortI l, later := E.later ++ [sortI l] }
def rlay (E : PDisk) (p : ByteArray) (n : Node) (full : Bool) (l : List (Bool × Int)) : Int × PDisk :=
  let e := firstE (l ++ [(full || decide (1000 ≤ E.names.length), 71)])
  if e ≠ 0 then (e, E) else (0, rwith E p ⟨n, E.clock, decide (n.kind = 1)⟩)
def rwrite (E : PDisk) (full : Bool) (p data : ByteArray) (mode : Int) : Int × PDisk :=
  match E.at_ p with
  | none => rlay E p ⟨⟨#[]⟩, 1, data, mode⟩ full [PDisk.no p, (decide (65536 < data.size) || decide (mode < 0) || decide (511 < mode), 2), E.parentE p, (false, 73)]
  | some o =>
    let e := firstE ([PDisk.no p, (decide (65536 < data.size) || decide (mode < 0) || decide (511 < mode), 2), E.parentE p, (!decide (o.node.kind = 1), 73)] ++ [(full, 71)])
    if e ≠ 0 then (e, E) else (0, { E with inos := E.inos.set (lookN E.names p - 1) ⟨⟨⟨#[]⟩, 1, data, mode⟩, E.clock, true⟩ })
def rinside (E : PDisk) (p : ByteArray) : Bool := E.names.any fun x => decide (bs (parent (str x.1)) = p)
def rremove (E : PDisk) (p : ByteArray) : Int × PDisk :=
  let e := firstE [PDisk.no p, E.gone p, (rinside E p, 72)]
  if e ≠ 0 then (e, E) else (0, rchg E (delN E.names p))
def rtwo (E : PDisk) (p q : ByteArray) : NameL := (E.names.filter fun x => !decide (x.1 = p) && !decide (x.1 = q)) ++ [(q, lookN E.names p)]
def rreplace (E : PDisk) (p q : ByteArray) : Int × PDisk :=
  let e := firstE [PDisk.no p, PDisk.no q, (decide (p = q), 2), E.gone p, (E.dir p || E.dir q, 73), E.parentE q]
  if e ≠ 0 then (e, E) else (0, rchg E (rtwo E p q))
section
variable {D : PDisk} {n : Nat}
theorem norm_look (ha : Apart D.names) (p : ByteArray) : lookN (norm D).names p = lookN D.names p := lookN_perm7 ha.sortN (sortN_perm _) p
theorem norm_gone (ha : Apart D.names) (p : ByteArray) : (norm D).gone p = D.gone p := by unfold PDisk.gone; rw [norm_at ha]
theorem norm_parentE (ha : Apart D.names) (p : ByteArray) : (norm D).parentE p = D.parentE p := by unfold PDisk.parentE; rw [norm_dir ha]
theorem norm_len : (norm D).names.length = D.names.length := sortN_len _
theorem no_has (hk : NOk D.inos.length D.names) {p : ByteArray} (h : D.at_ p = none) : hasN D.names p = false := by
  cases hh : hasN D.names p
  · rfl
  obtain ⟨h1, h2⟩ := hk p; have h3 := (h2 hh).1; unfold PDisk.at_ PDisk.inode at h; rw [if_neg (by omega), List.getElem?_eq_getElem (by omega)] at h
  cases h
theorem norm_sync (ha : Apart D.names) (p : ByteArray) : (norm D).sync_ p = ((D.sync_ p).1, norm (D.sync_ p).2) := by
  unfold PDisk.sync_; rw [norm_gone ha, norm_at ha, norm_look ha]; dsimp only
  by_cases h : firstE [PDisk.no p, D.gone p] = 0
  · rw [if_neg (by simpa using h), if_neg (by simpa using h)]
    cases D.at_ p <;> rfl
  rw [if_pos h, if_pos h]
theorem norm_rlay (ha : Apart D.names) {p : ByteArray} (hp : hasN D.names p = false) (x : Node) (full : Bool) (l : List (Bool × Int)) : rlay (norm D) p x full l = ((D.lay p x full l).1, norm (D.lay p x full l).2) := by
  unfold rlay PDisk.lay; rw [norm_len]; dsimp only
  by_cases h : firstE (l ++ [(full || decide (1000 ≤ D.names.length), 71)]) = 0
  · rw [if_neg (by simpa using h), if_neg (by simpa using h)]
    dsimp only
    rw [norm_lay ha hp]
    rfl
  rw [if_pos h, if_pos h]
theorem norm_write (hk : NOk D.inos.length D.names) (ha : Apart D.names) (full : Bool) (p data : ByteArray) (mode : Int) : rwrite (norm D) full p data mode = ((D.write_ full p data mode).1, norm (D.write_ full p data mode).2) := by
  unfold rwrite PDisk.write_; rw [norm_at ha, norm_parentE ha, norm_look ha]
  cases hat : D.at_ p with
  | none => exact norm_rlay ha (no_has hk hat) _ _ _
  | some o =>
    dsimp only
    split <;> rfl
theorem any_mem {α : Type} {l m : List α} (h : ∀ x, x ∈ l ↔ x ∈ m) (f : α → Bool) : l.any f = m.any f := by
  rw [Bool.eq_iff_iff, List.any_eq_true, List.any_eq_true]
  constructor
  · rintro ⟨x, hx, hf⟩; exact ⟨x, (h x).1 hx, hf⟩
  rintro ⟨x, hx, hf⟩; exact ⟨x, (h x).2 hx, hf⟩
theorem inside_climb (hT : TreeL D D.names) {p : ByteArray} (hp : okPath (str p) = true) : ∀ (k : Nat) (x : ByteArray × Nat), x ∈ D.names → (parts (str x.1)).length ≤ k → within (str x.1) (str p) = true → x.1 ≠ p → ∃ y ∈ D.names, bs (parent (str y.1)) = p
  | 0, x, _, hk, _, _ => absurd (List.length_eq_zero_iff.1 (Nat.le_zero.1 hk)) (parts_ne _)
  | k + 1, x, hx, hk, hw, hne => by
    obtain ⟨hxk, hup⟩ := hT x hx; obtain ⟨h1, h2⟩ := anc_parent hxk hp hw (fun e => hne (str_inj e))
    by_cases e : bs (parent (str x.1)) = p
    · exact ⟨x, hx, e⟩
    have hq : str (bs (parent (str x.1))) = parent (str x.1) := str_bs _
    have hk1 := parent_ok hxk h1; obtain ⟨m, hm, -⟩ := hup (bs (parent (str x.1))) (by rw [hq]; exact hk1) (by rw [hq]; exact within_parent hxk h1) (fun e2 => parent_ne hxk h1 (by rw [← hq, ← e2])); have hh : hasN D.names (bs (parent (str x.1))) = true := by
      cases hh : hasN D.names (bs (parent (str x.1)))
      · rw [lookN_of_not hh] at hm
        unfold PDisk.inode at hm
        cases hm
      rfl
    obtain ⟨z, hz, hz1⟩ := (hasN_iff _ _).1 hh; have hzs : str z.1 = parent (str x.1) := by rw [hz1, hq]
    refine inside_climb hT hp k z hz ?_ (by rw [hzs]; exact h2 hk1) (by rw [hz1]; exact e)
    rw [hzs, parent_parts hxk h1, List.length_dropLast]; omega
theorem inside_eq (hT : TreeL D D.names) {p : ByteArray} (hp : okPath (str p) = true) : rinside (norm D) p = D.inside p := by
  unfold rinside PDisk.inside; rw [any_mem (l := (norm D).names) (m := D.names) (fun x => sortN_mem), Bool.eq_iff_iff, List.any_eq_true, List.any_eq_true]
  constructor
  · rintro ⟨x, hx, h⟩
    have h : bs (parent (str x.1)) = p := by simpa using h
    have hxk := (hT x hx).1; have hs : parent (str x.1) = str p := by rw [← h, str_bs]
    have hne : parent (str x.1) ≠ [] := by rw [hs]; exact okPath_ne hp
    refine ⟨x, hx, ?_⟩
    unfold insP; have h2 := within_parent hxk hne; have h3 := parent_ne hxk hne; rw [hs] at h2 h3; rw [h2, decide_eq_false (fun e => h3 (by rw [e]))]
    rfl
  rintro ⟨x, hx, h⟩; unfold insP at h; simp only [Bool.and_eq_true, Bool.not_eq_true', decide_eq_false_iff_not] at h; obtain ⟨y, hy, e⟩ := inside_climb hT hp _ x hx (Nat.le_refl _) h.2 h.1; exact ⟨y, hy, decide_eq_true e⟩
theorem norm_removeR (ha : Apart D.names) (hT : TreeL D D.names) (p : ByteArray) : rremove (norm D) p = ((D.remove_ p).1, norm (D.remove_ p).2) := by
  unfold rremove PDisk.remove_; rw [norm_gone ha]
  cases hk : okPath (str p)
  · have h1 : PDisk.no p = (true, 11) := by unfold PDisk.no; rw [hk]; rfl
    rw [h1]
    rfl
  rw [inside_eq hT hk]; dsimp only
  by_cases h : firstE [PDisk.no p, D.gone p, (D.inside p, 72)] = 0
  · rw [if_neg (by simpa using h), if_neg (by simpa using h)]
    dsimp only
    rw [norm_remove ha]
    rfl
  rw [if_pos h, if_pos h]
theorem putN_mem {l : NameL} {q : ByteArray} {i : Nat} {z : ByteArray × Nat} : z ∈ putN l q i ↔ z = (q, i) ∨ (z ∈ l ∧ z.1 ≠ q) := by
  unfold putN
  split
  · rename_i h
    rw [List.mem_map]
    constructor
    · rintro ⟨x, hx, rfl⟩
      by_cases e : x.1 = q
      · rw [if_pos e]; exact .inl rfl
      rw [if_neg e]; exact .inr ⟨hx, e⟩
    rintro (rfl | ⟨h1, h2⟩)
    · obtain ⟨x, hx, e⟩ := (hasN_iff _ _).1 h
      exact ⟨x, hx, by rw [if_pos e]⟩
    exact ⟨z, h1, by rw [if_neg h2]⟩
  rename_i h
  rw [List.mem_append, List.mem_singleton]
  constructor
  · rintro (h1 | h1)
    · exact .inr ⟨h1, fun e => h ((hasN_iff _ _).2 ⟨z, h1, e⟩)⟩
    exact .inl h1
  rintro (h1 | ⟨h1, -⟩)
  · exact .inr h1
  exact .inl h1
theorem norm_replaceR (ha : Apart D.names) (p q : ByteArray) : rreplace (norm D) p q = ((D.replace_ p q).1, norm (D.replace_ p q).2) := by
  unfold rreplace PDisk.replace_; rw [norm_gone ha, norm_dir ha, norm_dir ha, norm_parentE ha]; dsimp only
  by_cases h : firstE [PDisk.no p, PDisk.no q, (decide (p = q), 2), D.gone p, (D.dir p || D.dir q, 73), D.parentE q] = 0
  · rw [if_neg (by simpa using h), if_neg (by simpa using h)]
    have hpq : p ≠ q := by
      have := firstE_zero (l := [PDisk.no p, PDisk.no q, (decide (p = q), 2), D.gone p, (D.dir p || D.dir q, 73), D.parentE q]) (fun y hy => by
        simp only [List.mem_cons, List.not_mem_nil, or_false] at hy
        rcases hy with rfl | rfl | rfl | rfl | rfl | rfl <;> simp [PDisk.no, PDisk.parentE, PDisk.gone]) h (decide (p = q), 2) (by simp)
      simpa using this
    have hal : Apart (delN (putN D.names q (lookN D.names p)) p) := (ha.put _ _).del _
    have ham : Apart (rtwo (norm D) p q) := by
      unfold rtwo Apart; rw [List.pairwise_append]; refine ⟨List.Pairwise.filter _ ha.sortN, List.pairwise_singleton _ _, fun x hx y hy e => ?_⟩; simp at hy; subst hy; have := (List.mem_filter.1 hx).2; simp at this; exact this.2 e
    have hperm : (rtwo (norm D) p q).Perm (delN (putN D.names q (lookN D.names p)) p) := perm_mem7 ham.nodup7 hal.nodup7 fun z => by
      unfold rtwo delN; rw [List.mem_append, List.mem_filter, List.mem_filter, putN_mem, norm_look ha, List.mem_singleton, show z ∈ (norm D).names ↔ z ∈ D.names from sortN_mem]; simp only [Bool.and_eq_true, Bool.not_eq_true', decide_eq_false_iff_not]
      constructor
      · rintro (⟨h1, h2, h3⟩ | rfl)
        · exact ⟨.inr ⟨h1, h3⟩, h2⟩
        exact ⟨.inl rfl, fun e => hpq e.symm⟩
      rintro ⟨rfl | ⟨h1, h3⟩, h2⟩
      · exact .inr rfl
      exact .inl ⟨h1, h2, h3⟩
    dsimp only
    rw [norm_change hperm hal]
    rfl
  rw [if_pos h, if_pos h]
theorem norm_get (ha : Apart D.names) (p : ByteArray) : (norm D).get_ p = D.get_ p := by
  unfold PDisk.get_; rw [norm_gone ha, norm_at ha, norm_look ha]
end
end
section
open Go.RowKit Go.Op Go.Maps
structure RdC (C : Nat) (D : PDisk) : Prop where
  edc : EdC C D
  fit : ∀ e ∈ D.edits, Fits1 e.value ∧ e.path.size ≤ 1048576
structure Ref0 (C : Nat) (D : PDisk) (n : Nat) : Prop where
  fine : Fine D n
  rd : RdC C D
  slim : Slim D
  le : n + C ≤ 40000000
section
variable {C n : Nat} {D : PDisk}
theorem Ref0.edited (h : Ref0 C D n) : Fine D.edited (n + C) := h.rd.edc.edited h.fine
theorem Ref0.editTo (h : Ref0 C D n) (i : Nat) : Fine (D.editTo i) (n + C) := (h.fine.editToC h.rd.edc.2 i).mono (by have := h.rd.edc.1; omega)
theorem Ref0.stepped (h : Ref0 C D n) (c p q : ByteArray) : Fine (D.edited.step c p q).2.2 (n + C + 1) ∧ Slim (D.edited.step c p q).2.2 :=
  ⟨⟨PDisk.step_ok h.edited.ok _ _ _, h.edited.good.step _ _ _, h.edited.light.step _ _ _⟩, h.slim.edited.step _ _ _⟩
theorem costE_mem {es : List EditP} {e : EditP} (h : e ∈ es) : e.value.length ≤ costE es := by
  induction es with
  | nil => cases h
  | cons x es ih =>
    unfold costE at ih ⊢; rw [List.map_cons, List.sum_cons]
    rcases List.mem_cons.1 h with rfl | h
    · omega
    have := ih h; omega
theorem Ref0.val (h : Ref0 C D n) {e : EditP} (he : e ∈ D.edits) : e.value.length ≤ 40000000 := by
  have := costE_mem he; have := h.rd.edc.1; have := h.le; omega
theorem RdC.of {E : PDisk} (h : RdC C D) (he : E.edits = D.edits ∨ E.edits = []) : RdC C E := by
  refine ⟨h.edc.of he, ?_⟩
  rcases he with e | e
  · rw [e]; exact h.fit
  rw [e]; intro x hx; cases hx
theorem rdC_ask (h : RdC C D) (c : CallP) : RdC C (askE D c).2 := by
  rcases askE_eq D c with e | e | e <;> rw [e]
  · refine h.of ?_
    rw [← edited_edits D]; exact askD_edits _ c
  · exact h.of (.inr rfl)
  exact h
end
theorem step_fates (D : PDisk) (c p q : ByteArray) : (D.step c p q).2.2.fates = D.fates := by
  unfold PDisk.step
  split
  · rfl
  dsimp only
  split
  · rfl
  split
  · rfl
  split <;> rfl
theorem call_fates (D : PDisk) (c p q : ByteArray) (k : PDisk → Bool → Int × PDisk) (hk : ∀ E full, (k E full).2.fates = E.fates) : (D.call c p q k).2.fates = D.fates := by
  have h := step_fates D c p q; unfold PDisk.call; generalize D.step c p q = st at h; obtain ⟨full, e, E⟩ := st; dsimp only at h ⊢
  split
  · exact h
  exact (hk E full).trans h
theorem lay_fates (D : PDisk) (p : ByteArray) (n : Node) (full : Bool) (l : List (Bool × Int)) : (D.lay p n full l).2.fates = D.fates := by
  unfold PDisk.lay; dsimp only
  split <;> rfl
theorem write_fates (D : PDisk) (p data : ByteArray) (mode : Int) : (D.write p data mode).2.fates = D.fates := call_fates _ _ _ _ _ fun E full => by
  unfold PDisk.write_
  cases E.at_ p with
  | none => exact lay_fates _ _ _ _ _
  | some o => dsimp only; split <;> rfl
theorem sync_fates (D : PDisk) (p : ByteArray) : (D.sync p).2.fates = D.fates := call_fates _ _ _ _ _ fun E full => by
  unfold PDisk.sync_; dsimp only
  split
  · rfl
  cases E.at_ p <;> rfl
theorem replace_fates (D : PDisk) (p q : ByteArray) : (D.replace p q).2.fates = D.fates := call_fates _ _ _ _ _ fun E full => by
  unfold PDisk.replace_; dsimp only
  split <;> rfl
theorem remove_fates (D : PDisk) (p : ByteArray) : (D.remove p).2.fates = D.fates := call_fates _ _ _ _ _ fun E full => by
  unfold PDisk.remove_; dsimp only
  split <;> rfl
theorem flush_fates (D : PDisk) : D.flush.2.fates = D.fates := call_fates _ _ _ _ _ fun _ _ => rfl
theorem get_fates (D : PDisk) (p : ByteArray) : (D.get p).2.fates = D.fates := by
  have h := step_fates D ⟨#[71, 101, 116]⟩ p ⟨#[]⟩; unfold PDisk.get; generalize D.step ⟨#[71, 101, 116]⟩ p ⟨#[]⟩ = st at h; obtain ⟨full, e, E⟩ := st; dsimp only at h ⊢
  split <;> exact h
theorem edited_fates (D : PDisk) : D.edited.fates = D.fates := by
  cases ho : D.off
  · obtain ⟨-, -, k3, -, -, -⟩ := edits_keep (D.trace.length : Int) D.edits D
    unfold PDisk.edited; rw [ho]; exact k3
  rw [edited_off ho]
structure FateIn (w : World) (a : Addr) (f : FateP) : Prop where
  at_ : w.cell? a = some (.int .i64 f.at_)
  what : w.cell? ⟨a.block, a.off + 1, none⟩ = some (.int .i64 f.what)
  keep : w.cell? ⟨a.block, a.off + 2, none⟩ = some (.int .i64 f.keep)
  torn : w.cell? ⟨a.block, a.off + 3, none⟩ = some (.int .i64 f.torn)
theorem FRow.get {w : World} {p : Option Addr} {fs : List FateP} (h : FRow w p fs) {k : Nat} {f : FateP} (hk : fs[k]? = some f) : ∃ a, p = some a ∧ a.block < w.heap.size ∧ FateIn w (a.add (k * 4)) f := by
  obtain ⟨a, rfl, hb, hc⟩ := h (fun e => by rw [e] at hk; simp at hk); have h0 := hc _ _ (fate_at fs k f hk 0 _ rfl); have h1 := hc _ _ (fate_at fs k f hk 1 _ rfl); have h2 := hc _ _ (fate_at fs k f hk 2 _ rfl); have h3 := hc _ _ (fate_at fs k f hk 3 _ rfl); rw [← Go.Deep.add_add] at h1 h2 h3; exact ⟨a, rfl, hb, h0, h1, h2, h3⟩
def FArg (w : World) (v : Value) (fs : List FateP) : Prop := ∃ p c, v = .slice p fs.length c ∧ FRow w p fs
def EArg (w : World) (v : Value) (es : List EditP) : Prop := ∃ p c, v = .slice p es.length c ∧ es.length ≤ maxLen ∧ ERow w p es
theorem FArg.off {w w' : World} {v : Value} {fs : List FateP} (h : FArg w v fs) (ho : Off [] w w') : FArg w' v fs := by
  obtain ⟨p, c, h1, h2⟩ := h; exact ⟨p, c, h1, h2.off ho⟩
theorem EArg.off {w w' : World} {v : Value} {es : List EditP} (h : EArg w v es) (ho : Off [] w w') : EArg w' v es := by
  obtain ⟨p, c, h1, h2, h3⟩ := h; exact ⟨p, c, h1, h2, h3.off ho⟩
def ArgsX (A : RArg) (w : World) (p : Nat) (L : List Nat) (D : PDisk) : Prop := ∀ W, Off (p :: L) w W → FArg W A.fv D.fates ∧ EArg W A.ev D.edits
theorem ArgsX.off {A : RArg} {w w' : World} {p : Nat} {L : List Nat} {D : PDisk} (h : ArgsX A w p L D) (ho : Off [] w w') : ArgsX A w' p L D := fun W hW =>
  h W ((ho.mono (fun _ _ h => by cases h)).trans hW (fun _ _ h => h))
end
section
open Go.RowKit Go.Op
set_option maxRecDepth 100000 in
set_option maxHeartbeats 4000000 in
theorem rtright_any (p : Option Addr) (v : List Node) (n cap : Nat) (w : World) (hR : Row w p v) (hn : v.length = n) (hcap : n ≤ cap) (_ : cap ≤ maxLen) (hbg : n ≤ 1099511627776) (hF : Fits1 v) :
    Calls Tryz.prog 173 #[.slice p n cap] w fun e w' => e = .returned (.bool (okVal v)) ∧ Off [] w w' := by
  cases v with
  | nil =>
    obtain rfl : 0 = n := hn
    clear hR hF
    go_enter Tryz.func173, Tryz.ntmps173
    go_wp2_with fail
    go_ret
    exact ⟨rfl, Off.refl _ _⟩
  | cons x r =>
    have hpos : 0 < n := by rw [← hn]; simp
    have hn0 : ¬ n = 0 := by omega
    have hn0b : ((n : Int) == 0) = false := beq_eq_false_iff_ne.2 (by omega)
    have HV := Lib.hid (fun h : n ≤ 1000 => okVal_eq (x := x) (r := r) (by omega)); have HVB := Lib.hid (fun h : ¬ n ≤ 1000 => okVal_bad_len (v := x :: r) (by omega))
    have HVF := Lib.hid (fun h : (decide (x.p = []) && rightN x) = false => (show okVal (x :: r) = false by rw [show okVal (x :: r) = (decide ((x :: r).length ≤ 1000) && (decide (x.p = []) && (rightN x && (decide (r = []) || decide (x.kind = 2) && okTree r)))) from rfl, ← Bool.and_assoc (decide (x.p = [])), h]; simp)); obtain ⟨a, rfl, hna, hab⟩ := hR.head; have HR := Lib.hid hR.tail
    have HF := Lib.hid (show Fits1 r from fun y hy => hF y (List.mem_cons_of_mem _ hy)); have c0 := hna.path; have c1 := hna.kind; have c2 := hna.data; have c3 := hna.mode; have hxd := (hF x (by simp)).2; have hrn : r.length + 1 = n := by rw [← hn]; rfl
    have HN := Lib.hid hrn; clear hR hF hna hn hrn; have hE : x.path.toList = [] ↔ x.p = [] := by rw [toList_str]; rfl
    by_cases hp0 : x.p = []
    · have g := hE.2 hp0
      have g' : x.path.toList.isEmpty = true := by simp [g]
      have HP0 := Lib.hid hp0; clear hE hp0
      cases hr : rightN x
      · have HRT := Lib.hid hr
        clear hr
        go_enter Tryz.func173, Tryz.ntmps173
        go_wp2_with fail
        refine (rright_v x _ hxd false HRT.out).mono ?_
        rintro e w1 ⟨rfl, ho⟩
        go_wp2_with fail
        go_ret
        exact ⟨by rw [HVF.out (by rw [HRT.out]; simp)]; rfl, ho⟩
      have HRT := Lib.hid hr; clear hr
      by_cases hbig : n ≤ 1000
      case neg =>
        have hbig' : 1000 < n := by omega
        go_enter Tryz.func173, Tryz.ntmps173
        go_wp2_with fail
        refine (rright_v x _ hxd true HRT.out).mono ?_
        rintro e w1 ⟨rfl, ho⟩
        go_wp2_with fail
        go_ret
        exact ⟨by rw [HVB.out hbig]; rfl, ho⟩
      by_cases h1 : n = 1
      · have HR0 := Lib.hid (show r = [] from List.length_eq_zero_iff.1 (by have := HN.out; omega))
        go_enter Tryz.func173, Tryz.ntmps173
        go_wp2_with fail
        refine (rright_v x _ hxd true HRT.out).mono ?_
        rintro e w1 ⟨rfl, ho⟩; have d0 := (ho.cell (p := a) hab (by simp)).trans c0
        go_wp2_with fail
        go_ret
        exact ⟨by rw [HV.out (by omega), HRT.out, HP0.out, HR0.out]; simp, ho⟩
      have HR0 := Lib.hid (show ¬ r = [] from fun e => h1 (by rw [← HN.out, e]; rfl)); have hc1 : ¬ cap = 1 := by omega
      have h1i : ¬ (n : Int) = 1 := by omega
      have h1b : ((n : Int) == 1) = false := beq_eq_false_iff_ne.2 h1i
      by_cases hk2 : x.kind = 2
      · have HK := Lib.hid hk2
        clear hk2
        cases hok : okTree r
        · have HOK := Lib.hid hok
          clear hok
          go_enter Tryz.func173, Tryz.ntmps173
          go_wp2_with fail
          refine (rright_v x _ hxd true HRT.out).mono ?_
          rintro e w1 ⟨rfl, ho⟩; have d1 := (ho.cell (p := ⟨a.block, a.off + 1, none⟩) hab (by simp)).trans c1; rw [HK.out] at d1; clear c0 c1 c2 c3
          go_wp2_with fail
          refine (rcheck_v (some (a.add 4)) r (n - 1) (cap - 1) _ (HR.out.off ho) (by have := HN.out; omega) (by omega) HF.out 60 (chkV_bad HOK.out)).mono ?_
          rintro e w2 ⟨rfl, ho2⟩
          go_wp2_with fail
          go_ret
          exact ⟨by rw [HV.out (by omega), HRT.out, HOK.out, decide_eq_false HR0.out]; simp, ho.trans_nil ho2⟩
        have HOK := Lib.hid hok; clear hok
        go_enter Tryz.func173, Tryz.ntmps173
        go_wp2_with fail
        refine (rright_v x _ hxd true HRT.out).mono ?_
        rintro e w1 ⟨rfl, ho⟩; have d1 := (ho.cell (p := ⟨a.block, a.off + 1, none⟩) hab (by simp)).trans c1; rw [HK.out] at d1; clear c0 c1 c2 c3
        go_wp2_with fail
        refine (rcheck_v (some (a.add 4)) r (n - 1) (cap - 1) _ (HR.out.off ho) (by have := HN.out; omega) (by omega) HF.out 0 (chkV_ok HOK.out)).mono ?_
        rintro e w2 ⟨rfl, ho2⟩
        go_wp2_with fail
        go_ret
        exact ⟨by rw [HV.out (by omega), HRT.out, HOK.out, HP0.out, HK.out]; simp, ho.trans_nil ho2⟩
      have hkb : (x.kind == 2) = false := beq_eq_false_iff_ne.2 hk2
      go_enter Tryz.func173, Tryz.ntmps173
      go_wp2_with fail
      refine (rright_v x _ hxd true HRT.out).mono ?_
      rintro e w1 ⟨rfl, ho⟩; have d1 := (ho.cell (p := ⟨a.block, a.off + 1, none⟩) hab (by simp)).trans c1; clear c0 c1 c2 c3
      go_wp2_with fail
      go_ret
      exact ⟨by rw [HV.out (by omega), decide_eq_false hk2, decide_eq_false HR0.out]; simp, ho⟩
    have g : ¬ x.path.toList = [] := fun e => hp0 (hE.1 e)
    have g' : x.path.toList.isEmpty = false := by simpa using g
    go_enter Tryz.func173, Tryz.ntmps173
    go_wp2_with fail
    go_ret
    exact ⟨by rw [HVF.out (by rw [decide_eq_false hp0]; rfl)]; rfl, Off.refl _ _⟩
theorem cells_four_at {w : World} {g : Nat} {t : TypeId} {a b c d : Value} (h : Blk w g t #[a, b, c, d]) : ∀ j u, [a, b, c, d][j]? = some u → w.cell? ((⟨g, 0, none⟩ : Addr).add j) = some u := by
  intro j u hj
  match j, hj with
  | 0, hj => rw [addr_add, h.cell]; simpa using hj
  | 1, hj => rw [addr_add, h.cell]; simpa using hj
  | 2, hj => rw [addr_add, h.cell]; simpa using hj
  | 3, hj => rw [addr_add, h.cell]; simpa using hj
  | j + 4, hj => simp at hj
def PutAtI (t : List Node) (path : ByteArray) (v : List Node) (n i : Nat) (b : Bool) (X : List Node) : Prop :=
  (i ≤ n ∧ b = came t (str path) i ∧ X = outTo t path v i b) ∨ (i = n + 1 ∧ X = putOut t path v)
theorem outTo_len {t : List Node} {path : ByteArray} {v : List Node} {i : Nat} {b : Bool} (h1 : t.length ≤ 1000) (h2 : v.length ≤ 1000) : (outTo t path v i b).length ≤ 3000 := by
  unfold outTo; have a1 : (lower (t.take i) (str path)).length ≤ t.length := Nat.le_trans (List.length_filter_le _ _) (by rw [List.length_take]; omega)
  have a2 : (upper (t.take i) (str path)).length ≤ t.length := Nat.le_trans (List.length_filter_le _ _) (by rw [List.length_take]; omega)
  have a3 := moved_len path v; rw [List.length_append]
  split
  · rw [List.length_append]; omega
  simp; omega
theorem putOut_len {t : List Node} {path : ByteArray} {v : List Node} (h1 : t.length ≤ 1000) (h2 : v.length ≤ 1000) : (putOut t path v).length ≤ 3000 := by
  unfold putOut; have a1 : (lower t (str path)).length ≤ t.length := List.length_filter_le _ _
  have a2 : (upper t (str path)).length ≤ t.length := List.length_filter_le _ _
  have a3 := moved_len path v; rw [List.length_append, List.length_append]; omega
theorem PutAtI.len {t : List Node} {path : ByteArray} {v : List Node} {n i : Nat} {b : Bool} {X : List Node} (h : PutAtI t path v n i b X) (h1 : t.length ≤ 1000) (h2 : v.length ≤ 1000) : X.length ≤ 3000 := by
  rcases h with ⟨_, _, rfl⟩ | ⟨_, rfl⟩
  · exact outTo_len h1 h2
  exact putOut_len h1 h2
theorem PutAtI.end_ {t : List Node} {path : ByteArray} {v : List Node} {n i : Nat} {b : Bool} {X : List Node} (h : PutAtI t path v n i b X) (hi : ¬ i ≤ n) : X = putOut t path v := by
  rcases h with ⟨h1, _⟩ | ⟨_, h2⟩
  · exact absurd h1 hi
  exact h2
theorem PutAtI.next {t : List Node} {path : ByteArray} {v : List Node} {n i : Nat} {b : Bool} {X : List Node} {x : Node} (h : PutAtI t path v n i b X) (hl : t.length = n) (hs : Sorted t) (hp : okPath (str path) = true) (hx : t[i]? = some x) :
    PutAtI t path v n (i + 1) (b || decide (0 ≤ order x.p (str path))) ((X ++ if b = false ∧ 0 ≤ order x.p (str path) then moved path v else []) ++ if within x.p (str path) = true then [] else [x]) := by
  have hi := (List.getElem?_eq_some_iff.1 hx).1
  rcases h with ⟨h1, h2, h3⟩ | ⟨h1, _⟩
  · subst h2
    refine .inl ⟨by omega, (came_succ hx).symm, ?_⟩
    rw [← came_succ hx, outTo_step hs hp hx, h3]
  omega
theorem PutAtI.last {t : List Node} {path : ByteArray} {v : List Node} {n : Nat} {b : Bool} {X : List Node} (h : PutAtI t path v n n b X) (hl : t.length = n) : PutAtI t path v n (n + 1) true (X ++ if b = false then moved path v else []) := by
  rcases h with ⟨h1, h2, h3⟩ | ⟨h1, _⟩
  · subst h2
    refine .inr ⟨rfl, ?_⟩
    rw [h3, ← hl]; exact outTo_all
  omega
theorem rtright_v (p : Option Addr) (v : List Node) (n cap : Nat) (w : World) (hR : Row w p v) (hn : v.length = n) (hcap : n ≤ cap) (hcm : cap ≤ maxLen) (hbg : n ≤ 1099511627776) (hF : Fits1 v) (b : Bool) (hb : okVal v = b) :
    Calls Tryz.prog 173 #[.slice p n cap] w fun e w' => e = .returned (.bool b) ∧ Off [] w w' := hb ▸ rtright_any p v n cap w hR hn hcap hcm hbg hF
theorem rwithin_v (a b : ByteArray) (w : World) (ha : a.size ≤ 1048576) (hb : b.size ≤ 1048576) (v : Bool) (hv : within (str a) (str b) = v) :
    Calls Tryz.prog 112 #[.string a, .string b] w fun e w' => e = .returned (.bool v) ∧ Off [] w w' := hv ▸ rwithin_any a b w ha hb
theorem rorder_w (a b : ByteArray) (w : World) (ha : a.size ≤ 1048576) (hb : b.size ≤ 1048576) (c : Int) (hc : order (str a) (str b) = c) : Calls Tryz.prog 84 #[.string a, .string b] w fun e w' => e = .returned (.int .i64 c) ∧ Off [] w w' := hc ▸ rorder_any a b w ha hb
theorem bool_self (b : Bool) : (b || false) = b := by cases b <;> rfl
set_option maxRecDepth 100000 in
set_option maxHeartbeats 16000000 in
theorem rput_any (p q : Option Addr) (t v : List Node) (n m c d : Nat) (path : ByteArray) (w : World) (hR : Row w p t) (hV : Row w q v) (hn : t.length = n) (hm : v.length = m) (hdm : m ≤ d) (hdx : d ≤ maxLen) (hbn : n ≤ 1099511627776) (hbm : m ≤ 1099511627776) (hFT : Fits1 t) (hFV : Fits1 v) (hps : path.size ≤ 1048576) :
    Calls Tryz.prog 154 #[.slice p n c, .string path, .slice q m d] w (PutP (putR t path v) w) := by
  obtain ⟨i0, hi0, hz0, hz1, hz2⟩ := info_parts infoNode; have HN := Lib.hid hn; have HM := Lib.hid hm; have HR := Lib.hid hR; have HV := Lib.hid hV; have HFT := Lib.hid hFT; have HFV := Lib.hid hFV; clear hn hm hR hV hFT hFV
  cases hokT : okTree t
  · have E := Lib.hid (put_bad1 (t := t) (path := path) (v := v) (by rw [hokT]; rfl))
    have HO := Lib.hid hokT; clear hokT
    go_enter Tryz.func154, Tryz.ntmps154
    go_wp2_with fail
    refine (rcheck_v p t n c _ HR.out HN.out hbn HFT.out 60 (chkV_bad HO.out)).mono ?_
    rintro e w1 ⟨rfl, ho⟩
    go_wp2_with fail
    go_ret2
    rw [E.out]; exact PutP.bad ho
  have HOT := Lib.hid hokT; clear hokT
  cases hokV : okVal v
  · have E := Lib.hid (put_bad1 (t := t) (path := path) (v := v) (by rw [hokV, HOT.out]; rfl))
    have HO := Lib.hid hokV; clear hokV
    go_enter Tryz.func154, Tryz.ntmps154
    go_wp2_with fail
    refine (rcheck_v p t n c _ HR.out HN.out hbn HFT.out 0 (chkV_ok HOT.out)).mono ?_
    rintro e w1 ⟨rfl, ho⟩
    go_wp2_with fail
    refine (rtright_v q v m d _ (HV.out.off ho) HM.out hdm hdx hbm HFV.out false HO.out).mono ?_
    rintro e w2 ⟨rfl, ho2⟩; have ho := ho.trans_nil ho2; clear ho2
    go_wp2_with fail
    go_ret2
    rw [E.out]; exact PutP.bad ho
  have HOV := Lib.hid hokV; have HTV := Lib.hid (show (okTree t && okVal v) = true by rw [HOT.out, hokV]; rfl); clear hokV
  cases hokP : okPath (str path)
  · have E := Lib.hid (put_bad2 (t := t) (path := path) (v := v) HTV.out hokP)
    have HO := Lib.hid hokP; clear hokP
    go_enter Tryz.func154, Tryz.ntmps154
    go_wp2_with fail
    refine (rcheck_v p t n c _ HR.out HN.out hbn HFT.out 0 (chkV_ok HOT.out)).mono ?_
    rintro e w1 ⟨rfl, ho⟩
    go_wp2_with fail
    refine (rtright_v q v m d _ (HV.out.off ho) HM.out hdm hdx hbm HFV.out true HOV.out).mono ?_
    rintro e w2 ⟨rfl, ho2⟩; have ho := ho.trans_nil ho2; clear ho2
    go_wp2_with fail
    refine (rpath_v path _ hps false HO.out).mono ?_
    rintro e w3 ⟨rfl, ho2⟩; have ho := ho.trans_nil ho2; clear ho2
    go_wp2_with fail
    go_ret2
    rw [E.out]; exact PutP.bad ho
  have HOP := Lib.hid hokP; have hn1000 : n ≤ 1000 := by rw [← HN.out]; exact okTree_len HOT.out
  have hm1000 : m ≤ 1000 := by
    have h := HOV.out
    rcases Nat.lt_or_ge 1000 v.length with h1 | h1
    · rw [okVal_bad_len h1] at h; cases h
    rw [← HM.out]; exact h1
  have hps4 : path.size ≤ 400 := by rw [← str_size]; exact okPath_size hokP
  have HS := Lib.hid (okTree_sorted HOT.out); have HRD := Lib.hid (rdir_eq (p := parent (str path)) HS.out); clear hokP; have HPAR := Lib.hid (fun (W : World) => rparent_any path W hps)
  by_cases hm0 : m = 0
  · have hv0 : v = [] := List.length_eq_zero_iff.1 (by rw [HM.out]; exact hm0)
    have E := Lib.hid (put_rest (t := t) (path := path) (v := v) HTV.out HOP.out (by rw [hv0]; rfl)); clear hv0; have hmzd : decide (0 < m) = false := decide_eq_false (by omega)
    have hmzi : decide ((0 : Int) < (m : Int)) = false := decide_eq_false (by omega)
    have HM0 := Lib.hid hm0; clear hm0
    go_enter Tryz.func154, Tryz.ntmps154
    go_wp2_with fail
    refine (rcheck_v p t n c _ HR.out HN.out hbn HFT.out 0 (chkV_ok HOT.out)).mono ?_
    rintro e w1 ⟨rfl, ho⟩
    go_wp2_with fail
    refine (rtright_v q v m d _ (HV.out.off ho) HM.out hdm hdx hbm HFV.out true HOV.out).mono ?_
    rintro e w2 ⟨rfl, ho2⟩; have ho := ho.trans_nil ho2; clear ho2
    go_wp2_with fail
    refine (rpath_v path _ hps true HOP.out).mono ?_
    rintro e w3 ⟨rfl, ho2⟩; have ho := ho.trans_nil ho2; clear ho2
    go_wp2_with fail
    go_loopw [10, 9, 8] (fun x y z wr => ∃ (i : Nat) (b : Bool) (X : List Node), x = .int .i64 i ∧ y = .bool b ∧ i ≤ n + 1 ∧ Hid (PutAtI t path v n i b X) ∧ X.length ≤ 3000 ∧ wr.ownsRow w.heap.size 30 4 z X.length (cellsOf X) ∧ Off [] w wr ∧ Hid ((b = false ∧ i ≤ n) ∨ AllTo path v v.length)) (fun x _ _ _ => n + 1 - (intOf x).toNat)
    case atStart => exact ⟨0, false, [], rfl, rfl, by omega, Lib.hid (.inl ⟨by omega, (came_zero _ _).symm, (outTo_zero _ _ _).symm⟩), by simp, ⟨rfl, .inl ⟨rfl, rfl⟩⟩, ho, Lib.hid (.inl ⟨rfl, by omega⟩)⟩
    case round =>
      clear ho; obtain ⟨i, b, X, rfl, rfl, hi, hat, hXl, hown, hof, hal⟩ := hrel
      by_cases hin : i ≤ n
      · cases b
        · by_cases hlt : i < n
          · have hil : i < t.length := by rw [HN.out]; exact hlt
            obtain ⟨a, rfl, hna, hab⟩ := HR.out.get i hil; have hxi := List.getElem?_eq_getElem hil; have hxs := (HFT.out _ (List.getElem_mem hil)).1; generalize t[i] = x at *; have HX := Lib.hid hxi; have HRX := Lib.hid (fun (W : World) (ho : Off [] w W) => hna.off ho (by rw [add_block]; exact hab)); clear hna hxi
            by_cases h0 : 0 ≤ order (str x.path) (str path)
            · have H0 := Lib.hid (show 0 ≤ order x.p (str path) from h0)
              have c0 := (HRX.out _ hof).path; obtain ⟨c6, hcq⟩ : ∃ c, order (str x.path) (str path) = c := ⟨_, rfl⟩
              have HCQ := Lib.hid hcq; have hc6 : 0 ≤ c6 := by rw [← hcq]; exact h0
              have hc6d : decide (0 ≤ c6) = true := decide_eq_true hc6
              clear h0; clear hcq
              go_wp2_with fail
              refine (rorder_w x.path path _ hxs hps c6 HCQ.out).mono ?_
              rintro e w6 ⟨rfl, ho6⟩; have hof6 := hof.trans_nil ho6; have hown6 := own_keep hown ho6; clear c0 ho6 hown hof
              go_wp2_with fail
              go_loopw [11, 8] (fun x z wr => ∃ k : Nat, x = .int .i64 k ∧ k ≤ m ∧ wr.ownsRow w.heap.size 30 4 z (X.length + k) (cellsOf (X ++ (moved path v).take k)) ∧ Off [] w wr ∧ Hid (AllTo path v k)) (fun x _ _ => m - (intOf x).toNat)
              case atStart => exact ⟨0, rfl, by omega, by simpa using hown6, hof6, Lib.hid (fun i x hi _ => by omega)⟩
              case round =>
                clear hown6 hof6; obtain ⟨k, rfl, hk, hownk, hofk, hall⟩ := hrel
                by_cases hkm : k < m
                · exact absurd hkm (by have := HM0.out; omega)
                obtain rfl : k = m := by omega
                have hownX := hownk; have hall' := hall; rw [List.take_of_length_le (by rw [moved_len, HM.out]; exact Nat.le_refl _)] at hownX; have hXl2 : (X ++ moved path v).length = X.length + k := by rw [List.length_append, moved_len, HM.out]
                rw [← hXl2] at hownX; clear hownk; have HALL := Lib.hid (show AllTo path v v.length by rw [HM.out]; exact hall'.out)
                cases hw : within x.p (str path)
                · have HW := Lib.hid (show within (str x.path) (str path) = false from hw)
                  have HNXT := Lib.hid (show PutAtI t path v n (i + 1) true (X ++ moved path v ++ [x]) from by simpa [hw, H0.out] using hat.out.next HN.out HS.out HOP.out HX.out); have hXm : (X ++ moved path v ++ [x]).length ≤ 3000 := HNXT.out.len (by rw [HN.out]; exact hn1000) (by rw [HM.out]; exact hm1000)
                  clear hw hat; have c0 := (HRX.out _ hofk).path
                  go_wp2_with fail
                  refine (rwithin_v x.path path _ hxs hps false HW.out).mono ?_
                  rintro e w8 ⟨rfl, ho8⟩; have hoff8 := hofk.trans_nil ho8; have hown8 := own_keep hownX ho8; clear c0 ho8 hownX hofk; have e0 := (HRX.out _ hoff8).path; have e1 := (HRX.out _ hoff8).kind; have e2 := (HRX.out _ hoff8).data; have e3 := (HRX.out _ hoff8).mode
                  go_wp2_with (at_builtin; refine wpList_append_own _ rfl _ _ 31 rfl w.heap.size 30 i0 node0.val 4 48 Tryz.underlying31 hi0 hz0 hz1 hz2 rfl (by decide) _ _ _ rfl (hown8.alloc _) ⟨w8.heap.size, 0, none⟩ 1 1 [_, _, _, _] rfl rfl (cells_four_at (Blk.new w8 _ _)) (by simp [Value.oneCell']) (by unfold maxLen; omega) (by omega) (by have := hoff8.size; simp; omega) ?_; intro v' W6 hown' hgrow _)
                  refine ⟨⟨i + 1, true, X ++ moved path v ++ [x], by congr 1, rfl, by omega, HNXT, hXm, ?_, own_grown (hoff8.alloc _) (hown8.alloc _) hgrow, Lib.hid (.inr HALL.out)⟩, by simp only [intOf]; omega⟩
                  rw [cellsOf_append, List.length_append]; exact hown'
                have HW := Lib.hid (show within (str x.path) (str path) = true from hw); have HNXT := Lib.hid (show PutAtI t path v n (i + 1) true (X ++ moved path v) from by simpa [hw, H0.out] using hat.out.next HN.out HS.out HOP.out HX.out); have hXm : (X ++ moved path v).length ≤ 3000 := HNXT.out.len (by rw [HN.out]; exact hn1000) (by rw [HM.out]; exact hm1000)
                clear hw hat; have c0 := (HRX.out _ hofk).path
                go_wp2_with fail
                refine (rwithin_v x.path path _ hxs hps true HW.out).mono ?_
                rintro e w8 ⟨rfl, ho8⟩; have hoff8 := hofk.trans_nil ho8; have hown8 := own_keep hownX ho8; clear c0 ho8 hownX hofk
                go_wp2_with fail
                refine ⟨⟨i + 1, true, X ++ moved path v, by congr 1, rfl, by omega, HNXT, hXm, hown8, hoff8, Lib.hid (.inr HALL.out)⟩, by simp only [intOf]; omega⟩
            have hneg : order x.p (str path) < 0 := by have h0' : ¬ 0 ≤ order x.p (str path) := h0; omega
            have H0 := Lib.hid hneg; have hw : within x.p (str path) = false := by
              cases hw : within x.p (str path)
              · rfl
              exact absurd (within_order HOP.out hw) h0
            clear hneg; have c0 := (HRX.out _ hof).path; obtain ⟨c6, hcq⟩ : ∃ c, order (str x.path) (str path) = c := ⟨_, rfl⟩
            have HCQ := Lib.hid hcq; have hc6 : ¬ 0 ≤ c6 := by rw [← hcq]; exact h0
            have hc6' : c6 < 0 := by omega
            have hc6d : decide (0 ≤ c6) = false := decide_eq_false hc6
            clear h0; clear hcq
            go_wp2_with fail
            refine (rorder_w x.path path _ hxs hps c6 HCQ.out).mono ?_
            rintro e w6 ⟨rfl, ho6⟩; have hof6 := hof.trans_nil ho6; have hown6 := own_keep hown ho6; clear c0 ho6 hown hof; have HW := Lib.hid (show within (str x.path) (str path) = false from hw); have HNXT := Lib.hid (show PutAtI t path v n (i + 1) false (X ++ [x]) from by simpa [hw, eq_false (Int.not_le.mpr H0.out)] using hat.out.next HN.out HS.out HOP.out HX.out)
            have hXm : (X ++ [x]).length ≤ 3000 := HNXT.out.len (by rw [HN.out]; exact hn1000) (by rw [HM.out]; exact hm1000)
            clear hw hat; have c0 := (HRX.out _ hof6).path
            go_wp2_with fail
            refine (rwithin_v x.path path _ hxs hps false HW.out).mono ?_
            rintro e w8 ⟨rfl, ho8⟩; have hoff8 := hof6.trans_nil ho8; have hown8 := own_keep hown6 ho8; clear c0 ho8 hown6 hof6; have e0 := (HRX.out _ hoff8).path; have e1 := (HRX.out _ hoff8).kind; have e2 := (HRX.out _ hoff8).data; have e3 := (HRX.out _ hoff8).mode
            go_wp2_with (at_builtin; refine wpList_append_own _ rfl _ _ 31 rfl w.heap.size 30 i0 node0.val 4 48 Tryz.underlying31 hi0 hz0 hz1 hz2 rfl (by decide) _ _ _ rfl (hown8.alloc _) ⟨w8.heap.size, 0, none⟩ 1 1 [_, _, _, _] rfl rfl (cells_four_at (Blk.new w8 _ _)) (by simp [Value.oneCell']) (by unfold maxLen; omega) (by omega) (by have := hoff8.size; simp; omega) ?_; intro v' W6 hown' hgrow _)
            refine ⟨⟨i + 1, false, X ++ [x], by congr 1, rfl, by omega, HNXT, hXm, ?_, own_grown (hoff8.alloc _) (hown8.alloc _) hgrow, Lib.hid (.inl ⟨rfl, by omega⟩)⟩, by simp only [intOf]; omega⟩
            rw [cellsOf_append, List.length_append]; exact hown'
          obtain rfl : i = n := by omega
          go_wp2_with fail
          go_loopw [11, 8] (fun x z wr => ∃ k : Nat, x = .int .i64 k ∧ k ≤ m ∧ wr.ownsRow w.heap.size 30 4 z (X.length + k) (cellsOf (X ++ (moved path v).take k)) ∧ Off [] w wr ∧ Hid (AllTo path v k)) (fun x _ _ => m - (intOf x).toNat)
          case atStart => exact ⟨0, rfl, by omega, by simpa using hown, hof, Lib.hid (fun i x hi _ => by omega)⟩
          case round =>
            clear hown hof; obtain ⟨k, rfl, hk, hownk, hofk, hall⟩ := hrel
            by_cases hkm : k < m
            · exact absurd hkm (by have := HM0.out; omega)
            obtain rfl : k = m := by omega
            have hownX := hownk; have hall' := hall; rw [List.take_of_length_le (by rw [moved_len, HM.out]; exact Nat.le_refl _)] at hownX; have hXl2 : (X ++ moved path v).length = X.length + k := by rw [List.length_append, moved_len, HM.out]
            rw [← hXl2] at hownX; clear hownk; have HNXT := Lib.hid (show PutAtI t path v i (i + 1) true (X ++ moved path v) from by simpa using hat.out.last HN.out); have HALL := Lib.hid (show AllTo path v v.length by rw [HM.out]; exact hall'.out); have hXm : (X ++ moved path v).length ≤ 3000 := HNXT.out.len (by rw [HN.out]; exact hn1000) (by rw [HM.out]; exact hm1000)
            clear hat
            go_wp2_with fail
            refine ⟨⟨i + 1, true, X ++ moved path v, by congr 1, rfl, by omega, HNXT, hXm, hownX, hofk, Lib.hid (.inr HALL.out)⟩, by simp only [intOf]; omega⟩
        have HALL := Lib.hid (hal.out.resolve_left (by simp))
        by_cases hlt : i < n
        · have hil : i < t.length := by rw [HN.out]; exact hlt
          obtain ⟨a, rfl, hna, hab⟩ := HR.out.get i hil; have hxi := List.getElem?_eq_getElem hil; have hxs := (HFT.out _ (List.getElem_mem hil)).1; generalize t[i] = x at *; have HX := Lib.hid hxi; have HRX := Lib.hid (fun (W : World) (ho : Off [] w W) => hna.off ho (by rw [add_block]; exact hab)); clear hna hxi
          cases hw : within x.p (str path)
          · have HW := Lib.hid (show within (str x.path) (str path) = false from hw)
            have HNXT := Lib.hid (show PutAtI t path v n (i + 1) true (X ++ [x]) from by simpa [hw, bool_self] using hat.out.next HN.out HS.out HOP.out HX.out); have hXm : (X ++ [x]).length ≤ 3000 := HNXT.out.len (by rw [HN.out]; exact hn1000) (by rw [HM.out]; exact hm1000)
            clear hw hat; have c0 := (HRX.out _ hof).path
            go_wp2_with fail
            refine (rwithin_v x.path path _ hxs hps false HW.out).mono ?_
            rintro e w8 ⟨rfl, ho8⟩; have hoff8 := hof.trans_nil ho8; have hown8 := own_keep hown ho8; clear c0 ho8 hown hof; have e0 := (HRX.out _ hoff8).path; have e1 := (HRX.out _ hoff8).kind; have e2 := (HRX.out _ hoff8).data; have e3 := (HRX.out _ hoff8).mode
            go_wp2_with (at_builtin; refine wpList_append_own _ rfl _ _ 31 rfl w.heap.size 30 i0 node0.val 4 48 Tryz.underlying31 hi0 hz0 hz1 hz2 rfl (by decide) _ _ _ rfl (hown8.alloc _) ⟨w8.heap.size, 0, none⟩ 1 1 [_, _, _, _] rfl rfl (cells_four_at (Blk.new w8 _ _)) (by simp [Value.oneCell']) (by unfold maxLen; omega) (by omega) (by have := hoff8.size; simp; omega) ?_; intro v' W6 hown' hgrow _)
            refine ⟨⟨i + 1, true, X ++ [x], by congr 1, rfl, by omega, HNXT, hXm, ?_, own_grown (hoff8.alloc _) (hown8.alloc _) hgrow, Lib.hid (.inr HALL.out)⟩, by simp only [intOf]; omega⟩
            rw [cellsOf_append, List.length_append]; exact hown'
          have HW := Lib.hid (show within (str x.path) (str path) = true from hw); have HNXT := Lib.hid (show PutAtI t path v n (i + 1) true (X) from by simpa [hw, bool_self] using hat.out.next HN.out HS.out HOP.out HX.out); have hXm : (X).length ≤ 3000 := HNXT.out.len (by rw [HN.out]; exact hn1000) (by rw [HM.out]; exact hm1000)
          clear hw hat; have c0 := (HRX.out _ hof).path
          go_wp2_with fail
          refine (rwithin_v x.path path _ hxs hps true HW.out).mono ?_
          rintro e w8 ⟨rfl, ho8⟩; have hoff8 := hof.trans_nil ho8; have hown8 := own_keep hown ho8; clear c0 ho8 hown hof
          go_wp2_with fail
          refine ⟨⟨i + 1, true, X, by congr 1, rfl, by omega, HNXT, hXm, hown8, hoff8, Lib.hid (.inr HALL.out)⟩, by simp only [intOf]; omega⟩
        obtain rfl : i = n := by omega
        have HNXT := Lib.hid (show PutAtI t path v i (i + 1) true X from by simpa using hat.out.last HN.out)
        go_wp2_with fail
        refine ⟨⟨i + 1, true, X, by congr 1, rfl, by omega, HNXT, hXl, hown, hof, Lib.hid (.inr HALL.out)⟩, by simp only [intOf]; omega⟩
      have hin' : n < i := by omega
      have HX := Lib.hid (hat.out.end_ hin); have HALL := Lib.hid (hal.out.resolve_left (fun h => hin h.2)); have HOWN := Lib.hid hown; obtain ⟨pz, cz, rfl, -, hcz, -, -⟩ := own_row hown; clear hown
      by_cases hbig : X.length ≤ 1000
      · go_wp2_with fail
        go_ret2
        rw [E.out, putC_len HALL.out, ← HX.out, if_pos hbig]; exact ⟨_, rfl, HOWN.out, hof⟩
      go_wp2_with fail
      go_ret2
      rw [E.out, putC_len HALL.out, ← HX.out, if_neg hbig]; exact PutP.bad hof
  have hmp : 0 < m := by omega
  have hve : v.isEmpty = false := by
    cases v with
    | nil => exact absurd HM.out.symm hm0
    | cons _ _ => rfl
  have HVE := Lib.hid hve; clear hve
  cases hd : isDir t (parent (str path))
  · have E := Lib.hid (put_bad3 (t := t) (path := path) (v := v) HTV.out HOP.out (by rw [hd, HVE.out]; rfl))
    have HD := Lib.hid (show rdir t (str (bs (parent (str path)))) = false by rw [str_bs, HRD.out, hd]); clear hd
    go_enter Tryz.func154, Tryz.ntmps154
    go_wp2_with fail
    refine (rcheck_v p t n c _ HR.out HN.out hbn HFT.out 0 (chkV_ok HOT.out)).mono ?_
    rintro e w1 ⟨rfl, ho⟩
    go_wp2_with fail
    refine (rtright_v q v m d _ (HV.out.off ho) HM.out hdm hdx hbm HFV.out true HOV.out).mono ?_
    rintro e w2 ⟨rfl, ho2⟩; have ho := ho.trans_nil ho2; clear ho2
    go_wp2_with fail
    refine (rpath_v path _ hps true HOP.out).mono ?_
    rintro e w3 ⟨rfl, ho2⟩; have ho := ho.trans_nil ho2; clear ho2
    go_wp2_with fail
    refine (HPAR.out _).mono ?_
    rintro e w4 ⟨rfl, ho2⟩; have ho := ho.trans_nil ho2; clear ho2
    go_wp2_with fail
    refine (rdir_v p t n c _ _ (HR.out.off ho) HN.out hbn false HD.out).mono ?_
    rintro e w5 ⟨rfl, ho2⟩; have ho := ho.trans_nil ho2; clear ho2
    go_wp2_with fail
    go_ret2
    rw [E.out]; exact PutP.bad ho
  have E := Lib.hid (put_rest (t := t) (path := path) (v := v) HTV.out HOP.out (by rw [hd]; simp)); have HD := Lib.hid (show rdir t (str (bs (parent (str path)))) = true by rw [str_bs, HRD.out, hd]); clear hd
  go_enter Tryz.func154, Tryz.ntmps154
  go_wp2_with fail
  refine (rcheck_v p t n c _ HR.out HN.out hbn HFT.out 0 (chkV_ok HOT.out)).mono ?_
  rintro e w1 ⟨rfl, ho⟩
  go_wp2_with fail
  refine (rtright_v q v m d _ (HV.out.off ho) HM.out hdm hdx hbm HFV.out true HOV.out).mono ?_
  rintro e w2 ⟨rfl, ho2⟩; have ho := ho.trans_nil ho2; clear ho2
  go_wp2_with fail
  refine (rpath_v path _ hps true HOP.out).mono ?_
  rintro e w3 ⟨rfl, ho2⟩; have ho := ho.trans_nil ho2; clear ho2
  go_wp2_with fail
  refine (HPAR.out _).mono ?_
  rintro e w4 ⟨rfl, ho2⟩; have ho := ho.trans_nil ho2; clear ho2
  go_wp2_with fail
  refine (rdir_v p t n c _ _ (HR.out.off ho) HN.out hbn true HD.out).mono ?_
  rintro e w5 ⟨rfl, ho2⟩; have ho := ho.trans_nil ho2; clear ho2
  go_wp2_with fail
  go_loopw [10, 9, 8] (fun x y z wr => ∃ (i : Nat) (b : Bool) (X : List Node), x = .int .i64 i ∧ y = .bool b ∧ i ≤ n + 1 ∧ Hid (PutAtI t path v n i b X) ∧ X.length ≤ 3000 ∧ wr.ownsRow w.heap.size 30 4 z X.length (cellsOf X) ∧ Off [] w wr ∧ Hid ((b = false ∧ i ≤ n) ∨ AllTo path v v.length)) (fun x _ _ _ => n + 1 - (intOf x).toNat)
  case atStart => exact ⟨0, false, [], rfl, rfl, by omega, Lib.hid (.inl ⟨by omega, (came_zero _ _).symm, (outTo_zero _ _ _).symm⟩), by simp, ⟨rfl, .inl ⟨rfl, rfl⟩⟩, ho, Lib.hid (.inl ⟨rfl, by omega⟩)⟩
  case round =>
    clear ho; obtain ⟨i, b, X, rfl, rfl, hi, hat, hXl, hown, hof, hal⟩ := hrel
    by_cases hin : i ≤ n
    · cases b
      · by_cases hlt : i < n
        · have hil : i < t.length := by rw [HN.out]; exact hlt
          obtain ⟨a, rfl, hna, hab⟩ := HR.out.get i hil; have hxi := List.getElem?_eq_getElem hil; have hxs := (HFT.out _ (List.getElem_mem hil)).1; generalize t[i] = x at *; have HX := Lib.hid hxi; have HRX := Lib.hid (fun (W : World) (ho : Off [] w W) => hna.off ho (by rw [add_block]; exact hab)); clear hna hxi
          by_cases h0 : 0 ≤ order (str x.path) (str path)
          · have H0 := Lib.hid (show 0 ≤ order x.p (str path) from h0)
            have c0 := (HRX.out _ hof).path; obtain ⟨c6, hcq⟩ : ∃ c, order (str x.path) (str path) = c := ⟨_, rfl⟩
            have HCQ := Lib.hid hcq; have hc6 : 0 ≤ c6 := by rw [← hcq]; exact h0
            have hc6d : decide (0 ≤ c6) = true := decide_eq_true hc6
            clear h0; clear hcq
            go_wp2_with fail
            refine (rorder_w x.path path _ hxs hps c6 HCQ.out).mono ?_
            rintro e w6 ⟨rfl, ho6⟩; have hof6 := hof.trans_nil ho6; have hown6 := own_keep hown ho6; clear c0 ho6 hown hof
            go_wp2_with fail
            go_loopw [11, 8] (fun x z wr => ∃ k : Nat, x = .int .i64 k ∧ k ≤ m ∧ wr.ownsRow w.heap.size 30 4 z (X.length + k) (cellsOf (X ++ (moved path v).take k)) ∧ Off [] w wr ∧ Hid (AllTo path v k)) (fun x _ _ => m - (intOf x).toNat)
            case atStart => exact ⟨0, rfl, by omega, by simpa using hown6, hof6, Lib.hid (fun i x hi _ => by omega)⟩
            case round =>
              clear hown6 hof6; obtain ⟨k, rfl, hk, hownk, hofk, hall⟩ := hrel
              by_cases hkm : k < m
              · have hkl : k < v.length := by rw [HM.out]; exact hkm
                obtain ⟨av, rfl, hna, hab⟩ := (HV.out.off hofk).get k hkl; have hxk := List.getElem?_eq_getElem hkl; have hysz := okVal_small HOV.out (List.getElem_mem hkl); generalize v[k] = y at *; have HXK := Lib.hid hxk; have c0 := hna.path; have c1 := hna.kind; have c2 := hna.data; have c3 := hna.mode; clear hna hxk
                by_cases hk0 : k = 0
                · subst hk0
                  have c0 : wr.cell? av = some (.string y.path) := c0
                  have c1 : wr.cell? ⟨av.block, av.off + 1, none⟩ = some (.int .i64 y.kind) := c1
                  have c2 : wr.cell? ⟨av.block, av.off + 2, none⟩ = some (.string y.data) := c2
                  have c3 : wr.cell? ⟨av.block, av.off + 3, none⟩ = some (.int .i64 y.mode) := c3
                  have hnp : newPath path 0 y.path = path := by rfl
                  have HNP := Lib.hid hnp; clear hnp; have hb1 := Blk.new wr 30 #[.string path, .int .i64 y.kind, .string y.data, .int .i64 y.mode]; have ho1 : Off [] wr (wr.alloc (.cells #[.string path, .int .i64 y.kind, .string y.data, .int .i64 y.mode] 30)) := (Off.refl _ wr).alloc _
                  have HB1 := Lib.hid hb1; have HO1 := Lib.hid ho1; clear hb1 ho1
                  cases hpk : okPath (str (newPath path 0 y.path))
                  · have HPB := Lib.hid (putC_bad (t := t) HXK.out hpk)
                    have HPK := Lib.hid (show okPath (str path) = false by rw [← HNP.out]; exact hpk); clear hpk
                    go_wp2_with fail
                    refine (rpath_v path _ (by omega) false HPK.out).mono ?_
                    rintro e w7 ⟨rfl, ho7⟩; have hoff7 := (hofk.trans_nil HO1.out).trans_nil ho7; clear ho7
                    go_wp2_with fail
                    go_ret2
                    rw [E.out, HPB.out]; exact PutP.bad hoff7
                  have HNX := Lib.hid (hall.out.succ HXK.out hpk); have HPK := Lib.hid (show okPath (str path) = true by rw [← HNP.out]; exact hpk); clear hpk
                  go_wp2_with fail
                  refine (rpath_v path _ (by omega) true HPK.out).mono ?_
                  rintro e w7 ⟨rfl, ho7⟩; have hoff7 := (hofk.trans_nil HO1.out).trans_nil ho7; have hown7 := own_keep hownk (HO1.out.trans_nil ho7); have hb7 : Blk w7 wr.heap.size 30 #[.string path, .int .i64 y.kind, .string y.data, .int .i64 y.mode] := HB1.out.off ho7 (by simp)
                  have hc7 := hb7.cell; have hl7 := hb7.lt; clear ho7 hb7 hownk hofk c0 c1 c2 c3
                  go_wp2_with (at_builtin; refine wpList_append_own _ rfl _ _ 31 rfl w.heap.size 30 i0 node0.val 4 48 Tryz.underlying31 hi0 hz0 hz1 hz2 rfl (by decide) _ _ _ rfl (hown7.alloc _) ⟨w7.heap.size, 0, none⟩ 1 1 [_, _, _, _] rfl rfl (cells_four_at (Blk.new w7 _ _)) (by simp [Value.oneCell']) (by unfold maxLen; omega) (by omega) (by have := hoff7.size; simp; omega) ?_; intro v' W6 hown' hgrow _)
                  refine ⟨⟨0 + 1, rfl, by omega, ?_, own_grown (hoff7.alloc _) (hown7.alloc _) hgrow, HNX⟩, by simp only [intOf]; omega⟩
                  have hmg := moved_get (path := path) HXK.out; rw [take_get hmg, ← List.append_assoc, cellsOf_append, ← Nat.add_assoc, HNP.out]; exact hown'
                have hkb : ((k : Int) == 0) = false := beq_eq_false_iff_ne.2 (by omega)
                have cA : (wr.alloc (.cells #[.string y.path, .int .i64 y.kind, .string y.data, .int .i64 y.mode] 30)).cell? (av.add (k * 4)) = some (.string y.path) := Lib.cell?_alloc_some _ c0
                have hnp : newPath path k y.path = path ++ (⟨#[47]⟩ : ByteArray) ++ y.path := by unfold newPath; rw [if_neg hk0]
                have HNP := Lib.hid hnp; clear hnp; have hb1 := Blk.new wr 30 #[.string (path ++ (⟨#[47]⟩ : ByteArray) ++ y.path), .int .i64 y.kind, .string y.data, .int .i64 y.mode]; have ho1 : Off [] wr (wr.alloc (.cells #[.string (path ++ (⟨#[47]⟩ : ByteArray) ++ y.path), .int .i64 y.kind, .string y.data, .int .i64 y.mode] 30)) := (Off.refl _ wr).alloc _
                have HB1 := Lib.hid hb1; have HO1 := Lib.hid ho1; clear hb1 ho1
                cases hpk : okPath (str (newPath path k y.path))
                · have HPB := Lib.hid (putC_bad (t := t) HXK.out hpk)
                  have HPK := Lib.hid (show okPath (str (path ++ (⟨#[47]⟩ : ByteArray) ++ y.path)) = false by rw [← HNP.out]; exact hpk); clear hpk; have a1 : ∀ wx : World, (Op.stringOp .add path ⟨#[47]⟩).run Tryz.prog wx = .ok (.string (path ++ ⟨#[47]⟩)) wx := fun wx => run_string_add_sum wx _ _ (by show path.size + 1 ≤ _; omega)
                  have a2 : ∀ wx : World, (Op.stringOp .add (path ++ ⟨#[47]⟩) y.path).run Tryz.prog wx = .ok (.string (path ++ ⟨#[47]⟩ ++ y.path)) wx := fun wx => run_string_add_sum wx _ _ (by rw [ByteArray.size_append]; show path.size + 1 + y.path.size ≤ _; omega)
                  go_wp2_with fail
                  refine (rpath_v (path ++ (⟨#[47]⟩ : ByteArray) ++ y.path) _ (by rw [ByteArray.size_append, ByteArray.size_append]; show path.size + 1 + y.path.size ≤ _; omega) false HPK.out).mono ?_
                  rintro e w7 ⟨rfl, ho7⟩; have hoff7 := (hofk.trans_nil HO1.out).trans_nil ho7; clear ho7
                  go_wp2_with fail
                  go_ret2
                  rw [E.out, HPB.out]; exact PutP.bad hoff7
                have HNX := Lib.hid (hall.out.succ HXK.out hpk); have HPK := Lib.hid (show okPath (str (path ++ (⟨#[47]⟩ : ByteArray) ++ y.path)) = true by rw [← HNP.out]; exact hpk); clear hpk; have a1 : ∀ wx : World, (Op.stringOp .add path ⟨#[47]⟩).run Tryz.prog wx = .ok (.string (path ++ ⟨#[47]⟩)) wx := fun wx => run_string_add_sum wx _ _ (by show path.size + 1 ≤ _; omega)
                have a2 : ∀ wx : World, (Op.stringOp .add (path ++ ⟨#[47]⟩) y.path).run Tryz.prog wx = .ok (.string (path ++ ⟨#[47]⟩ ++ y.path)) wx := fun wx => run_string_add_sum wx _ _ (by rw [ByteArray.size_append]; show path.size + 1 + y.path.size ≤ _; omega)
                go_wp2_with fail
                refine (rpath_v (path ++ (⟨#[47]⟩ : ByteArray) ++ y.path) _ (by rw [ByteArray.size_append, ByteArray.size_append]; show path.size + 1 + y.path.size ≤ _; omega) true HPK.out).mono ?_
                rintro e w7 ⟨rfl, ho7⟩; have hoff7 := (hofk.trans_nil HO1.out).trans_nil ho7; have hown7 := own_keep hownk (HO1.out.trans_nil ho7); have hb7 : Blk w7 wr.heap.size 30 #[.string (path ++ (⟨#[47]⟩ : ByteArray) ++ y.path), .int .i64 y.kind, .string y.data, .int .i64 y.mode] := HB1.out.off ho7 (by simp)
                have hc7 := hb7.cell; have hl7 := hb7.lt; clear ho7 hb7 hownk hofk c0 c1 c2 c3
                go_wp2_with (at_builtin; refine wpList_append_own _ rfl _ _ 31 rfl w.heap.size 30 i0 node0.val 4 48 Tryz.underlying31 hi0 hz0 hz1 hz2 rfl (by decide) _ _ _ rfl (hown7.alloc _) ⟨w7.heap.size, 0, none⟩ 1 1 [_, _, _, _] rfl rfl (cells_four_at (Blk.new w7 _ _)) (by simp [Value.oneCell']) (by unfold maxLen; omega) (by omega) (by have := hoff7.size; simp; omega) ?_; intro v' W6 hown' hgrow _)
                refine ⟨⟨k + 1, by congr 1, by omega, ?_, own_grown (hoff7.alloc _) (hown7.alloc _) hgrow, HNX⟩, by simp only [intOf]; omega⟩
                have hmg := moved_get (path := path) HXK.out; rw [take_get hmg, ← List.append_assoc, cellsOf_append, ← Nat.add_assoc, HNP.out]; exact hown'
              obtain rfl : k = m := by omega
              have hownX := hownk; have hall' := hall; rw [List.take_of_length_le (by rw [moved_len, HM.out]; exact Nat.le_refl _)] at hownX; have hXl2 : (X ++ moved path v).length = X.length + k := by rw [List.length_append, moved_len, HM.out]
              rw [← hXl2] at hownX; clear hownk; have HALL := Lib.hid (show AllTo path v v.length by rw [HM.out]; exact hall'.out)
              cases hw : within x.p (str path)
              · have HW := Lib.hid (show within (str x.path) (str path) = false from hw)
                have HNXT := Lib.hid (show PutAtI t path v n (i + 1) true (X ++ moved path v ++ [x]) from by simpa [hw, H0.out] using hat.out.next HN.out HS.out HOP.out HX.out); have hXm : (X ++ moved path v ++ [x]).length ≤ 3000 := HNXT.out.len (by rw [HN.out]; exact hn1000) (by rw [HM.out]; exact hm1000)
                clear hw hat; have c0 := (HRX.out _ hofk).path
                go_wp2_with fail
                refine (rwithin_v x.path path _ hxs hps false HW.out).mono ?_
                rintro e w8 ⟨rfl, ho8⟩; have hoff8 := hofk.trans_nil ho8; have hown8 := own_keep hownX ho8; clear c0 ho8 hownX hofk; have e0 := (HRX.out _ hoff8).path; have e1 := (HRX.out _ hoff8).kind; have e2 := (HRX.out _ hoff8).data; have e3 := (HRX.out _ hoff8).mode
                go_wp2_with (at_builtin; refine wpList_append_own _ rfl _ _ 31 rfl w.heap.size 30 i0 node0.val 4 48 Tryz.underlying31 hi0 hz0 hz1 hz2 rfl (by decide) _ _ _ rfl (hown8.alloc _) ⟨w8.heap.size, 0, none⟩ 1 1 [_, _, _, _] rfl rfl (cells_four_at (Blk.new w8 _ _)) (by simp [Value.oneCell']) (by unfold maxLen; omega) (by omega) (by have := hoff8.size; simp; omega) ?_; intro v' W6 hown' hgrow _)
                refine ⟨⟨i + 1, true, X ++ moved path v ++ [x], by congr 1, rfl, by omega, HNXT, hXm, ?_, own_grown (hoff8.alloc _) (hown8.alloc _) hgrow, Lib.hid (.inr HALL.out)⟩, by simp only [intOf]; omega⟩
                rw [cellsOf_append, List.length_append]; exact hown'
              have HW := Lib.hid (show within (str x.path) (str path) = true from hw); have HNXT := Lib.hid (show PutAtI t path v n (i + 1) true (X ++ moved path v) from by simpa [hw, H0.out] using hat.out.next HN.out HS.out HOP.out HX.out); have hXm : (X ++ moved path v).length ≤ 3000 := HNXT.out.len (by rw [HN.out]; exact hn1000) (by rw [HM.out]; exact hm1000)
              clear hw hat; have c0 := (HRX.out _ hofk).path
              go_wp2_with fail
              refine (rwithin_v x.path path _ hxs hps true HW.out).mono ?_
              rintro e w8 ⟨rfl, ho8⟩; have hoff8 := hofk.trans_nil ho8; have hown8 := own_keep hownX ho8; clear c0 ho8 hownX hofk
              go_wp2_with fail
              refine ⟨⟨i + 1, true, X ++ moved path v, by congr 1, rfl, by omega, HNXT, hXm, hown8, hoff8, Lib.hid (.inr HALL.out)⟩, by simp only [intOf]; omega⟩
          have hneg : order x.p (str path) < 0 := by have h0' : ¬ 0 ≤ order x.p (str path) := h0; omega
          have H0 := Lib.hid hneg; have hw : within x.p (str path) = false := by
            cases hw : within x.p (str path)
            · rfl
            exact absurd (within_order HOP.out hw) h0
          clear hneg; have c0 := (HRX.out _ hof).path; obtain ⟨c6, hcq⟩ : ∃ c, order (str x.path) (str path) = c := ⟨_, rfl⟩
          have HCQ := Lib.hid hcq; have hc6 : ¬ 0 ≤ c6 := by rw [← hcq]; exact h0
          have hc6' : c6 < 0 := by omega
          have hc6d : decide (0 ≤ c6) = false := decide_eq_false hc6
          clear h0; clear hcq
          go_wp2_with fail
          refine (rorder_w x.path path _ hxs hps c6 HCQ.out).mono ?_
          rintro e w6 ⟨rfl, ho6⟩; have hof6 := hof.trans_nil ho6; have hown6 := own_keep hown ho6; clear c0 ho6 hown hof; have HW := Lib.hid (show within (str x.path) (str path) = false from hw); have HNXT := Lib.hid (show PutAtI t path v n (i + 1) false (X ++ [x]) from by simpa [hw, eq_false (Int.not_le.mpr H0.out)] using hat.out.next HN.out HS.out HOP.out HX.out)
          have hXm : (X ++ [x]).length ≤ 3000 := HNXT.out.len (by rw [HN.out]; exact hn1000) (by rw [HM.out]; exact hm1000)
          clear hw hat; have c0 := (HRX.out _ hof6).path
          go_wp2_with fail
          refine (rwithin_v x.path path _ hxs hps false HW.out).mono ?_
          rintro e w8 ⟨rfl, ho8⟩; have hoff8 := hof6.trans_nil ho8; have hown8 := own_keep hown6 ho8; clear c0 ho8 hown6 hof6; have e0 := (HRX.out _ hoff8).path; have e1 := (HRX.out _ hoff8).kind; have e2 := (HRX.out _ hoff8).data; have e3 := (HRX.out _ hoff8).mode
          go_wp2_with (at_builtin; refine wpList_append_own _ rfl _ _ 31 rfl w.heap.size 30 i0 node0.val 4 48 Tryz.underlying31 hi0 hz0 hz1 hz2 rfl (by decide) _ _ _ rfl (hown8.alloc _) ⟨w8.heap.size, 0, none⟩ 1 1 [_, _, _, _] rfl rfl (cells_four_at (Blk.new w8 _ _)) (by simp [Value.oneCell']) (by unfold maxLen; omega) (by omega) (by have := hoff8.size; simp; omega) ?_; intro v' W6 hown' hgrow _)
          refine ⟨⟨i + 1, false, X ++ [x], by congr 1, rfl, by omega, HNXT, hXm, ?_, own_grown (hoff8.alloc _) (hown8.alloc _) hgrow, Lib.hid (.inl ⟨rfl, by omega⟩)⟩, by simp only [intOf]; omega⟩
          rw [cellsOf_append, List.length_append]; exact hown'
        obtain rfl : i = n := by omega
        go_wp2_with fail
        go_loopw [11, 8] (fun x z wr => ∃ k : Nat, x = .int .i64 k ∧ k ≤ m ∧ wr.ownsRow w.heap.size 30 4 z (X.length + k) (cellsOf (X ++ (moved path v).take k)) ∧ Off [] w wr ∧ Hid (AllTo path v k)) (fun x _ _ => m - (intOf x).toNat)
        case atStart => exact ⟨0, rfl, by omega, by simpa using hown, hof, Lib.hid (fun i x hi _ => by omega)⟩
        case round =>
          clear hown hof; obtain ⟨k, rfl, hk, hownk, hofk, hall⟩ := hrel
          by_cases hkm : k < m
          · have hkl : k < v.length := by rw [HM.out]; exact hkm
            obtain ⟨av, rfl, hna, hab⟩ := (HV.out.off hofk).get k hkl; have hxk := List.getElem?_eq_getElem hkl; have hysz := okVal_small HOV.out (List.getElem_mem hkl); generalize v[k] = y at *; have HXK := Lib.hid hxk; have c0 := hna.path; have c1 := hna.kind; have c2 := hna.data; have c3 := hna.mode; clear hna hxk
            by_cases hk0 : k = 0
            · subst hk0
              have c0 : wr.cell? av = some (.string y.path) := c0
              have c1 : wr.cell? ⟨av.block, av.off + 1, none⟩ = some (.int .i64 y.kind) := c1
              have c2 : wr.cell? ⟨av.block, av.off + 2, none⟩ = some (.string y.data) := c2
              have c3 : wr.cell? ⟨av.block, av.off + 3, none⟩ = some (.int .i64 y.mode) := c3
              have hnp : newPath path 0 y.path = path := by rfl
              have HNP := Lib.hid hnp; clear hnp; have hb1 := Blk.new wr 30 #[.string path, .int .i64 y.kind, .string y.data, .int .i64 y.mode]; have ho1 : Off [] wr (wr.alloc (.cells #[.string path, .int .i64 y.kind, .string y.data, .int .i64 y.mode] 30)) := (Off.refl _ wr).alloc _
              have HB1 := Lib.hid hb1; have HO1 := Lib.hid ho1; clear hb1 ho1
              cases hpk : okPath (str (newPath path 0 y.path))
              · have HPB := Lib.hid (putC_bad (t := t) HXK.out hpk)
                have HPK := Lib.hid (show okPath (str path) = false by rw [← HNP.out]; exact hpk); clear hpk
                go_wp2_with fail
                refine (rpath_v path _ (by omega) false HPK.out).mono ?_
                rintro e w7 ⟨rfl, ho7⟩; have hoff7 := (hofk.trans_nil HO1.out).trans_nil ho7; clear ho7
                go_wp2_with fail
                go_ret2
                rw [E.out, HPB.out]; exact PutP.bad hoff7
              have HNX := Lib.hid (hall.out.succ HXK.out hpk); have HPK := Lib.hid (show okPath (str path) = true by rw [← HNP.out]; exact hpk); clear hpk
              go_wp2_with fail
              refine (rpath_v path _ (by omega) true HPK.out).mono ?_
              rintro e w7 ⟨rfl, ho7⟩; have hoff7 := (hofk.trans_nil HO1.out).trans_nil ho7; have hown7 := own_keep hownk (HO1.out.trans_nil ho7); have hb7 : Blk w7 wr.heap.size 30 #[.string path, .int .i64 y.kind, .string y.data, .int .i64 y.mode] := HB1.out.off ho7 (by simp)
              have hc7 := hb7.cell; have hl7 := hb7.lt; clear ho7 hb7 hownk hofk c0 c1 c2 c3
              go_wp2_with (at_builtin; refine wpList_append_own _ rfl _ _ 31 rfl w.heap.size 30 i0 node0.val 4 48 Tryz.underlying31 hi0 hz0 hz1 hz2 rfl (by decide) _ _ _ rfl (hown7.alloc _) ⟨w7.heap.size, 0, none⟩ 1 1 [_, _, _, _] rfl rfl (cells_four_at (Blk.new w7 _ _)) (by simp [Value.oneCell']) (by unfold maxLen; omega) (by omega) (by have := hoff7.size; simp; omega) ?_; intro v' W6 hown' hgrow _)
              refine ⟨⟨0 + 1, rfl, by omega, ?_, own_grown (hoff7.alloc _) (hown7.alloc _) hgrow, HNX⟩, by simp only [intOf]; omega⟩
              have hmg := moved_get (path := path) HXK.out; rw [take_get hmg, ← List.append_assoc, cellsOf_append, ← Nat.add_assoc, HNP.out]; exact hown'
            have hkb : ((k : Int) == 0) = false := beq_eq_false_iff_ne.2 (by omega)
            have cA : (wr.alloc (.cells #[.string y.path, .int .i64 y.kind, .string y.data, .int .i64 y.mode] 30)).cell? (av.add (k * 4)) = some (.string y.path) := Lib.cell?_alloc_some _ c0
            have hnp : newPath path k y.path = path ++ (⟨#[47]⟩ : ByteArray) ++ y.path := by unfold newPath; rw [if_neg hk0]
            have HNP := Lib.hid hnp; clear hnp; have hb1 := Blk.new wr 30 #[.string (path ++ (⟨#[47]⟩ : ByteArray) ++ y.path), .int .i64 y.kind, .string y.data, .int .i64 y.mode]; have ho1 : Off [] wr (wr.alloc (.cells #[.string (path ++ (⟨#[47]⟩ : ByteArray) ++ y.path), .int .i64 y.kind, .string y.data, .int .i64 y.mode] 30)) := (Off.refl _ wr).alloc _
            have HB1 := Lib.hid hb1; have HO1 := Lib.hid ho1; clear hb1 ho1
            cases hpk : okPath (str (newPath path k y.path))
            · have HPB := Lib.hid (putC_bad (t := t) HXK.out hpk)
              have HPK := Lib.hid (show okPath (str (path ++ (⟨#[47]⟩ : ByteArray) ++ y.path)) = false by rw [← HNP.out]; exact hpk); clear hpk; have a1 : ∀ wx : World, (Op.stringOp .add path ⟨#[47]⟩).run Tryz.prog wx = .ok (.string (path ++ ⟨#[47]⟩)) wx := fun wx => run_string_add_sum wx _ _ (by show path.size + 1 ≤ _; omega)
              have a2 : ∀ wx : World, (Op.stringOp .add (path ++ ⟨#[47]⟩) y.path).run Tryz.prog wx = .ok (.string (path ++ ⟨#[47]⟩ ++ y.path)) wx := fun wx => run_string_add_sum wx _ _ (by rw [ByteArray.size_append]; show path.size + 1 + y.path.size ≤ _; omega)
              go_wp2_with fail
              refine (rpath_v (path ++ (⟨#[47]⟩ : ByteArray) ++ y.path) _ (by rw [ByteArray.size_append, ByteArray.size_append]; show path.size + 1 + y.path.size ≤ _; omega) false HPK.out).mono ?_
              rintro e w7 ⟨rfl, ho7⟩; have hoff7 := (hofk.trans_nil HO1.out).trans_nil ho7; clear ho7
              go_wp2_with fail
              go_ret2
              rw [E.out, HPB.out]; exact PutP.bad hoff7
            have HNX := Lib.hid (hall.out.succ HXK.out hpk); have HPK := Lib.hid (show okPath (str (path ++ (⟨#[47]⟩ : ByteArray) ++ y.path)) = true by rw [← HNP.out]; exact hpk); clear hpk; have a1 : ∀ wx : World, (Op.stringOp .add path ⟨#[47]⟩).run Tryz.prog wx = .ok (.string (path ++ ⟨#[47]⟩)) wx := fun wx => run_string_add_sum wx _ _ (by show path.size + 1 ≤ _; omega)
            have a2 : ∀ wx : World, (Op.stringOp .add (path ++ ⟨#[47]⟩) y.path).run Tryz.prog wx = .ok (.string (path ++ ⟨#[47]⟩ ++ y.path)) wx := fun wx => run_string_add_sum wx _ _ (by rw [ByteArray.size_append]; show path.size + 1 + y.path.size ≤ _; omega)
            go_wp2_with fail
            refine (rpath_v (path ++ (⟨#[47]⟩ : ByteArray) ++ y.path) _ (by rw [ByteArray.size_append, ByteArray.size_append]; show path.size + 1 + y.path.size ≤ _; omega) true HPK.out).mono ?_
            rintro e w7 ⟨rfl, ho7⟩; have hoff7 := (hofk.trans_nil HO1.out).trans_nil ho7; have hown7 := own_keep hownk (HO1.out.trans_nil ho7); have hb7 : Blk w7 wr.heap.size 30 #[.string (path ++ (⟨#[47]⟩ : ByteArray) ++ y.path), .int .i64 y.kind, .string y.data, .int .i64 y.mode] := HB1.out.off ho7 (by simp)
            have hc7 := hb7.cell; have hl7 := hb7.lt; clear ho7 hb7 hownk hofk c0 c1 c2 c3
            go_wp2_with (at_builtin; refine wpList_append_own _ rfl _ _ 31 rfl w.heap.size 30 i0 node0.val 4 48 Tryz.underlying31 hi0 hz0 hz1 hz2 rfl (by decide) _ _ _ rfl (hown7.alloc _) ⟨w7.heap.size, 0, none⟩ 1 1 [_, _, _, _] rfl rfl (cells_four_at (Blk.new w7 _ _)) (by simp [Value.oneCell']) (by unfold maxLen; omega) (by omega) (by have := hoff7.size; simp; omega) ?_; intro v' W6 hown' hgrow _)
            refine ⟨⟨k + 1, by congr 1, by omega, ?_, own_grown (hoff7.alloc _) (hown7.alloc _) hgrow, HNX⟩, by simp only [intOf]; omega⟩
            have hmg := moved_get (path := path) HXK.out; rw [take_get hmg, ← List.append_assoc, cellsOf_append, ← Nat.add_assoc, HNP.out]; exact hown'
          obtain rfl : k = m := by omega
          have hownX := hownk; have hall' := hall; rw [List.take_of_length_le (by rw [moved_len, HM.out]; exact Nat.le_refl _)] at hownX; have hXl2 : (X ++ moved path v).length = X.length + k := by rw [List.length_append, moved_len, HM.out]
          rw [← hXl2] at hownX; clear hownk; have HNXT := Lib.hid (show PutAtI t path v i (i + 1) true (X ++ moved path v) from by simpa using hat.out.last HN.out); have HALL := Lib.hid (show AllTo path v v.length by rw [HM.out]; exact hall'.out); have hXm : (X ++ moved path v).length ≤ 3000 := HNXT.out.len (by rw [HN.out]; exact hn1000) (by rw [HM.out]; exact hm1000)
          clear hat
          go_wp2_with fail
          refine ⟨⟨i + 1, true, X ++ moved path v, by congr 1, rfl, by omega, HNXT, hXm, hownX, hofk, Lib.hid (.inr HALL.out)⟩, by simp only [intOf]; omega⟩
      have HALL := Lib.hid (hal.out.resolve_left (by simp))
      by_cases hlt : i < n
      · have hil : i < t.length := by rw [HN.out]; exact hlt
        obtain ⟨a, rfl, hna, hab⟩ := HR.out.get i hil; have hxi := List.getElem?_eq_getElem hil; have hxs := (HFT.out _ (List.getElem_mem hil)).1; generalize t[i] = x at *; have HX := Lib.hid hxi; have HRX := Lib.hid (fun (W : World) (ho : Off [] w W) => hna.off ho (by rw [add_block]; exact hab)); clear hna hxi
        cases hw : within x.p (str path)
        · have HW := Lib.hid (show within (str x.path) (str path) = false from hw)
          have HNXT := Lib.hid (show PutAtI t path v n (i + 1) true (X ++ [x]) from by simpa [hw, bool_self] using hat.out.next HN.out HS.out HOP.out HX.out); have hXm : (X ++ [x]).length ≤ 3000 := HNXT.out.len (by rw [HN.out]; exact hn1000) (by rw [HM.out]; exact hm1000)
          clear hw hat; have c0 := (HRX.out _ hof).path
          go_wp2_with fail
          refine (rwithin_v x.path path _ hxs hps false HW.out).mono ?_
          rintro e w8 ⟨rfl, ho8⟩; have hoff8 := hof.trans_nil ho8; have hown8 := own_keep hown ho8; clear c0 ho8 hown hof; have e0 := (HRX.out _ hoff8).path; have e1 := (HRX.out _ hoff8).kind; have e2 := (HRX.out _ hoff8).data; have e3 := (HRX.out _ hoff8).mode
          go_wp2_with (at_builtin; refine wpList_append_own _ rfl _ _ 31 rfl w.heap.size 30 i0 node0.val 4 48 Tryz.underlying31 hi0 hz0 hz1 hz2 rfl (by decide) _ _ _ rfl (hown8.alloc _) ⟨w8.heap.size, 0, none⟩ 1 1 [_, _, _, _] rfl rfl (cells_four_at (Blk.new w8 _ _)) (by simp [Value.oneCell']) (by unfold maxLen; omega) (by omega) (by have := hoff8.size; simp; omega) ?_; intro v' W6 hown' hgrow _)
          refine ⟨⟨i + 1, true, X ++ [x], by congr 1, rfl, by omega, HNXT, hXm, ?_, own_grown (hoff8.alloc _) (hown8.alloc _) hgrow, Lib.hid (.inr HALL.out)⟩, by simp only [intOf]; omega⟩
          rw [cellsOf_append, List.length_append]; exact hown'
        have HW := Lib.hid (show within (str x.path) (str path) = true from hw); have HNXT := Lib.hid (show PutAtI t path v n (i + 1) true (X) from by simpa [hw, bool_self] using hat.out.next HN.out HS.out HOP.out HX.out); have hXm : (X).length ≤ 3000 := HNXT.out.len (by rw [HN.out]; exact hn1000) (by rw [HM.out]; exact hm1000)
        clear hw hat; have c0 := (HRX.out _ hof).path
        go_wp2_with fail
        refine (rwithin_v x.path path _ hxs hps true HW.out).mono ?_
        rintro e w8 ⟨rfl, ho8⟩; have hoff8 := hof.trans_nil ho8; have hown8 := own_keep hown ho8; clear c0 ho8 hown hof
        go_wp2_with fail
        refine ⟨⟨i + 1, true, X, by congr 1, rfl, by omega, HNXT, hXm, hown8, hoff8, Lib.hid (.inr HALL.out)⟩, by simp only [intOf]; omega⟩
      obtain rfl : i = n := by omega
      have HNXT := Lib.hid (show PutAtI t path v i (i + 1) true X from by simpa using hat.out.last HN.out)
      go_wp2_with fail
      refine ⟨⟨i + 1, true, X, by congr 1, rfl, by omega, HNXT, hXl, hown, hof, Lib.hid (.inr HALL.out)⟩, by simp only [intOf]; omega⟩
    have hin' : n < i := by omega
    have HX := Lib.hid (hat.out.end_ hin); have HALL := Lib.hid (hal.out.resolve_left (fun h => hin h.2)); have HOWN := Lib.hid hown; obtain ⟨pz, cz, rfl, -, hcz, -, -⟩ := own_row hown; clear hown
    by_cases hbig : X.length ≤ 1000
    · go_wp2_with fail
      go_ret2
      rw [E.out, putC_len HALL.out, ← HX.out, if_pos hbig]; exact ⟨_, rfl, HOWN.out, hof⟩
    go_wp2_with fail
    go_ret2
    rw [E.out, putC_len HALL.out, ← HX.out, if_neg hbig]; exact PutP.bad hof
end
section
section
variable {P : Program} {ops : Array Oper} {md : Region.Mode} {Q : Exit → Act → World → Prop} {S : World → Prop} {n : Nat}
def wpAnyZ (P : Program) (md : Region.Mode) (ops : Array Oper) (Q : Exit → Act → World → Prop) (S : World → Prop) (n : Nat) : Nat → Array Bool → Act → World → Prop
  | 0, done, a, w => Region.ready md ops done = [] ∧ Q .normal a w
  | f + 1, done, a, w => (Region.ready md ops done = [] → Q .normal a w) ∧ ∀ i, i ∈ Region.ready md ops done → wpOp P ops Q i (fun a' w' => (i = n ∨ S w') ∧ wpAnyZ P md ops Q S n f (done.setIfInBounds i true) a' w') a w
theorem wpAnyZ.any : ∀ (f : Nat) (done : Array Bool) (a : Act) (w : World), wpAnyZ P md ops Q S n f done a w → wpAny P md ops Q f done a w
  | 0, _, _, _, h => h
  | f + 1, _, _, _, h => ⟨h.1, fun i hi => wpOp_mono (fun a' w' k => wpAnyZ.any f _ a' w' k.2) (h.2 i hi)⟩
theorem wpAnyZ.first {i : Nat} {o : Oper} {v : Value} (hi : ops[i]? = some o) (hsel : ∀ (j : Nat) (o : Oper) cs b, ops[j]? = some o → o.op ≠ .select cs b)
    (hQ : ∀ c a w, Q (.panic c) (a.put o.dst v) w → Q (.panic c) a w) (hs : Region.sinkB md ops n = true) (hc : Region.chainB md ops n = true) (hn : n < ops.size) (hin : i < n) :
    ∀ (f : Nat) (done : Array Bool) (a : Act) (w : World), HeadInv md ops n done →
      (∀ j oj, ops[j]? = some oj → j ≠ i → done.getD j true = false → (∀ e ∈ oj.after, Region.binds md e = true → e.on ≠ i) → o.apart ops oj = true) →
      i ∈ Region.ready md ops done → YieldsIf P ops S o v a → S w → wpAnyZ P md ops Q S n f (done.setIfInBounds i true) (a.put o.dst v) w → wpAnyZ P md ops Q S n (f + 1) done a w := by
  intro f
  induction f with
  | zero =>
    intro done a w inv hfree hr hy hS H
    refine ⟨fun e => (by rw [e] at hr; cases hr), fun j hj => ?_⟩
    by_cases e : j = i
    · rw [e]; exact hy.wpOp hi hS ⟨.inr hS, H⟩
    have := ready_mono hj e; rw [H.1] at this; cases this
  | succ f ih =>
    intro done a w inv hfree hr hy hS H
    have hun := (mem_ready.1 hr).1; refine ⟨fun e => (by rw [e] at hr; cases hr), fun j hj => ?_⟩; have hjn : j < n := Nat.lt_of_not_le fun hge => tail_waits hs hc hn inv _ i rfl hin hun j hge hj
    by_cases e : j = i
    · rw [e]; exact hy.wpOp hi hS ⟨.inr hS, H⟩
    obtain ⟨hju, oj, hoj, hall⟩ := mem_ready.1 hj; have hno : ∀ x ∈ oj.after, Region.binds md x = true → x.on ≠ i := fun x hx hb he => by
      have := hall x hx hb; rw [he, getD_both hun] at this
      cases this
    have hq := wpOp_putIf hoj (hfree j oj hoj e hju hno) (fun cs b => hsel i o cs b hi) (fun cs b => hsel j oj cs b hoj) hQ hy (H.2 j (ready_mono hj e)); refine wpOp_mono (fun a' w' hk => ?_) hq; have hS' : S w' := hk.2.1.resolve_left (by omega)
    refine ⟨.inr hS', ih (done.setIfInBounds j true) a' w' (inv.set hj hjn) (fun k ok hk2 hki hku hkn => ?_) (ready_mono hr (Ne.symm e)) hk.1 hS' ?_⟩
    · refine hfree k ok hk2 hki ?_ hkn
      by_cases ejk : j = k
      · rw [← ejk]; exact hju
      rwa [getD_set_ne true ejk] at hku
    rw [Array.setIfInBounds_comm _ _ e]; exact hk.2.2
def takesZ (P : Program) (ops : Array Oper) (S : World → Prop) (K : Act → Prop) : List Nat → Act → Prop
  | [], a => K a
  | i :: r, a => ∃ o v, ops[i]? = some o ∧ YieldsIf P ops S o v a ∧ takesZ P ops S K r (a.put o.dst v)
def runZ (P : Program) (ops : Array Oper) (Q : Exit → Act → World → Prop) (S : World → Prop) (n : Nat) : List Nat → Act → World → Prop
  | [], a, w => Q .normal a w
  | k :: r, a, w => wpOp P ops Q k (fun a' w' => (k = n ∨ S w') ∧ runZ P ops Q S n r a' w') a w
def tailZ (md : Region.Mode) (ops : Array Oper) : List Nat → Array Bool → Bool
  | [], done => (Region.ready md ops done).isEmpty
  | k :: r, done => decide (Region.ready md ops done = [k]) && tailZ md ops r (done.setIfInBounds k true)
def headZ (md : Region.Mode) (ops : Array Oper) (n : Nat) (t : List Nat) : List Nat → Array Bool → Bool
  | [], done => tailZ md ops t done
  | i :: r, done => decide (i < n) && (Region.ready md ops done).contains i && Region.free md ops done i && headZ md ops n t r (done.setIfInBounds i true)
theorem runZ.any : ∀ (t : List Nat) (done : Array Bool) (a : Act) (w : World), tailZ md ops t done = true → runZ P ops Q S n t a w → wpAnyZ P md ops Q S n t.length done a w
  | [], done, a, w, hB, h => ⟨by simpa [tailZ] using hB, h⟩
  | k :: r, done, a, w, hB, h => by
    simp only [tailZ, Bool.and_eq_true, decide_eq_true_eq] at hB
    refine ⟨fun e => (by rw [hB.1] at e; cases e), fun i hi => ?_⟩
    rw [hB.1] at hi; obtain rfl : i = k := by simpa using hi
    exact wpOp_mono (fun a' w' hk => ⟨hk.1, runZ.any r _ a' w' hB.2 hk.2⟩) h
theorem takesZ.any {t : List Nat} {w : World} (hsel : Region.noSelect ops = true) (hQ : ∀ d v c a w, Q (.panic c) (Act.put a d v) w → Q (.panic c) a w) (hs : Region.sinkB md ops n = true) (hc : Region.chainB md ops n = true) (hn : n < ops.size) (hS : S w) :
    ∀ (l : List Nat) (done : Array Bool) (a : Act), HeadInv md ops n done → headZ md ops n t l done = true → takesZ P ops S (fun a' => runZ P ops Q S n t a' w) l a → wpAnyZ P md ops Q S n (l.length + t.length) done a w
  | [], done, a, _, hB, h => by
    rw [List.length_nil, Nat.zero_add]; exact runZ.any t done a w hB h
  | i :: r, done, a, inv, hB, h => by
    obtain ⟨o, v, hi, hy, hk⟩ := h; simp only [headZ, Bool.and_eq_true, decide_eq_true_eq] at hB; have hr : i ∈ Region.ready md ops done := by simpa using hB.1.1.2
    rw [List.length_cons, show r.length + 1 + t.length = (r.length + t.length) + 1 by omega]; exact wpAnyZ.first hi (Region.noSelect_spec hsel) (fun c a w => hQ _ _ c a w) hs hc hn hB.1.1.1 _ done a w inv (Region.free_spec hi hB.1.2) hr hy hS (takesZ.any hsel hQ hs hc hn hS r _ _ (inv.set hr hB.1.1.1) hB.2 hk)
theorem wp_region_but_last {id : Nat} {a : Act} {w : World} (n : Nat) (l t : List Nat) (S : World → Prop) (hm : P.follows .mixedOrders = true) (hB : (Region.noSelect ops && Region.sinkB .any ops n && Region.chainB .any ops n && decide (n < ops.size) && decide (l.length + t.length = ops.size) && headZ .any ops n t l (Array.replicate ops.size false)) = true)
    (hQ : ∀ d v c a w, Q (.panic c) (Act.put a d v) w → Q (.panic c) a w) (hS : S w.drew) (h : takesZ P ops S (fun a' => runZ P ops Q S n t a' w.drew) l a) : (Code.region id ops true).wp P Q a w := by
  simp only [Bool.and_eq_true, decide_eq_true_eq] at hB
  obtain ⟨⟨⟨⟨⟨h1, h2⟩, h3⟩, h4⟩, h5⟩, h6⟩ := hB; have inv : HeadInv .any ops n (Array.replicate ops.size false) :=
    ⟨by simp, fun j oj _ hl => (by rw [getD_replicate_false] at hl; cases hl), fun t _ ht => getD_in (by simpa using ht) (getD_replicate_false _ _)⟩
  refine wp_region_any hm (wpAnyZ.any (S := S) (n := n) _ _ _ _ ?_)
  have := takesZ.any (md := .any) h1 hQ h2 h3 h4 hS l _ a inv h6 h
  rwa [h5] at this
theorem runZ_step {k : Nat} {o : Oper} {r : List Nat} {a : Act} {w : World} (ho : ops[k]? = some o)
    (h : ∀ K' : Act → World → Prop, Shut (∀ a w, (k = n ∨ S w) → runZ P ops Q S n r a w → K' a w) → if Region.wanted o (yielded ops a.tmps) = true then Oper.wp P o a w K' Q else K' (a.put o.dst undef) w) : runZ P ops Q S n (k :: r) a w :=
  wpOp_step ho (fun K' hK => h K' (fun a w hS hr => hK a w ⟨hS, hr⟩))
theorem takesZ_step {i : Nat} {o : Oper} {v : Value} {r : List Nat} {a : Act} {K : Act → Prop} (hi : ops[i]? = some o) (hw : Region.wanted o (yielded ops a.tmps) = true) (hy : ∀ w, S w → (execOp a.eval o).run P w = .ok (.value v) w) (h : takesZ P ops S K r (a.put o.dst v)) : takesZ P ops S K (i :: r) a := ⟨o, v, hi, .inl ⟨hw, hy⟩, h⟩
theorem takesZ_nil {a : Act} {K : Act → Prop} (h : K a) : takesZ P ops S K [] a := h
theorem runZ_nil {a : Act} {w : World} (h : Q .normal a w) : runZ P ops Q S n [] a w := h
end
end
end Go.Proofs.YtgcfkljooabjjaaGreatDoor
