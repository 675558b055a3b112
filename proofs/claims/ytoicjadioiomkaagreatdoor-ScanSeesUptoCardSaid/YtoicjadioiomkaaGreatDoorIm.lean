/- Texts of this claim, one behind the other: Bud HideLaw Scan ScanQ Awk11 HideP Short Hides LastOp Val SeesP AtR. Conditions: what each lemma states. -/
import Derived.Test.YtoicjadioiomkaaGreatDoorIl
import Derived.Test.YtoicjadioiomkaaGreatDoorIj
import Derived.Test.YtoicjadioiomkaaGreatDoorIb
import Derived.KernelRfl
import Derived.Test.YtoicjadioiomkaaGreatDoorIc
import Derived.Test.YtoicjadioiomkaaGreatDoorIi
import Derived.StillTail
import Derived.Deep.RegionHeld
import Derived.Test.YtoicjadioiomkaaGreatDoorIk
import Derived.Test.YtoicjadioiomkaaGreatDoorId
namespace Go.Proofs.YtoicjadioiomkaaGreatDoor
section
open Go.RowKit Go.Op Go.Maps
theorem parts_short : ∀ (s x : Str), x ∈ parts s → x.length ≤ s.length := by
  intro s
  generalize hn : s.length = n
  induction n using Nat.strongRecOn generalizing s with
  | ind n ih =>
    intro x hx
    cases s with
    | nil => simp [parts] at hx; simp [hx]
    | cons c s =>
      simp only [List.length_cons] at hn
      by_cases hc : c = 47
      · subst hc
        rw [parts_slash] at hx
        rcases List.mem_cons.1 hx with rfl | hx
        · simp
        have := ih s.length (by omega) s rfl x hx; omega
      obtain ⟨a, t, e, e'⟩ := parts_cons hc s; rw [e'] at hx
      rcases List.mem_cons.1 hx with rfl | hx
      · have := ih s.length (by omega) s rfl a (by rw [e]; simp); simp; omega
      have := ih s.length (by omega) s rfl x (by rw [e]; simp [hx]); omega
theorem base_short (s : Str) : (base s).length ≤ s.length := by
  unfold base
  split
  · exact parts_short s _ (List.getLast_mem _)
  simp
theorem namesOn_few (D : PDisk) (p : ByteArray) : (D.namesOn p).1.length ≤ 1000000 ∧ ∀ x ∈ (D.namesOn p).1, x.size ≤ 1000000 := by
  unfold PDisk.namesOn; dsimp only; generalize (if p = ⟨#[]⟩ then (0 : Int) else firstE [PDisk.no p, D.gone p]) = e
  split
  · exact ⟨by simp, fun x hx => by simp at hx⟩
  split
  · show (namesR D.tree (str p)).length ≤ 1000000 ∧ ∀ x ∈ namesR D.tree (str p), x.size ≤ 1000000
    unfold namesR
    split
    · rename_i h
      simp only [Bool.and_eq_true] at h
      have h1 := okTree_len h.1; have h2 := namesOf_len D.tree (str p); refine ⟨by omega, fun x hx => ?_⟩; obtain ⟨n, hn, rfl⟩ := List.mem_map.1 hx; have hk := ok_size (okTree_path h.1 (List.mem_filter.1 hn).1); have := base_short n.p; rw [bs_size]; omega
    exact ⟨by simp, fun x hx => by simp at hx⟩
  exact ⟨by simp, fun x hx => by simp at hx⟩
theorem namesC_few (D : PDisk) (p : ByteArray) : (D.namesC p).1.1.length ≤ 1000000 ∧ ∀ x ∈ (D.namesC p).1.1, x.size ≤ 1000000 := by
  unfold PDisk.namesC
  rcases D.step ⟨#[78, 97, 109, 101, 115]⟩ p ⟨#[]⟩ with ⟨full, e, E⟩
  dsimp only
  split
  · exact ⟨by simp, fun x hx => by simp at hx⟩
  exact namesOn_few E p
theorem get_disk (D : PDisk) (p : ByteArray) : (D.get p).2 = (D.step ⟨#[71, 101, 116]⟩ p ⟨#[]⟩).2.2 := by
  unfold PDisk.get
  rcases D.step ⟨#[71, 101, 116]⟩ p ⟨#[]⟩ with ⟨full, e, E⟩
  dsimp only
  split <;> rfl
theorem names_disk (D : PDisk) (p : ByteArray) : (D.namesC p).2 = (D.step ⟨#[78, 97, 109, 101, 115]⟩ p ⟨#[]⟩).2.2 := by
  unfold PDisk.namesC
  rcases D.step ⟨#[78, 97, 109, 101, 115]⟩ p ⟨#[]⟩ with ⟨full, e, E⟩
  dsimp only
  split <;> rfl
section
variable {w0 w w' : World} {p n C : Nat} {D : PDisk} {k : List Nat}
theorem runC_get (h : RunE w0 w p D n k) (hf : Fine D n) (hd : EdC C D) (hn : n + C ≤ 40000000) (path : ByteArray) (hs : path.size ≤ 9223372036854775807) :
    Calls Tryz.prog 43 #[.pointer (some ⟨p, 0, none⟩), .string path] w fun e w' => e = .returned (getVal (D.edited.get path).1) ∧ RunE w0 w' p (D.edited.get path).2 (n + C + 1) k ∧ Kept k w w' :=
  (h.le (show n ≤ n + C by omega)).call (R := fun e _ => e = .returned (getVal (D.edited.get path).1)) fun G hG => dget_callE p (n + C) G D path w hG (hd.eok hf) (by omega) hs
theorem runC_names (h : RunE w0 w p D n k) (hf : Fine D n) (hd : EdC C D) (hn : n + C ≤ 40000000) (path : ByteArray) (hs : path.size ≤ 9223372036854775807) :
    Calls Tryz.prog 108 #[.pointer (some ⟨p, 0, none⟩), .string path] w fun e w' => ∃ v wm, e = .returned (.tuple #[v, .int .i64 (D.edited.namesC path).1.2]) ∧
      w'.ownsRow wm.heap.size 9 1 v (D.edited.namesC path).1.1.length ((D.edited.namesC path).1.1.map Value.string) ∧ RunE w0 wm p (D.edited.namesC path).2 (n + C + 1) k ∧ Off [] wm w' ∧ Kept k w w' := by
  obtain ⟨G, h1, h2, h3, h4, h5⟩ := h.le (show n ≤ n + C by omega); refine (dnames_callE p (n + C) G D path w h1 (hd.eok hf) hn hs (hd.edited hf).light).mono fun e w' ⟨v, wm, he, hr, hT, ho⟩ => ?_
  obtain ⟨a1, a2⟩ := RunE.to_ (k := k) h1 h2 h3 h4 h5 hT; refine ⟨v, wm, he, hr, a1, ho, fun b hb => ?_⟩; obtain ⟨G', -, -, -, -, c5⟩ := a1; rw [ho.block b (c5 b hb).1 (by simp), a2 b hb]
theorem getC_fine (h : Fine D n) (hd : EdC C D) (q : ByteArray) : Fine (D.edited.get q).2 (n + C + 1) ∧ EdC C (D.edited.get q).2 := by
  have he := hd.edited h; have h8 : (D.edited.get q).2 = askD D.edited ⟨8, q, ⟨#[]⟩, ⟨#[]⟩, 0⟩ := rfl
  refine ⟨⟨by rw [get_disk]; exact PDisk.step_ok he.ok _ _ _, ?_, ?_⟩, hd.of (.inl ((get_edits _ _).trans (edited_edits D)))⟩
  · rw [h8]; exact he.good.ask he.ok _
  rw [h8]; exact he.light.ask _ (show (⟨#[]⟩ : ByteArray).size ≤ maxLen by decide) (show (⟨#[]⟩ : ByteArray).size ≤ maxLen by decide)
theorem namesC_fine (h : Fine D n) (hd : EdC C D) (q : ByteArray) : Fine (D.edited.namesC q).2 (n + C + 1) ∧ EdC C (D.edited.namesC q).2 := by
  have he := hd.edited h; have h8 : (D.edited.namesC q).2 = askD D.edited ⟨9, q, ⟨#[]⟩, ⟨#[]⟩, 0⟩ := rfl
  refine ⟨⟨by rw [names_disk]; exact PDisk.step_ok he.ok _ _ _, ?_, ?_⟩, hd.of (.inl ((names_edits _ _).trans (edited_edits D)))⟩
  · rw [h8]; exact he.good.ask he.ok _
  rw [h8]; exact he.light.ask _ (show (⟨#[]⟩ : ByteArray).size ≤ maxLen by decide) (show (⟨#[]⟩ : ByteArray).size ≤ maxLen by decide)
end
def BudC (C m : Nat) (D : PDisk) (n : Nat) : Prop := Fine D n ∧ EdC C D ∧ n + m * (C + 1) + C ≤ 40000000 ∧ m ≤ 900000
theorem budC (w0 : World) (d C : Nat) : Budget w0 d (BudC C) where
  get := fun {m D n} path h hs => by
    obtain ⟨h1, h2, h3, h4⟩ := h; obtain ⟨k1, k2⟩ := getC_fine h1 h2 path; have h5 : (m + 1) * (C + 1) = m * (C + 1) + (C + 1) := Nat.succ_mul _ _
    exact ⟨n + C + 1, ⟨k1, k2, by omega, by omega⟩, fun k W hr => runC_get hr h1 h2 (by omega) path (by omega)⟩
  names := fun {m D n} path h hs => by
    obtain ⟨h1, h2, h3, h4⟩ := h; obtain ⟨k1, k2⟩ := namesC_fine h1 h2 path; have h5 : (m + 1) * (C + 1) = m * (C + 1) + (C + 1) := Nat.succ_mul _ _
    exact ⟨namesC_few _ _, n + C + 1, ⟨k1, k2, by omega, by omega⟩, fun k W hr => runC_names hr h1 h2 (by omega) path (by omega)⟩
  le := fun h => h.2.2.2
  less := fun {m m' D n} h hm => by
    obtain ⟨h1, h2, h3, h4⟩ := h; have := Nat.mul_le_mul_right (C + 1) hm; exact ⟨h1, h2, by omega, by omega⟩
end
section
open Go.RowKit Go.Op Go.Maps
theorem last_nil (p : Str) : lastV [] p = false := rfl
theorem ignored_nil (p : Str) : ignoredV [] p = false := by
  unfold ignoredV; rw [Bool.and_eq_false_iff]
  right
  rw [List.any_eq_false]
  intro x _
  simp [last_nil]
theorem see_nil (p : ByteArray) : seeV [] p = (okPath (str p) && !within (str p) (str ownB)) := by
  unfold seeV; rw [ignored_nil]; simp
theorem see_one {p b x : ByteArray} (hb : str b = escP (str p)) (hp : okPath (str p) = true) (hs : 47 ∈ str p) (hl : (escP (str p)).length ≤ 400) : seeV [⟨true, b⟩] x = (seeV [] x && !within (str x) (str p)) := by
  rw [see_nil]; unfold seeV
  cases hx : okPath (str x)
  · rfl
  rw [ignored_one hb hp hs hl hx]
theorem found_root (see : ByteArray → Bool) (t : List Node) : foundIn see t [] = t.filter fun n => see n.path := by
  unfold foundIn subN; rw [List.filter_filter]; refine List.filter_congr fun n _ => ?_
  unfold inD; simp
section
variable {t : List Node} {path b : ByteArray}
theorem hides_found (hb : str b = escP (str path)) (hp : okPath (str path) = true) (hs : 47 ∈ str path) (hl : (escP (str path)).length ≤ 400) :
    foundIn (seeV [⟨true, b⟩]) t [] = (foundIn (seeV []) t []).filter fun n => !within n.p (str path) := by
  rw [found_root, found_root, List.filter_filter]; refine List.filter_congr fun n _ => ?_
  rw [see_one hb hp hs hl, Bool.and_comm]
  rfl
theorem parent_two {p : Str} (h : okPath p = true) (hs : 47 ∈ p) : parent p ≠ [] := fun e => by
  have h1 := path_whole h; rw [if_pos e] at h1; have h2 := parts_mem p (base p) (by rw [parts_split h]; simp); rw [← h1] at h2; exact h2 hs
theorem filter_only {P : ByteArray → Bool} {d : ByteArray} : ∀ {l : List ByteArray}, l.Nodup → d ∈ l → P d = true → (∀ x ∈ l, P x = true → x = d) → l.filter P = [d]
  | [], _, h, _, _ => by cases h
  | x :: l, hn, hm, hd, hu => by
    rw [List.nodup_cons] at hn
    by_cases e : x = d
    · subst e
      rw [List.filter_cons_of_pos hd, List.filter_eq_nil_iff.2]
      intro y hy h
      have := hu y (List.mem_cons_of_mem _ hy) h; subst this; exact hn.1 hy
    rw [List.filter_cons_of_neg (fun h => e (hu x (List.mem_cons_self ..) h))]; exact filter_only hn.2 ((List.mem_cons.1 hm).resolve_left (fun h => e h.symm)) hd (fun y hy => hu y (List.mem_cons_of_mem _ hy))
theorem hides_block (ht : okTree t = true) (hb : str b = escP (str path)) (hs : 47 ∈ str path) (hl : (escP (str path)).length ≤ 400) {m : Node} (hm : m ∈ t) (hmp : m.path = path) (hse : seeV [] path = true) :
    blockIn (seeV [⟨true, b⟩]) t ⟨#[]⟩ = [bs (parent (str path))] := by
  have hp : okPath (str path) = true := by rw [← hmp]; exact okTree_path ht hm
  have hpn := parent_two hp hs; have hpo := parent_ok hp hpn; obtain ⟨hso1, hso2⟩ : okPath (str path) = true ∧ within (str path) (str ownB) = false := by
    rw [see_nil] at hse; simp only [Bool.and_eq_true, Bool.not_eq_true'] at hse; exact hse
  have hS := see_ok [⟨true, b⟩]; obtain ⟨d, hd1, hd2, hd3⟩ : ∃ d ∈ t, d.p = parent (str path) ∧ d.kind = 2 := by
    have := isDir_iff.1 (parent_dir ht hm); rw [show m.p = str path by rw [← hmp]; rfl] at this; exact this.resolve_left hpn
  have hdp : d.path = bs (parent (str path)) := str_inj (by rw [str_bs]; exact hd2)
  have hnw : within (parent (str path)) (str path) = false := parent_own hp hpn hpo
  have hds : seeV [⟨true, b⟩] d.path = true := by
    rw [see_one hb hp hs hl]; have h1 : seeV [] d.path = true := (see_ok []).up path d.path hse (by rw [show str d.path = parent (str path) from hd2]; exact hpo) (by rw [show str d.path = parent (str path) from hd2]; exact within_parent hp hpn)
    rw [h1, show str d.path = parent (str path) from hd2, hnw]
    rfl
  unfold blockIn; rw [← hdp]; refine filter_only ?_ ?_ ?_ ?_
  · rw [List.nodup_cons]
    have hsr : Sorted (foundIn (seeV [⟨true, b⟩]) t (str ⟨#[]⟩)) := by
      unfold foundIn subN; exact filter_sorted (filter_sorted (okTree_sorted ht) _) _
    constructor
    · intro h
      obtain ⟨n, hn, e⟩ := List.mem_map.1 h; have hn1 := (List.mem_filter.1 hn).1; unfold foundIn subN at hn1; have hn2 := (List.mem_filter.1 (List.mem_filter.1 hn1).1).1; exact okPath_ne (okTree_path ht hn2) (by unfold Node.p; rw [e]; rfl)
    unfold List.Nodup; rw [List.pairwise_map]; refine (List.Pairwise.filter _ hsr).imp fun {x y} h e => ?_
    have : x.p = y.p := by unfold Node.p; rw [e]
    rw [this, order_self] at h; omega
  · refine List.mem_cons_of_mem _ (List.mem_map.2 ⟨d, List.mem_filter.2 ⟨?_, by simpa using hd3⟩, rfl⟩)
    show d ∈ foundIn _ t []
    rw [found_root]; exact List.mem_filter.2 ⟨hd1, hds⟩
  · unfold hidIn
    rw [List.any_eq_true]; refine ⟨m, hm, ?_⟩; rw [show m.p = str path by rw [← hmp]; rfl, show str d.path = parent (str path) from hd2, hmp]; have h1 : path ≠ ownB := fun e => by rw [e] at hso2; revert hso2; decide
    have h2 : seeV [⟨true, b⟩] path = false := by
      rw [see_one hb hp hs hl, within_self hp]; simp
    rw [h2]; simp [h1]
  intro x hx h
  unfold hidIn at h; rw [List.any_eq_true] at h; obtain ⟨n, hn, hc⟩ := h; simp only [Bool.and_eq_true, decide_eq_true_eq, Bool.not_eq_true'] at hc; obtain ⟨h1, h2, h3⟩ := hc; have hnk := okTree_path ht hn; have hxs : x = ⟨#[]⟩ ∨ (okPath (str x) = true ∧ seeV [⟨true, b⟩] x = true) := by
    rcases List.mem_cons.1 hx with h | h
    · exact .inl h
    obtain ⟨y, hy, rfl⟩ := List.mem_map.1 h; have hy1 := (List.mem_filter.1 hy).1; rw [show str (⟨#[]⟩ : ByteArray) = [] from rfl, found_root] at hy1; have h4 := List.mem_filter.1 hy1; exact .inr ⟨okTree_path ht h4.1, h4.2⟩
  have key : ∀ q : Str, okPath q = true → within n.p q = true → (x = ⟨#[]⟩ ∨ within (str x) q = false) → (x = ⟨#[]⟩ → (parts q).length = 1 → n.p = q) ∧ (x ≠ ⟨#[]⟩ → n.p = q) ∧ (x = ⟨#[]⟩ → (parts q).length ≤ 1) := by
    intro q hq hw hx2
    obtain ⟨r, hr⟩ := (withinQ_pre hnk hq).1 hw; have hpd := parent_drop hnk; rw [h1] at hpd; have hql := List.length_pos_iff.2 (parts_ne q)
    by_cases hx0 : x = ⟨#[]⟩
    · have e1 : (parts n.p).length = 1 := by
        rw [if_pos (by rw [hx0]; rfl)] at hpd; have h5 := congrArg List.length hpd; rw [List.length_dropLast, List.length_nil] at h5; have h6 := List.length_pos_iff.2 (parts_ne n.p); omega
      have e2 : (parts q).length + r.length = 1 := by rw [← List.length_append, hr, e1]
      refine ⟨fun _ h7 => ?_, fun h => absurd hx0 h, fun _ => by omega⟩
      have : r = [] := List.length_eq_zero_iff.1 (by omega)
      rw [this, List.append_nil] at hr; exact parts_inj hr.symm
    refine ⟨fun h => absurd h hx0, fun _ => ?_, fun h => absurd h hx0⟩
    have hx3 := hx2.resolve_left hx0; have hxk := (hxs.resolve_left hx0).1; rw [if_neg (okPath_ne hxk)] at hpd
    by_cases hr0 : r = []
    · rw [hr0, List.append_nil] at hr
      exact parts_inj hr.symm
    exfalso
    rw [← hr, List.dropLast_append_of_ne_nil hr0] at hpd; have : within (str x) q = true := (withinQ_pre hxk hq).2 ⟨_, hpd.symm⟩
    rw [hx3] at this
    cases this
  have hnot : seeV [] n.path = true ∨ within n.p (str ownB) = true := by
    rw [see_nil]
    cases hw : within (str n.path) (str ownB)
    · left; rw [show okPath (str n.path) = true from hnk]; rfl
    right; exact hw
  rcases hnot with hnot | hnot
  · -- within the path
    rw [see_one hb hp hs hl, hnot, Bool.true_and] at h3; have hw : within (str n.path) (str path) = true := by simpa using h3
    obtain ⟨k1, k2, k3⟩ := key (str path) hp hw (by
      rcases hxs with h | ⟨h5, h6⟩
      · exact .inl h
      right
      rw [see_one hb hp hs hl, Bool.and_eq_true, Bool.not_eq_true'] at h6; exact h6.2)
    by_cases hx0 : x = ⟨#[]⟩
    · exfalso
      have h5 := k3 hx0; have h6 := parts_split hp; have h7 := parent_drop hp; rw [if_neg hpn] at h7; have h8 := List.length_pos_iff.2 (parts_ne (parent (str path))); rw [h7, List.length_dropLast] at h8; omega
    have h5 := k2 hx0; rw [h5] at h1; exact str_inj (by rw [hdp, str_bs, h1])
  exfalso
  obtain ⟨k1, k2, k3⟩ := key (str ownB) (by decide) hnot (by
    rcases hxs with h | ⟨h5, h6⟩
    · exact .inl h
    right
    rw [see_one hb hp hs hl, Bool.and_eq_true, see_nil, Bool.and_eq_true, Bool.not_eq_true'] at h6; exact h6.1.2)
  have h9 : n.p = str ownB := by
    by_cases hx0 : x = ⟨#[]⟩
    · exact k1 hx0 (by decide)
    exact k2 hx0
  exact h2 (str_inj h9)
end
end
section
open Go.RowKit Go.Op Go.Maps
def wk0 : Wk := ⟨[], [], []⟩
def ScanTo (w0 w : World) (d : Nat) (r : Int × Wk × PDisk) (m : Nat) (Bud : Nat → PDisk → Nat → Prop) (K : List Nat) (e : Ending) (w' : World) : Prop :=
  ∃ tv sv bv n', e = .returned (.tuple #[tv, sv, bv, .int .i64 r.1]) ∧ w'.ownsRow 0 30 4 tv (if r.1 = 0 then r.2.1.tree else []).length (cellsOf (if r.1 = 0 then r.2.1.tree else [])) ∧
    w'.ownsRow 0 93 3 sv (if r.1 = 0 then r.2.1.stamps else []).length (stCells (if r.1 = 0 then r.2.1.stamps else [])) ∧ w'.ownsRow 0 9 1 bv (if r.1 = 0 then r.2.1.blocked else []).length ((if r.1 = 0 then r.2.1.blocked else []).map Value.string) ∧
    RunE w0 w' d r.2.2 n' ((tv.ownBlock.toList ++ (sv.ownBlock.toList ++ bv.ownBlock.toList)) ++ K) ∧ Bud m r.2.2 n' ∧ Kept K w w'
set_option maxRecDepth 100000 in
set_option maxHeartbeats 4000000 in
theorem scan_any {w0 w : World} {d n m c : Nat} {L : List RuleP} {q : Option Addr} {D : PDisk} {K : List Nat} {Bud : Nat → PDisk → Nat → Prop} (hBud : Budget w0 d Bud) (hr : RunE w0 w d D n K) (hR : RlK K w L q c) (hT : Tabs w0)
    (hb : Bud (walkC (seeV L) 17 D ⟨#[]⟩ wk0 + m) D n) (hl : walkC (seeV L) 17 D ⟨#[]⟩ wk0 * 3 ≤ 1000000) :
    Calls Tryz.prog 13 #[.pointer (some ⟨d, 0, none⟩), .slice q L.length c] w (ScanTo w0 w d (walkW (seeV L) 17 D ⟨#[]⟩ wk0) m Bud K) := by
  have hlt : ∀ b ∈ K, b < w.heap.size := fun b hb => by obtain ⟨G, -, -, -, -, h5⟩ := hr; exact (h5 b hb).1
  have ho := (Off.refl [] w).alloc (.cells #[.slice q L.length c, .pointer (some ⟨d, 0, none⟩), .slice none 0 0, .slice none 0 0, .slice none 0 0] 121); have hs : SWf w0 (w.alloc (.cells #[.slice q L.length c, .pointer (some ⟨d, 0, none⟩), .slice none 0 0, .slice none 0 0, .slice none 0 0] 121)) d w.heap.size (.slice q L.length c) D n wk0 K (.slice none 0 0) (.slice none 0 0) (.slice none 0 0) :=
    ⟨hr.more (k' := [w.heap.size]) ho (fun b hb => by simp at hb; subst hb; simp), Blk.new _ _ _, World.ownsRow_nil _ _ _ _, World.ownsRow_nil _ _ _ _, World.ownsRow_nil _ _ _ _, fun b hb hm => by
      have := hlt b hb; simp [wkB, Value.ownBlock] at hm; omega, hT, fun b hm => by
      simp [wkB, Value.ownBlock] at hm
      subst hm; exact hr.since.size⟩
  have HD := Lib.hid (down_any (wp := w.heap.size) (L := L) (q := q) (c := c) hBud 17 _ D ⟨#[]⟩ wk0 n m K ⟨_, _, _, hs⟩ (hR.kept (Kept.of_off ho hlt)) hb (.inl rfl) (by omega) (by simpa [wk0] using hl)); have HK := Lib.hid (Kept.of_off ho hlt); clear hs ho hb hl hR hr hT hlt; generalize walkW (seeV L) 17 D ⟨#[]⟩ wk0 = r at *; generalize L.length = nL at *; obtain ⟨er, a, D1⟩ := r
  go_enter Tryz.func13, Tryz.ntmps13
  go_wp2_with fail
  refine HD.out.mono ?_
  rintro e w1 ⟨rfl, n1, ⟨tv, sv, bv, h1⟩, hb1, hk1⟩; have H1 := Lib.hid h1; have HB1 := Lib.hid hb1; have HK1 := Lib.hid (HK.out.trans hk1); have hc := h1.blk.cell; clear h1 hb1 hk1; have H2 := Lib.hid (H1.out.off (Off.refl [] w1).drew)
  by_cases he : er = 0
  · subst he
    go_wp2_with fail
    go_region
    all_goals go_wp2_with fail
    all_goals refine bodyPost_ret (v := .tuple #[tv, sv, bv, .int .i64 0]) (by simp [results, Tryz.f13, go_sem]) rfl ?_
    all_goals exact ⟨tv, sv, bv, n1, rfl, H2.out.tree, H2.out.stamps, H2.out.blocked, H2.out.run.drop (k' := (tv.ownBlock.toList ++ (sv.ownBlock.toList ++ bv.ownBlock.toList)) ++ K) (fun b hb => by
      unfold wkB; simp only [List.mem_append, List.mem_cons] at hb ⊢
      rcases hb with (h | h | h) | h
      · exact .inl (.inr (.inl h))
      · exact .inl (.inr (.inr (.inl h)))
      · exact .inl (.inr (.inr (.inr h)))
      exact .inr h), HB1.out, HK1.out⟩
  go_wp2_with fail
  refine bodyPost_ret (v := .tuple #[.slice none 0 0, .slice none 0 0, .slice none 0 0, .int .i64 er]) (by simp [results, Tryz.f13, go_sem]) rfl ?_
  refine ⟨_, _, _, n1, rfl, by rw [if_neg he]; exact World.ownsRow_nil _ _ _ _, by rw [if_neg he]; exact World.ownsRow_nil _ _ _ _, by rw [if_neg he]; exact World.ownsRow_nil _ _ _ _, H1.out.run.drop (fun b hb => List.mem_append_right _ (by simpa [Value.ownBlock] using hb)), HB1.out, HK1.out⟩
end
section
open Go.RowKit Go.Op Go.Maps
theorem cost_nil {D : PDisk} (h : D.edits = []) : EdC 0 D := ⟨by rw [h]; exact Nat.le_refl _, by rw [h]; intro x hx; cases hx⟩
theorem newD_tree {t : List Node} (hok : okTree t = true) : (newD t).tree = t := tree_new (okTree_sorted hok) rfl (by
  show (t.map fun n => (⟨n, 0, false⟩ : Ino)).map (·.node) = t
  rw [List.map_map]; exact List.map_id'' (fun _ => rfl) t)
theorem newD_calm (t : List Node) : Calm (newD t) := ⟨rfl, rfl⟩
theorem newD_fine {t : List Node} (hok : okTree t = true) (hF : Fits t) : Fine (newD t) 0 := ⟨newD_ok hok, good_new hok, light_new hF⟩
structure ThreeR (w' : World) (tv sv bv : Value) (T : List Node) (S : List (Int × Int × Int)) (B : List ByteArray) : Prop where
  tree : w'.ownsRow 0 30 4 tv T.length (cellsOf T)
  stamps : w'.ownsRow 0 93 3 sv S.length (stCells S)
  blocked : w'.ownsRow 0 9 1 bv B.length (B.map Value.string)
def blk3 (tv sv bv : Value) : List Nat := tv.ownBlock.toList ++ (sv.ownBlock.toList ++ bv.ownBlock.toList)
theorem scan_quiet {w0 w : World} {d n0 n m c : Nat} {L : List RuleP} {q : Option Addr} {D E : PDisk} {K : List Nat} (hF : Fine D n0) (ht : okTree D.tree = true) (hS : SameQ D E) (hr : RunE w0 w d E n K) (hR : RlK K w L q c) (hT : Tabs w0)
    (hb : BudC 0 (2 * D.tree.length + 1 + m) E n) :
    Calls Tryz.prog 13 #[.pointer (some ⟨d, 0, none⟩), .slice q L.length c] w fun e w' => ∃ tv sv bv n' E', e = .returned (.tuple #[tv, sv, bv, .int .i64 0]) ∧
      ThreeR w' tv sv bv (foundIn (seeV L) D.tree []) ((foundIn (seeV L) D.tree []).map (stampD D)) (blockIn (seeV L) D.tree ⟨#[]⟩) ∧
      RunE w0 w' d E' n' (blk3 tv sv bv ++ K) ∧ SameQ D E' ∧ BudC 0 m E' n' ∧ Kept K w w' := by
  obtain ⟨E', h1, h2⟩ := walk_quiet (see_ok L) hF ht 17 E ⟨#[]⟩ wk0 hS (.inl rfl) (Nat.le_add_right _ _); have h3 := walkC_le (see := seeV L) 17 E ⟨#[]⟩ wk0; rw [show str (⟨#[]⟩ : ByteArray) = [] from rfl] at h1; have hfl : (foundIn (seeV L) D.tree []).length ≤ D.tree.length := by
    unfold foundIn subN; exact Nat.le_trans (List.length_filter_le _ _) (List.length_filter_le _ _)
  have htl := okTree_len ht; rw [h1] at h3; have h4 : walkC (seeV L) 17 E ⟨#[]⟩ wk0 ≤ 2 * (foundIn (seeV L) D.tree []).length + 1 := by
    generalize walkC (seeV L) 17 E ⟨#[]⟩ wk0 = vc at *
    simp only [bad01, if_true, Wk.plus, wk0, List.nil_append, List.length_nil] at h3
    omega
  have hsc := scan_any (w := w) (m := m) (Bud := BudC 0) (budC w0 d 0) hr hR hT ((budC w0 d 0).less hb (by omega)) (by omega); rw [h1] at hsc; refine hsc.mono ?_; rintro e w' ⟨tv, sv, bv, n', he, k1, k2, k3, k4, k5, k6⟩; refine ⟨tv, sv, bv, n', E', he, ⟨?_, ?_, ?_⟩, k4, h2, k5, k6⟩
  · simpa [Wk.plus, wk0] using k1
  · simpa [Wk.plus, wk0] using k2
  simpa [Wk.plus, wk0] using k3
end
section
open Go.RowKit Go.Op Go.Maps
def awkA : Node := ⟨⟨#[97]⟩, 1, ⟨#[120]⟩, 0⟩
def awk11 : List Node := [⟨ownB, 2, ⟨#[]⟩, 0⟩, awkA]
theorem awk_ok : okTree awk11 = true := by decide +kernel
theorem awk_fits : Fits awk11 := by
  intro n hn
  unfold awk11 awkA at hn; simp at hn
  rcases hn with rfl | rfl <;> exact ⟨by decide, by decide⟩
theorem awk_own : seeV [] ownB = false := by decide +kernel
theorem awk_see : seeV [] awkA.path = true := by decide +kernel
theorem awk_found : foundIn (seeV []) awk11 [] = [awkA] := by
  rw [found_root]; unfold awk11; rw [List.filter_cons_of_neg (by rw [awk_own]; simp), List.filter_cons_of_pos (p := fun n : Node => seeV [] n.path) awk_see]
  rfl
theorem awk_block : blockIn (seeV []) awk11 ⟨#[]⟩ = [] := by
  unfold blockIn; rw [show str (⟨#[]⟩ : ByteArray) = [] from rfl, awk_found]; have : hidIn (seeV []) awk11 ⟨#[]⟩ = false := by
    unfold hidIn awk11; simp [awk_see]
  rw [show List.map Node.path (List.filter (fun n => decide (n.kind = 2)) [awkA]) = [] from rfl, List.filter_cons_of_neg (by rw [this]; simp)]
  rfl
theorem rlk_nil (K : List Nat) (w : World) : RlK K w [] none 0 := ⟨⟨Nat.le_refl _, by decide, fun h => absurd rfl h, fun x hx => by cases hx⟩, fun h => absurd rfl h⟩
theorem scan_quiet0 {w0 w : World} {d n0 n m : Nat} {D E : PDisk} {K : List Nat} (hF : Fine D n0) (ht : okTree D.tree = true) (hS : SameQ D E) (hr : RunE w0 w d E n K) (hT : Tabs w0)
    (hb : BudC 0 (2 * D.tree.length + 1 + m) E n) :
    Calls Tryz.prog 13 #[.pointer (some ⟨d, 0, none⟩), .slice none 0 0] w fun e w' => ∃ tv sv bv n' E', e = .returned (.tuple #[tv, sv, bv, .int .i64 0]) ∧
      ThreeR w' tv sv bv (foundIn (seeV []) D.tree []) ((foundIn (seeV []) D.tree []).map (stampD D)) (blockIn (seeV []) D.tree ⟨#[]⟩) ∧
      RunE w0 w' d E' n' (blk3 tv sv bv ++ K) ∧ SameQ D E' ∧ BudC 0 m E' n' ∧ Kept K w w' := scan_quiet hF ht hS hr (rlk_nil K w) hT hb
set_option maxRecDepth 100000 in
set_option maxHeartbeats 8000000 in
theorem awake11_any (w : World) (hT : Tabs w) : Calls Tryz.prog 10 #[] w fun e w' => e = .returned (.bool true) ∧ Off [] w w' := by
  have HT := Lib.hid hT; clear hT
  go_enter Tryz.func10, Tryz.ntmps10
  go_wp2_with fail
  have hB0 := Blk.new w 30 #[.string ⟨#[46, 104, 97, 119, 115, 101, 114]⟩, .int .i64 2, .string ⟨#[]⟩, .int .i64 0, .string ⟨#[97]⟩, .int .i64 1, .string ⟨#[120]⟩, .int .i64 0]
  have hR0 : Row (w.alloc (.cells #[.string ⟨#[46, 104, 97, 119, 115, 101, 114]⟩, .int .i64 2, .string ⟨#[]⟩, .int .i64 0, .string ⟨#[97]⟩, .int .i64 1, .string ⟨#[120]⟩, .int .i64 0] 30)) (some ⟨w.heap.size, 0, none⟩) awk11 := row_blk hB0 (by
    intro i n h
    match i, h with
    | 0, h => cases h; exact ⟨rfl, rfl, rfl, rfl⟩
    | 1, h => cases h; exact ⟨rfl, rfl, rfl, rfl⟩
    | i + 2, h => simp [awk11] at h)
  have ho0 : Off [] w (w.alloc (.cells #[.string ⟨#[46, 104, 97, 119, 115, 101, 114]⟩, .int .i64 2, .string ⟨#[]⟩, .int .i64 0, .string ⟨#[97]⟩, .int .i64 1, .string ⟨#[120]⟩, .int .i64 0] 30)) := (Off.refl _ _).alloc _
  refine (run_new (some ⟨w.heap.size, 0, none⟩) awk11 2 2 w _ ho0 HT.out hR0 rfl (by decide) awk_ok awk_fits).mono ?_
  rintro e w1 ⟨gd, rfl, hr⟩; have hFN := newD_fine awk_ok awk_fits; have HSC := Lib.hid (scan_quiet0 (m := 0) hFN (by rw [newD_tree awk_ok]; exact awk_ok) (SameQ.refl (newD_calm _) rfl) hr.e HT.out ⟨hFN, cost_nil rfl, by rw [newD_tree awk_ok]; decide, by rw [newD_tree awk_ok]; decide⟩); clear hr hFN hB0 hR0 ho0
  go_wp2_with fail
  refine HSC.out.mono ?_
  rintro e w2 ⟨tv, sv, bv, n', E', rfl, h3, hr2, -, -, -⟩; obtain ⟨h1, h2, h4⟩ := h3; rw [newD_tree awk_ok, awk_found] at h1 h2; rw [newD_tree awk_ok, awk_block] at h4; obtain ⟨p1, c1, rfl, -, -, k1⟩ := own_atG h1; obtain ⟨p2, c2, rfl, -, -, k2⟩ := own_atG h2; obtain ⟨p3, c3, rfl, -, -, -⟩ := own_atG h4; obtain ⟨g1, rfl, -, l1, -, k1⟩ := k1 (by decide)
  obtain ⟨g2, rfl, -, l2, -, k2⟩ := k2 (by decide); have d1 : w2.cell? ⟨g1, 2, none⟩ = some (.string ⟨#[120]⟩) := k1 2 _ rfl
  have d2 : w2.cell? ⟨g2, 0, none⟩ = some (.int .i64 2) := k2 0 _ (by
    show some (Value.int .i64 (lookN (nmOf awk11 0) awkA.path : Int)) = _
    rw [show lookN (nmOf awk11 0) awkA.path = 2 by decide +kernel]
    rfl)
  have HO := Lib.hid hr2.since; clear h1 h2 h4 hr2 k1 k2 HSC
  go_wp2_with fail
  go_ret
  exact ⟨rfl, HO.out⟩
end
section
open Go.RowKit Go.Op Go.Maps
def slV (l : Str) : Nat → Str
  | 0 => []
  | i + 1 => if l[i]? = some 47 then l.take i else slV l i
theorem slV_skip {l : Str} {i : Nat} : ∀ j, (∀ k, i ≤ k → k < i + j → l[k]? ≠ some 47) → slV l (i + j) = slV l i
  | 0, _ => rfl
  | j + 1, h => by
    show (if l[i + j]? = some 47 then l.take (i + j) else slV l (i + j)) = _
    rw [if_neg (h (i + j) (by omega) (by omega))]; exact slV_skip j fun k h1 h2 => h k h1 (by omega)
theorem slV_app {a b : Str} (hb : 47 ∉ b) : slV (a ++ 47 :: b) (a ++ 47 :: b).length = a := by
  rw [show (a ++ 47 :: b).length = (a.length + 1) + b.length by simp; omega, slV_skip]
  · show (if (a ++ 47 :: b)[a.length]? = some 47 then (a ++ 47 :: b).take a.length else _) = a
    rw [if_pos (by simp)]; simp
  intro k h1 h2 h3
  rw [List.getElem?_append_right (by omega)] at h3; obtain ⟨j, rfl⟩ : ∃ j, k = a.length + 1 + j := ⟨k - (a.length + 1), by omega⟩
  rw [show a.length + 1 + j - a.length = j + 1 by omega, List.getElem?_cons_succ] at h3; exact hb (List.mem_of_getElem? h3)
theorem slV_none {b : Str} (hb : 47 ∉ b) : slV b b.length = [] := by
  have := slV_skip (l := b) (i := 0) b.length (fun k _ _ h => hb (List.mem_of_getElem? h)); rw [Nat.zero_add] at this; exact this
theorem slV_parent {p : Str} (h : okPath p = true) : slV p p.length = parent p ∧ (parent p = [] ↔ 47 ∉ p) := by
  have h1 := path_whole h; have hb : 47 ∉ base p := parts_mem p (base p) (by rw [parts_split h]; simp)
  generalize parent p = a at *
  generalize base p = b at *
  by_cases h0 : a = []
  · rw [if_pos h0] at h1
    subst h1 h0; exact ⟨slV_none hb, fun _ => hb, fun _ => rfl⟩
  rw [if_neg h0] at h1; subst h1; exact ⟨slV_app hb, fun e => absurd e h0, fun e => absurd (by simp) e⟩
theorem esc_take {l : Str} {i : Nat} {c : UInt8} (h : l[i]? = some c) : escP (l.take (i + 1)) = escP (l.take i) ++ if escB c then [92, c] else [c] := by
  rw [take_get h, esc_append, esc_cons, esc_nil, List.append_nil]
theorem filter_at {α : Type} {P : α → Bool} {A : List α} {i : Nat} {x : α} (h : A[i]? = some x) (hp : P x = true) : (A.filter P)[((A.take i).filter P).length]? = some x := by
  obtain ⟨hi, rfl⟩ := List.getElem?_eq_some_iff.1 h
  conv => lhs; arg 1; rw [← List.take_append_drop i A, List.drop_eq_getElem_cons hi]
  rw [List.filter_append, List.getElem?_append_right (Nat.le_refl _), Nat.sub_self, List.filter_cons_of_pos hp]
  rfl
theorem filter_takeL {α : Type} {P : α → Bool} {A : List α} {i : Nat} {x : α} (h : A[i]? = some x) : ((A.take (i + 1)).filter P).length = ((A.take i).filter P).length + if P x then 1 else 0 := by
  rw [take_get h, List.filter_append, List.length_append, List.filter_cons]
  split <;> rfl
theorem within_text {p q : Str} (hp : okPath p = true) (hq : okPath q = true) : within p q = true ↔ p = q ∨ (q.length < p.length ∧ p.take (q.length + 1) = q ++ [47]) := by
  rw [within_iff hp hq]
  constructor
  · rintro (e | ⟨s, e⟩)
    · exact .inl e
    subst e; refine .inr ⟨by simp, ?_⟩; rw [show q.length + 1 = (q ++ [47]).length by simp, show q ++ 47 :: s = (q ++ [47]) ++ s by simp, List.take_left']
    rfl
  rintro (e | ⟨h1, h2⟩)
  · exact .inl e
  refine .inr ⟨p.drop (q.length + 1), ?_⟩
  conv => lhs; rw [← List.take_append_drop (q.length + 1) p, h2]
  simp
def shortV (t : List Node) (L : List RuleP) : Bool := L.all (fun r => decide (r.pattern.size ≤ 30)) && (decide ((t.map fun n => n.data.size).sum ≤ 2000) && decide (t.length ≤ 40) && decide (L.length ≤ 8))
end
section
open Go.RowKit Go.Op Go.Maps
def sumD (t : List Node) : Nat := (t.map fun n => n.data.size).sum
theorem sumD_take {t : List Node} {i : Nat} {x : Node} (h : t[i]? = some x) : sumD (t.take (i + 1)) = sumD (t.take i) + x.data.size := by
  unfold sumD; rw [take_get h, List.map_append, List.sum_append]; simp
theorem sumD_leM {t : List Node} {M : Nat} (hF : ∀ n ∈ t, n.data.size ≤ M) : ∀ i, sumD (t.take i) ≤ i * M
  | 0 => by simp [sumD]
  | i + 1 => by
    have ih := sumD_leM hF i; rw [Nat.succ_mul]
    cases h : t[i]? with
    | none =>
      have h1 := List.getElem?_eq_none_iff.1 h; rw [List.take_of_length_le h1] at ih; rw [List.take_of_length_le (Nat.le_succ_of_le h1)]; exact Nat.le_trans ih (Nat.le_add_right _ _)
    | some x =>
      have := hF x (List.mem_of_getElem? h); rw [sumD_take h]; exact Nat.add_le_add ih this
theorem sumD_le {t : List Node} (hF : Fits1 t) (i : Nat) : sumD (t.take i) ≤ i * 1048576 := sumD_leM (fun n hn => (hF n hn).2) i
theorem rules_get {w : World} {q : Option Addr} {L : List RuleP} (h : RlB w q L) {k : Nat} {x : RuleP} (hx : L[k]? = some x) : ∃ a : Addr, q = some a ∧ a.block < w.heap.size ∧ w.cell? ⟨(a.add (k * 2)).block, (a.add (k * 2)).off + 1, none⟩ = some (.string x.pattern) ∧ w.cell? (a.add (k * 2)) = some (.bool x.ignore) := by
  obtain ⟨a, e, hB, hc⟩ := h (fun e => by rw [e] at hx; simp at hx); exact ⟨a, e, hB, (hc k x hx).2, (hc k x hx).1⟩
set_option maxRecDepth 100000 in
set_option maxHeartbeats 4000000 in
theorem short_any (p q : Option Addr) (t : List Node) (L : List RuleP) (n c m d : Nat) (w : World) (hR : Row w p t) (hn : t.length = n) (hnb : n ≤ 1048576) (hF : Fits1 t) (hL : RlB w q L) (hm : L.length = m) (hmb : m ≤ 1048576) (hz : ∀ x ∈ L, x.pattern.size ≤ 1048576) :
    Calls Tryz.prog 11 #[.slice p n c, .slice q m d] w fun e w' => e = .returned (.bool (shortV t L)) ∧ Off [] w w' := by
  have HR := Lib.hid hR; have HN := Lib.hid hn; have HF := Lib.hid hF; have HL := Lib.hid hL; have HM := Lib.hid hm; have HZ := Lib.hid hz; have HV := Lib.hid (show shortV t L = (L.all (fun r => decide (r.pattern.size ≤ 30)) && (decide (sumD t ≤ 2000) && decide (t.length ≤ 40) && decide (L.length ≤ 8))) from rfl); generalize shortV t L = sv at *; clear hR hn hF hL hm hz
  go_enter Tryz.func11, Tryz.ntmps11
  go_wp2_with fail
  go_loopw [10, 5] (fun x z wr => ∃ i : Nat, x = .int .i64 i ∧ z = .int .i64 (sumD (t.take i)) ∧ i ≤ n ∧ Off [] w wr) (fun x _ _ => n - (intOf x).toNat)
  case atStart => exact ⟨0, rfl, by simp [sumD], by omega, Off.refl _ _⟩
  case round =>
    obtain ⟨i, rfl, rfl, hi, ho⟩ := hrel; have hsl := sumD_le HF.out i
    by_cases hlt : i < n
    · have hil : i < t.length := by rw [HN.out]; exact hlt
      obtain ⟨a, rfl, hna, hab⟩ := (HR.out.off ho).get i hil; have hx := List.getElem?_eq_getElem hil; have hxs := (HF.out _ (List.getElem_mem hil)).2; generalize t[i] = x at *; have c2 := hna.data; have habk : (a.add (i * 4)).block < wr.heap.size := by rw [add_block]; exact hab
      have HS := Lib.hid (sumD_take hx); have HO := Lib.hid ho; generalize sumD (t.take i) = S at *; clear hna hx ho
      go_wp2_with fail
      refine ⟨⟨i + 1, by congr 1, ?_, by omega, HO.out⟩, by simp only [intOf]; omega⟩
      rw [HS.out]; congr 1
    obtain rfl : i = n := by omega
    have HS := Lib.hid (show sumD t = sumD (t.take i) by rw [List.take_of_length_le (by rw [HN.out]; exact Nat.le_refl _)]); generalize sumD (t.take i) = S at *; have HO := Lib.hid ho; clear ho hlt
    go_wp2_with fail
    go_loopw [24] (fun x wr => ∃ k : Nat, x = .int .i64 k ∧ k ≤ m ∧ Off [] w wr ∧ Hid ((L.take k).all (fun r => decide (r.pattern.size ≤ 30)) = true)) (fun x _ => m - (intOf x).toNat)
    case atStart => exact ⟨0, rfl, by omega, HO.out, Lib.hid rfl⟩
    case round =>
      obtain ⟨k, rfl, hk, hok, HA⟩ := hrel
      by_cases hkm : k < m
      · obtain ⟨x, hx⟩ : ∃ x, L[k]? = some x := ⟨L[k]'(by rw [HM.out]; exact hkm), List.getElem?_eq_getElem _⟩
        obtain ⟨ar, rfl, hg, c1, -⟩ := rules_get (HL.out.off hok) hx; have hga : (ar.add (k * 2)).block < wr.heap.size := by rw [add_block]; exact hg
        have HX := Lib.hid hx; have HOK := Lib.hid hok; have hxm : x.pattern.size ≤ 1048576 := HZ.out x (List.mem_of_getElem? hx)
        clear hx hok
        by_cases h30 : x.pattern.size ≤ 30
        · have h30' : ¬ (30 : Int) < (x.pattern.size : Int) := by omega
          go_wp2_with fail
          refine ⟨⟨k + 1, by congr 1, by omega, HOK.out, Lib.hid ?_⟩, by simp only [intOf]; omega⟩
          rw [take_get HX.out, List.all_append, HA.out]
          simpa using h30
        have h30' : (30 : Int) < (x.pattern.size : Int) := by omega
        have HV0 := Lib.hid (show sv = false by
          rw [HV.out, Bool.and_eq_false_iff]
          left
          rw [List.all_eq_false]; exact ⟨x, List.mem_of_getElem? HX.out, by simpa using h30⟩)
        go_wp2_with fail
        go_ret
        exact ⟨by rw [HV0.out]; rfl, HOK.out⟩
      obtain rfl : k = m := by omega
      have HOK := Lib.hid hok; have HV2 := Lib.hid (show sv = (decide (S ≤ 2000) && decide (i ≤ 40) && decide (k ≤ 8)) by
        have := HA.out; rw [List.take_of_length_le (by rw [HM.out]; exact Nat.le_refl _)] at this; rw [HV.out, this, HS.out, HN.out, HM.out]
        rfl)
      clear hok HA hkm
      by_cases h1 : (S : Int) ≤ 2000
      · by_cases h2 : (i : Int) ≤ 40
        · by_cases h3 : (k : Int) ≤ 8
          · go_wp2_with fail
            go_ret
            exact ⟨by rw [HV2.out, decide_eq_true (by omega), decide_eq_true (by omega), decide_eq_true (by omega)]; rfl, HOK.out⟩
          go_wp2_with fail
          go_ret
          exact ⟨by rw [HV2.out, decide_eq_false (p := k ≤ 8) (by omega), Bool.and_false]; rfl, HOK.out⟩
        go_wp2_with fail
        go_ret
        exact ⟨by rw [HV2.out, decide_eq_false (p := i ≤ 40) (by omega), Bool.and_false, Bool.false_and]; rfl, HOK.out⟩
      go_wp2_with fail
      go_ret
      exact ⟨by rw [HV2.out, decide_eq_false (p := S ≤ 2000) (by omega), Bool.false_and, Bool.false_and]; rfl, HOK.out⟩
def getB (t : List Node) (path : ByteArray) : Bool := okTree t && t.any fun n => decide (n.path = path)
theorem get6_res {W : World} {g : Nat} {nd : Node} {b : Bool} {tmps : Array Value} (h : Blk W g 30 #[.string nd.path, .int .i64 nd.kind, .string nd.data, .int .i64 nd.mode]) (h4 : tmps.getD 4 undef = .pointer (some ⟨g, 0, none⟩)) (h5 : tmps.getD 5 undef = .bool b) :
    (results Tryz.f14 tmps).run Tryz.prog W = .ok (.tuple #[nd.val, .bool b]) W := by
  have hc := h.cell; unfold Node.val; have h4' : tmps[4]?.getD undef = .pointer (some ⟨g, 0, none⟩) := by simpa using h4
  have h5' : tmps[5]?.getD undef = .bool b := by simpa using h5
  simp [results, Tryz.f14, go_sem, h4', h5', hc]
theorem four_set {W : World} {g : Nat} {ty : TypeId} {a b c d x y z u : Value} (h : Blk W g ty #[a, b, c, d]) : Blk ((((W.setCell ⟨g, 0, none⟩ x).setCell ⟨g, 1, none⟩ y).setCell ⟨g, 2, none⟩ z).setCell ⟨g, 3, none⟩ u) g ty #[x, y, z, u] := by
  simpa using (((h.set_ 0 x).set_ 1 y).set_ 2 z).set_ 3 u
theorem four_off {w W : World} {g : Nat} {x y z u : Value} (ho : Off [] w W) (hg : w.heap.size ≤ g) : Off [] w ((((W.setCell ⟨g, 0, none⟩ x).setCell ⟨g, 1, none⟩ y).setCell ⟨g, 2, none⟩ z).setCell ⟨g, 3, none⟩ u) :=
  (((ho.setCell (.inl hg) _).setCell (.inl hg) _).setCell (.inl hg) _).setCell (.inl hg) _
set_option maxRecDepth 100000 in
set_option maxHeartbeats 4000000 in
theorem rget6_any (p : Option Addr) (t : List Node) (n c : Nat) (path : ByteArray) (w : World) (hR : Row w p t) (hn : t.length = n) (hbig : n ≤ 1099511627776) (hF : Fits1 t) :
    Calls Tryz.prog 14 #[.slice p n c, .string path] w fun e w' => ∃ nd : Node, e = .returned (.tuple #[nd.val, .bool (getB t path)]) ∧ (getB t path = true → nd ∈ t ∧ nd.path = path) ∧ Off [] w w' := by
  have HR := Lib.hid hR; have HN := Lib.hid hn; have HF := Lib.hid hF; have HFI := Lib.hid (fun (W : World) (ho : Off [] w W) => find_any p t n c path W (hR.off ho) hn hbig); have HCK := Lib.hid (fun (W : World) (ho : Off [] w W) (v : Int) (hv : chkV t = v) => rcheck_v p t n c W (hR.off ho) hn hbig hF v hv); clear hR hn hF
  go_enter Tryz.func14, Tryz.ntmps14
  go_wp2_with fail
  have hoA := (Off.refl [] w).alloc (.cells #[.string ⟨#[]⟩, .int .i64 0, .string ⟨#[]⟩, .int .i64 0] 30); have HB := Lib.hid (Blk.new w 30 #[.string ⟨#[]⟩, .int .i64 0, .string ⟨#[]⟩, .int .i64 0]); refine (HFI.out _ hoA).mono ?_; rintro e w1 ⟨r, rfl, hf, ho1⟩; have HB1 := Lib.hid (HB.out.off ho1 (by simp)); have HO1 := Lib.hid (hoA.trans_nil ho1); clear hoA ho1
  rcases hf with ⟨rfl, hnone⟩ | ⟨i, x, rfl, hx, hxp, -⟩
  · have hb : getB t path = false := by
      unfold getB; rw [Bool.and_eq_false_iff]
      right
      rw [List.any_eq_false]
      intro y hy
      obtain ⟨j, hj⟩ := List.getElem?_of_mem hy
      simpa using hnone j y hj
    have HBF := Lib.hid hb; clear hb; have hcc := HB1.out.cell; have hff := HB1.out.frozen; have hll := HB1.out.lt
    go_wp2_with fail
    refine bodyPost_ret (v := .tuple #[Node.val ⟨⟨#[]⟩, 0, ⟨#[]⟩, 0⟩, .bool false]) (get6_res (g := w.heap.size) ?_ rfl rfl) rfl ?_
    · exact four_set HB1.out
    exact ⟨⟨⟨#[]⟩, 0, ⟨#[]⟩, 0⟩, by rw [HBF.out], (fun h => by rw [HBF.out] at h; cases h), four_off HO1.out (Nat.le_refl _)⟩
  have hil : i < n := by rw [← HN.out]; exact (List.getElem?_eq_some_iff.1 hx).1
  have hi0 : ¬ ((i : Int) < 0) := by omega
  cases hok : okTree t
  · have hb : getB t path = false := by unfold getB; rw [hok]; rfl
    have HBF := Lib.hid hb; have HC := Lib.hid (HCK.out w1 HO1.out 60 (chkV_bad hok)); clear hok hx hb
    go_wp2_with fail
    refine HC.out.mono ?_
    rintro e w2 ⟨rfl, ho2⟩; have HB2 := Lib.hid (HB1.out.off ho2 (by simp)); have HO2 := Lib.hid (HO1.out.trans_nil ho2); have hcc := HB2.out.cell; have hff := HB2.out.frozen; have hll := HB2.out.lt; clear ho2
    go_wp2_with fail
    refine bodyPost_ret (v := .tuple #[Node.val ⟨⟨#[]⟩, 0, ⟨#[]⟩, 0⟩, .bool false]) (get6_res (g := w.heap.size) ?_ rfl rfl) rfl ?_
    · exact four_set HB2.out
    exact ⟨⟨⟨#[]⟩, 0, ⟨#[]⟩, 0⟩, by rw [HBF.out], (fun h => by rw [HBF.out] at h; cases h), four_off HO2.out (Nat.le_refl _)⟩
  have hb : getB t path = true := by
    unfold getB; rw [hok, Bool.true_and, List.any_eq_true]; exact ⟨x, List.mem_of_getElem? hx, by simpa using hxp⟩
  have HBF := Lib.hid hb; have HC := Lib.hid (HCK.out w1 HO1.out 0 (chkV_ok hok)); have HX := Lib.hid hx; have HXP := Lib.hid hxp; clear hok hb hx hxp
  go_wp2_with fail
  refine HC.out.mono ?_
  rintro e w2 ⟨rfl, ho2⟩; have HB2 := Lib.hid (HB1.out.off ho2 (by simp)); have HO2 := Lib.hid (HO1.out.trans_nil ho2); have hcc := HB2.out.cell; have hff := HB2.out.frozen; have hll := HB2.out.lt; obtain ⟨a, rfl, hna, hab⟩ := (HR.out.off HO2.out).get i (by rw [HN.out]; exact hil)
  rw [(Option.some.inj ((List.getElem?_eq_getElem _).symm.trans HX.out) : t[i]'(by rw [HN.out]; exact hil) = x)] at hna; have c0 := hna.path; have c1 := hna.kind; have c2 := hna.data; have c3 := hna.mode; have habk : (a.add (i * 4)).block < w2.heap.size := by rw [add_block]; exact hab
  clear ho2 hna
  go_wp2_with fail
  refine bodyPost_ret (v := .tuple #[x.val, .bool true]) (get6_res (g := w.heap.size) ?_ rfl rfl) rfl ?_
  · exact four_set HB2.out
  exact ⟨x, by rw [HBF.out], fun _ => ⟨List.mem_of_getElem? HX.out, HXP.out⟩, four_off HO2.out (Nat.le_refl _)⟩
end
section
open Go.RowKit Go.Op Go.Maps
theorem byte_cases (b : UInt8) : b = 47 ∨ b = 42 ∨ b = 63 ∨ b = 91 ∨ b = 92 ∨ (b ≠ 47 ∧ b ≠ 42 ∧ b ≠ 63 ∧ b ≠ 91 ∧ b ≠ 92) := by
  by_cases h1 : b = 47
  · exact .inl h1
  by_cases h2 : b = 42
  · exact .inr (.inl h2)
  by_cases h3 : b = 63
  · exact .inr (.inr (.inl h3))
  by_cases h4 : b = 91
  · exact .inr (.inr (.inr (.inl h4)))
  by_cases h5 : b = 92
  · exact .inr (.inr (.inr (.inr (.inl h5))))
  exact .inr (.inr (.inr (.inr (.inr ⟨h1, h2, h3, h4, h5⟩))))
theorem short_v (p q : Option Addr) (t : List Node) (L : List RuleP) (n c m d : Nat) (w : World) (hR : Row w p t) (hn : t.length = n) (hnb : n ≤ 1048576) (hF : Fits1 t) (hL : RlB w q L) (hm : L.length = m) (hmb : m ≤ 1048576) (hz : ∀ x ∈ L, x.pattern.size ≤ 1048576) (v : Bool) (hv : shortV t L = v) :
    Calls Tryz.prog 11 #[.slice p n c, .slice q m d] w fun e w' => e = .returned (.bool v) ∧ Off [] w w' := hv ▸ short_any p q t L n c m d w hR hn hnb hF hL hm hmb hz
theorem rlb_nil (w : World) (q : Option Addr) : RlB w q [] := fun h => absurd rfl h
theorem one_byte {s : ByteArray} {i : Nat} (h : i < s.size) : ∃ b, (str s)[i]? = some b ∧ str (s.extract i (i + 1)) = [b] := by
  have hl : i < (str s).length := by rw [str_size]; exact h
  refine ⟨(str s)[i], List.getElem?_eq_getElem hl, ?_⟩
  rw [str_extract]; rw [List.drop_eq_getElem_cons hl, show i + 1 - i = 1 by omega]
  rfl
theorem extract_take (s : ByteArray) (i : Nat) : s.extract 0 i = bs ((str s).take i) := str_inj (by rw [str_bs, str_extract]; rfl)
set_option maxRecDepth 100000 in
set_option maxHeartbeats 16000000 in
theorem shides_any (fp : Option Addr) (t : List Node) (n c : Nat) (at_ : Int) (w : World) (hR : Row w fp t) (hn : t.length = n) (hc : n ≤ c) (_hcm : c ≤ maxLen) (hF : Fits1 t) (hnb : n ≤ 1048576) (hT : Tabs w) :
    Calls Tryz.prog 3 #[.slice fp n c, .int .i64 at_] w fun e w' => e = .returned (.bool true) ∧ Off [] w w' := by
  have HT := Lib.hid hT; have HR0 := Lib.hid hR; have HN := Lib.hid hn; have HFT := Lib.hid hF; have HAW := Lib.hid (fun (W : World) (ho : Off [] w W) => awake11_any W (hT.off ho)); have HSH := Lib.hid (fun (W : World) (ho : Off [] w W) (v : Bool) (hv : shortV t [] = v) => short_v fp none t [] n c 0 0 W (hR.off ho) hn hnb hF (rlb_nil _ _) rfl (by decide) (fun x hx => by cases hx) v hv)
  unfold maxLen at _hcm; clear hT hR hn hF
  go_enter Tryz.func3, Tryz.ntmps3
  go_wp2_with fail
  refine (HAW.out _ (Off.refl _ _)).mono ?_
  rintro e w1 ⟨rfl, ho1⟩; have HO1 := Lib.hid ho1; clear ho1 HAW
  cases hs : shortV t []
  · have HSC := Lib.hid (HSH.out w1 HO1.out false hs)
    clear hs
    go_wp2_with fail
    refine HSC.out.mono ?_
    rintro e w2 ⟨rfl, ho2⟩
    go_wp2_with fail
    go_ret
    exact ⟨rfl, HO1.out.trans_nil ho2⟩
  have HSC := Lib.hid (HSH.out w1 HO1.out true hs); have hn40 : n ≤ 40 := by
    unfold shortV at hs; simp only [Bool.and_eq_true, decide_eq_true_eq] at hs; rw [← HN.out]; exact hs.2.1.2
  clear hs HSH
  by_cases hlo : at_ < 0
  · go_wp2_with fail
    refine HSC.out.mono ?_
    rintro e w2 ⟨rfl, ho2⟩
    go_wp2_with fail
    go_ret
    exact ⟨rfl, HO1.out.trans_nil ho2⟩
  by_cases hhi : (n : Int) ≤ at_
  · go_wp2_with fail
    refine HSC.out.mono ?_
    rintro e w2 ⟨rfl, ho2⟩
    go_wp2_with fail
    go_ret
    exact ⟨rfl, HO1.out.trans_nil ho2⟩
  obtain ⟨at1, rfl⟩ : ∃ k : Nat, at_ = k := ⟨at_.toNat, by omega⟩
  have hat : at1 < n := by omega
  go_wp2_with fail
  refine HSC.out.mono ?_
  rintro e w2 ⟨rfl, ho2⟩; have HO2 := Lib.hid (HO1.out.trans_nil ho2); clear ho2 HSC
  by_cases hok : okTree t = true
  case neg =>
    have hok : okTree t = false := by simpa using hok
    have HNB := Lib.hid (dnew_bad fp t n c w2 (HR0.out.off HO2.out) HN.out hc (by unfold maxLen; omega) hok HFT.out.fits (HT.out.off HO2.out)); clear hok
    go_wp2_with fail
    refine HNB.out.mono ?_
    rintro e w3 ⟨rfl, ho3⟩
    go_wp2_with fail
    go_ret
    exact ⟨rfl, HO2.out.trans_nil ho3⟩
  have HOK := Lib.hid hok; have HNEW := Lib.hid (run_new fp t n c w2 w2 (Off.refl _ _) (HT.out.off HO2.out) (HR0.out.off HO2.out) HN.out hc hok HFT.out.fits); clear hok
  go_wp2_with fail
  refine HNEW.out.mono ?_
  rintro e w3 ⟨gd, rfl, hr⟩; have HR3 := Lib.hid hr.e; have hof := HO2.out.trans_nil hr.since; obtain ⟨nd, hnd⟩ : ∃ nd, t[at1]? = some nd := ⟨t[at1]'(by rw [HN.out]; exact hat), List.getElem?_eq_getElem _⟩
  obtain ⟨a, rfl, hna, hab⟩ := (HR0.out.off hof).get at1 (by rw [HN.out]; exact hat); rw [(Option.some.inj ((List.getElem?_eq_getElem _).symm.trans hnd) : t[at1]'(by rw [HN.out]; exact hat) = nd)] at hna; have c0 := hna.path; have HND := Lib.hid (List.mem_of_getElem? hnd); have HPK := Lib.hid (okTree_path HOK.out HND.out); obtain ⟨path, hpa⟩ : ∃ path, nd.path = path := ⟨_, rfl⟩
  have HPA := Lib.hid hpa; have hps : path.size ≤ 400 := by rw [← hpa]; exact okTree_small HOK.out HND.out
  rw [hpa] at c0; have HPK := Lib.hid (show okPath (str path) = true by have := HPK.out; unfold Node.p at this; rw [hpa] at this; exact this); clear hr hof hna hab hnd hpa HNEW
  go_wp2_with fail
  go_loopw [10, 8, 9] (fun x y z wr => ∃ (i : Nat) (Y Z : ByteArray), x = .int .i64 i ∧ y = .string Y ∧ z = .string Z ∧ i ≤ path.size ∧ Hid (Y = bs (slV (str path) i) ∧ Z = bs (escP ((str path).take i))) ∧ Z.size ≤ 2 * i ∧ Off [] w3 wr) (fun x _ _ _ => path.size - (intOf x).toNat)
  case atStart => exact ⟨0, ⟨#[]⟩, ⟨#[]⟩, rfl, rfl, rfl, Nat.zero_le _, Lib.hid ⟨rfl, rfl⟩, Nat.le_refl _, Off.refl _ _⟩
  case round =>
    obtain ⟨i, Y, Z, rfl, rfl, rfl, hi, HYZ, hz, hof⟩ := hrel; have HO := Lib.hid hof; clear hof c0
    by_cases hlt : i < path.size
    · obtain ⟨b, hb, hE⟩ := one_byte hlt
      have hcs : (path.extract i (i + 1)).size = 1 := by rw [← str_size, hE]; rfl
      have hZ : (escP ((str path).take i)).length = Z.size := by rw [HYZ.out.2, bs_size]
      have HB := Lib.hid hb; have hY : i ≤ path.size := hi
      have s1 : (0 : Int) ≤ (i : Int) := by omega
      have s2 : (i : Int) ≤ ↑i + 1 := by omega
      have s3 : (↑i + 1 : Int) ≤ ↑path.size := by omega
      have s4 : (i : Int) ≤ ↑path.size := by omega
      go_upto_region 15 with fail
      obtain ⟨X, hX⟩ : ∃ X, path.extract i (i + 1) = X := ⟨_, rfl⟩
      rw [hX] at hE hcs
      try simp only [hX]
      have HX := Lib.hid hX; have HE := Lib.hid hE; have hEl : X.toList = [b] := by rw [toList_str]; exact hE
      clear hb hX hE hZ
      rcases byte_cases b with rfl | rfl | rfl | rfl | rfl | ⟨h47, h42, h63, h91, h92⟩
      · have f47 : (X.toList == [47]) = true := by rw [hEl]; rfl
        have f42 : (X.toList == [42]) = false := by rw [hEl]; rfl
        have f63 : (X.toList == [63]) = false := by rw [hEl]; rfl
        have f91 : (X.toList == [91]) = false := by rw [hEl]; rfl
        have f92 : (X.toList == [92]) = false := by rw [hEl]; rfl
        clear hEl
        go_wp2_with fail
        have heb : escB 47 = false := by decide
        refine ⟨⟨i + 1, path.extract 0 i, Z ++ X, by congr 1, rfl, rfl, by omega, Lib.hid ⟨?_, ?_⟩, ?_, HO.out⟩, by simp only [intOf]; omega⟩
        · rw [extract_take]; congr 1; show _ = if (str path)[i]? = some 47 then _ else _; rw [if_pos HB.out]
        · apply str_inj
          rw [str_bs, esc_take HB.out, heb]; rw [str_append, HE.out, HYZ.out.2, str_bs]
          rfl
        rw [ByteArray.size_append, hcs]; omega
      · have f47 : (X.toList == [47]) = false := by rw [hEl]; rfl
        have f42 : (X.toList == [42]) = true := by rw [hEl]; rfl
        have f63 : (X.toList == [63]) = false := by rw [hEl]; rfl
        have f91 : (X.toList == [91]) = false := by rw [hEl]; rfl
        have f92 : (X.toList == [92]) = false := by rw [hEl]; rfl
        clear hEl
        go_wp2_with fail
        have heb : escB 42 = true := by decide
        refine ⟨⟨i + 1, Y, Z ++ (⟨#[92]⟩ : ByteArray) ++ X, by congr 1, rfl, rfl, by omega, Lib.hid ⟨?_, ?_⟩, ?_, HO.out⟩, by simp only [intOf]; omega⟩
        · rw [HYZ.out.1]; congr 1; show _ = if (str path)[i]? = some 47 then _ else _; rw [if_neg (by rw [HB.out]; simp)]
        · apply str_inj
          rw [str_bs, esc_take HB.out, heb]; rw [str_append, str_append, HE.out, HYZ.out.2, str_bs]; simp [str]
        rw [ByteArray.size_append, ByteArray.size_append, hcs]
        show Z.size + 1 + 1 ≤ _; omega
      · have f47 : (X.toList == [47]) = false := by rw [hEl]; rfl
        have f42 : (X.toList == [42]) = false := by rw [hEl]; rfl
        have f63 : (X.toList == [63]) = true := by rw [hEl]; rfl
        have f91 : (X.toList == [91]) = false := by rw [hEl]; rfl
        have f92 : (X.toList == [92]) = false := by rw [hEl]; rfl
        clear hEl
        go_wp2_with fail
        have heb : escB 63 = true := by decide
        refine ⟨⟨i + 1, Y, Z ++ (⟨#[92]⟩ : ByteArray) ++ X, by congr 1, rfl, rfl, by omega, Lib.hid ⟨?_, ?_⟩, ?_, HO.out⟩, by simp only [intOf]; omega⟩
        · rw [HYZ.out.1]; congr 1; show _ = if (str path)[i]? = some 47 then _ else _; rw [if_neg (by rw [HB.out]; simp)]
        · apply str_inj
          rw [str_bs, esc_take HB.out, heb]; rw [str_append, str_append, HE.out, HYZ.out.2, str_bs]; simp [str]
        rw [ByteArray.size_append, ByteArray.size_append, hcs]
        show Z.size + 1 + 1 ≤ _; omega
      · have f47 : (X.toList == [47]) = false := by rw [hEl]; rfl
        have f42 : (X.toList == [42]) = false := by rw [hEl]; rfl
        have f63 : (X.toList == [63]) = false := by rw [hEl]; rfl
        have f91 : (X.toList == [91]) = true := by rw [hEl]; rfl
        have f92 : (X.toList == [92]) = false := by rw [hEl]; rfl
        clear hEl
        go_wp2_with fail
        have heb : escB 91 = true := by decide
        refine ⟨⟨i + 1, Y, Z ++ (⟨#[92]⟩ : ByteArray) ++ X, by congr 1, rfl, rfl, by omega, Lib.hid ⟨?_, ?_⟩, ?_, HO.out⟩, by simp only [intOf]; omega⟩
        · rw [HYZ.out.1]; congr 1; show _ = if (str path)[i]? = some 47 then _ else _; rw [if_neg (by rw [HB.out]; simp)]
        · apply str_inj
          rw [str_bs, esc_take HB.out, heb]; rw [str_append, str_append, HE.out, HYZ.out.2, str_bs]; simp [str]
        rw [ByteArray.size_append, ByteArray.size_append, hcs]
        show Z.size + 1 + 1 ≤ _; omega
      · have f47 : (X.toList == [47]) = false := by rw [hEl]; rfl
        have f42 : (X.toList == [42]) = false := by rw [hEl]; rfl
        have f63 : (X.toList == [63]) = false := by rw [hEl]; rfl
        have f91 : (X.toList == [91]) = false := by rw [hEl]; rfl
        have f92 : (X.toList == [92]) = true := by rw [hEl]; rfl
        clear hEl
        go_wp2_with fail
        have heb : escB 92 = true := by decide
        refine ⟨⟨i + 1, Y, Z ++ (⟨#[92]⟩ : ByteArray) ++ X, by congr 1, rfl, rfl, by omega, Lib.hid ⟨?_, ?_⟩, ?_, HO.out⟩, by simp only [intOf]; omega⟩
        · rw [HYZ.out.1]; congr 1; show _ = if (str path)[i]? = some 47 then _ else _; rw [if_neg (by rw [HB.out]; simp)]
        · apply str_inj
          rw [str_bs, esc_take HB.out, heb]; rw [str_append, str_append, HE.out, HYZ.out.2, str_bs]; simp [str]
        rw [ByteArray.size_append, ByteArray.size_append, hcs]
        show Z.size + 1 + 1 ≤ _; omega
      have f47 : (X.toList == [47]) = false := by rw [hEl]; simpa using h47
      have f42 : (X.toList == [42]) = false := by rw [hEl]; simpa using h42
      have f63 : (X.toList == [63]) = false := by rw [hEl]; simpa using h63
      have f91 : (X.toList == [91]) = false := by rw [hEl]; simpa using h91
      have f92 : (X.toList == [92]) = false := by rw [hEl]; simpa using h92
      clear hEl
      go_wp2_with fail
      have heb : escB b = false := by unfold escB; simp [h42, h63, h91, h92]
      refine ⟨⟨i + 1, Y, Z ++ X, by congr 1, rfl, rfl, by omega, Lib.hid ⟨?_, ?_⟩, ?_, HO.out⟩, by simp only [intOf]; omega⟩
      · rw [HYZ.out.1]; congr 1; show _ = if (str path)[i]? = some 47 then _ else _; rw [if_neg (by rw [HB.out]; simp; exact h47)]
      · apply str_inj
        rw [str_bs, esc_take HB.out, heb]; rw [str_append, HE.out, HYZ.out.2, str_bs]
        rfl
      rw [ByteArray.size_append, hcs]; omega
    obtain rfl : i = path.size := by omega
    have HSL := Lib.hid (slV_parent HPK.out); have HY := Lib.hid (show Y = bs (parent (str path)) by rw [HYZ.out.1, ← str_size, HSL.out.1]); have HZ := Lib.hid (show str Z = escP (str path) by rw [HYZ.out.2, str_bs, List.take_of_length_le (by rw [str_size]; exact Nat.le_refl _)]); have HR4 := Lib.hid (HR3.out.off HO.out); clear HYZ hlt hi
    by_cases hy : Y = ⟨#[]⟩
    · subst hy
      go_wp2_with fail
      go_ret
      exact ⟨rfl, HO2.out.trans_nil HR4.out.since⟩
    have hy1 : Y.toList.isEmpty = false := by
      rw [toList_str, List.isEmpty_eq_false_iff]; exact fun e => hy (str_inj e)
    by_cases hz60 : (60 : Int) < (Z.size : Int)
    · go_wp2_with fail
      go_ret
      exact ⟨rfl, HO2.out.trans_nil HR4.out.since⟩
    have HP47 := Lib.hid (show 47 ∈ str path from Classical.byContradiction fun h => hy (HY.out.trans (by rw [HSL.out.2.2 h]; rfl))); have HZL := Lib.hid (show (escP (str path)).length ≤ 60 by rw [← HZ.out, str_size]; omega); have HFN := Lib.hid (newD_fine HOK.out HFT.out.fits); have HTW := Lib.hid (HT.out.off HO2.out)
    have HSC1 := Lib.hid (scan_quiet0 (m := 2 * t.length + 1) HFN.out (by rw [newD_tree HOK.out]; exact HOK.out) (SameQ.refl (newD_calm _) rfl) HR4.out HTW.out ⟨HFN.out, cost_nil rfl, by rw [newD_tree HOK.out, HN.out]; omega, by rw [newD_tree HOK.out, HN.out]; omega⟩); clear hy HR3 hz HSL HO
    go_wp2_with fail
    refine HSC1.out.mono ?_
    rintro e w4 ⟨tv, sv, bv, n1, E1, rfl, h3, hr, hsq, hbd, -⟩; obtain ⟨h1, -, -⟩ := h3; rw [newD_tree HOK.out] at h1; have HA4 := Lib.hid h1; have HR5 := Lib.hid hr; have HSQ := Lib.hid hsq; have HBD := Lib.hid hbd; clear h1 hr hsq hbd HSC1; have HAL := Lib.hid ((Off.refl [] w4).alloc (.cells #[.bool true, .string Z] 36))
    have HR6 := Lib.hid (HR5.out.more (k' := [w4.heap.size]) HAL.out (fun b hb => by simp at hb; subst hb; simp)); have HRL := Lib.hid (show RlK ([w4.heap.size] ++ (blk3 tv sv bv ++ [])) (w4.alloc (.cells #[.bool true, .string Z] 36)) [⟨true, Z⟩] (some ⟨w4.heap.size, 0, none⟩) 1 from
      ⟨⟨Nat.le_refl _, by decide, RlB.of_blk (Blk.new w4 _ _) (fun k x hx => by
        match k, hx with
        | 0, hx => cases hx; exact ⟨rfl, rfl⟩
        | k + 1, hx => simp at hx), fun x hx => by
        simp at hx
        subst hx; dsimp only; omega⟩, fun _ g hg => by cases hg; simp⟩)
    have HSC2 := Lib.hid (scan_quiet (m := 0) HFN.out (by rw [newD_tree HOK.out]; exact HOK.out) HSQ.out HR6.out HRL.out HTW.out (by
      have := HBD.out; rw [newD_tree HOK.out]; exact this))
    go_wp2_with fail
    refine HSC2.out.mono ?_
    rintro e w5 ⟨tv2, sv2, bv2, n2, E2, rfl, h3, hr, -, -, hk⟩; obtain ⟨h1, -, h4⟩ := h3; rw [newD_tree HOK.out] at h1 h4; have HA5 := Lib.hid (hk.row (own_offk (k := []) HA4.out HAL.out (by simp)) (by
      intro b hb
      refine List.mem_append_right _ (List.mem_append_left _ ?_)
      unfold blk3; exact List.mem_append_left _ hb))
    have HB5 := Lib.hid h1; have HL5 := Lib.hid h4; have HO5 := Lib.hid (HO2.out.trans_nil hr.since); clear h1 h4 hr hk HSC2 HRL HR6 HAL HBD HSQ HR5 HA4; obtain ⟨A, hA⟩ : ∃ A, foundIn (seeV []) t [] = A := ⟨_, rfl⟩
    have hBe : foundIn (seeV [⟨true, Z⟩]) t [] = A.filter fun n => !within n.p (str path) := by
      rw [← hA]; exact hides_found HZ.out HPK.out HP47.out (by have := HZL.out; omega)
    rw [hA] at HA5; rw [hBe] at HB5; have HAE := Lib.hid hA; obtain ⟨pa, ca, rfl, hra, -⟩ := own_row HA5.out; obtain ⟨pb, cb, rfl, hrb, -⟩ := own_row HB5.out; have HRA := Lib.hid hra; have HRB := Lib.hid hrb; obtain ⟨na, hna⟩ : ∃ na, A.length = na := ⟨_, rfl⟩
    obtain ⟨nb, hnb2⟩ : ∃ nb, (A.filter fun n => !within n.p (str path)).length = nb := ⟨_, rfl⟩
    rw [hna, hnb2]; have HNA := Lib.hid hna; have HNB := Lib.hid hnb2; have hnal : na ≤ 1048576 := by
      rw [← HNA.out, ← HAE.out]; have := okTree_len HOK.out; unfold foundIn subN; have h1 := List.length_filter_le (fun n : Node => seeV [] n.path) (List.filter (fun n => inD n.p []) t); have h2 := List.length_filter_le (fun n : Node => inD n.p []) t; omega
    have hnbl : nb ≤ na := by rw [← HNA.out, ← HNB.out]; exact List.length_filter_le _ _
    have HAM := Lib.hid (show ∀ x ∈ A, x ∈ t ∧ seeV [] x.path = true from fun x hx => by
      rw [← HAE.out, found_root] at hx; exact List.mem_filter.1 hx)
    have HFA := Lib.hid (show Fits1 A from fun x hx => HFT.out x (HAM.out x hx).1); clear hra hrb hna hnb2 hA hBe HA5 HB5
    go_wp2_with fail
    go_loopw [120, 19] (fun x z wr => ∃ i k : Nat, x = .int .i64 i ∧ z = .int .i64 k ∧ i ≤ na ∧ Hid (k = ((A.take i).filter fun n => !within n.p (str path)).length) ∧ k ≤ i ∧ Off [] w5 wr) (fun x _ _ => na - (intOf x).toNat)
    case atStart => exact ⟨0, 0, rfl, rfl, Nat.zero_le _, Lib.hid (by simp), Nat.le_refl _, Off.refl _ _⟩
    case round =>
      obtain ⟨i, k, rfl, rfl, hi, HK, hki, hof⟩ := hrel
      by_cases hlt : i < na
      · obtain ⟨x, hx⟩ : ∃ x, A[i]? = some x := ⟨A[i]'(by rw [HNA.out]; exact hlt), List.getElem?_eq_getElem _⟩
        obtain ⟨ga, rfl, hnx, hgb⟩ := (HRA.out.off hof).get i (by rw [HNA.out]; exact hlt); rw [(Option.some.inj ((List.getElem?_eq_getElem _).symm.trans hx) : A[i]'(by rw [HNA.out]; exact hlt) = x)] at hnx; have c0 := hnx.path; have c1 := hnx.kind; have c2 := hnx.data; have c3 := hnx.mode; have hgb2 : (ga.add (i * 4)).block < wr.heap.size := by rw [add_block]; exact hgb
        have HX := Lib.hid hx; have HO := Lib.hid hof; have hxk := okTree_path HOK.out (HAM.out x (List.mem_of_getElem? hx)).1; have HW := Lib.hid (within_text hxk HPK.out); clear hx hof hnx hgb hxk
        go_upto_region 30 with fail
        refine code_gen (fun W => Blk W wr.heap.size 30 #[.string x.path, .int .i64 x.kind, .string x.data, .int .i64 x.mode] ∧ Off [] wr W) ⟨Blk.new _ _ _, (Off.refl _ _).alloc _⟩ ?_
        rintro W ⟨hbx, hofx⟩; have HBX := Lib.hid hbx; have hcx := hbx.cell; have hlx := hbx.lt; have HOX := Lib.hid (HO.out.trans_nil hofx); clear c0 c1 c2 c3 hgb2 hbx hofx; have hF1 : ∀ b, within x.p (str path) = b → Hid (k + (if b then 0 else 1) = ((A.take (i + 1)).filter fun n => !within n.p (str path)).length) := fun b hb => Lib.hid (by
          rw [filter_takeL HX.out, ← HK.out, hb]
          cases b <;> rfl)
        have HF1 := Lib.hid hF1; clear hF1
        by_cases he : x.path = path
        · have f1 : (x.path.toList == path.toList) = true := by rw [he]; exact beq_self_eq_true _
          have HR := Lib.hid (HF1.out true (HW.out.2 (.inl (by unfold Node.p; rw [he])))); clear he
          go_wp2_with fail
          exact ⟨⟨i + 1, k, by congr 1, rfl, by omega, HR.out, by omega, HOX.out⟩, by simp only [intOf]; omega⟩
        have f1 : (x.path.toList == path.toList) = false := beq_eq_false_iff_ne.2 (fun e => he (toList_iff.1 e))
        have hne : x.p ≠ str path := fun e => he (str_inj e)
        have hbd : ¬ 9223372036854775807 < path.size + 1 := by omega
        have rest : within x.p (str path) = false → Hid (k < nb ∧ (A.filter fun n => !within n.p (str path))[k]? = some x) := fun hw => Lib.hid (by
          have h1 := filter_at (P := fun n => !within n.p (str path)) HX.out (by rw [hw]; rfl); rw [← HK.out] at h1; exact ⟨by rw [← HNB.out]; exact (List.getElem?_eq_some_iff.1 h1).1, h1⟩)
        have HREST := Lib.hid rest; have heq := eqNode x x; rw [decide_eq_true rfl] at heq; have HEQ := Lib.hid heq; clear rest heq he
        by_cases hl : path.size < x.path.size
        · have hl2 : (path.size : Int) < (x.path.size : Int) := by omega
          by_cases hp : (str x.path).take (path.size + 1) = str path ++ [47]
          · have f2 : ((x.path.extract 0 (path.size + 1)).toList == (path ++ (⟨#[47]⟩ : ByteArray)).toList) = true := by
              rw [toList_str, toList_str, extract_take, str_bs, str_append, hp]; exact beq_self_eq_true _
            have HR := Lib.hid (HF1.out true (HW.out.2 (.inr ⟨by unfold Node.p; rw [str_size, str_size]; exact hl, by unfold Node.p; rw [str_size]; exact hp⟩))); clear hp hne
            go_wp2_with fail
            exact ⟨⟨i + 1, k, by congr 1, rfl, by omega, HR.out, by omega, HOX.out⟩, by simp only [intOf]; omega⟩
          have f2 : ((x.path.extract 0 (path.size + 1)).toList == (path ++ (⟨#[47]⟩ : ByteArray)).toList) = false := by
            rw [toList_str, toList_str, extract_take, str_bs, str_append]; exact beq_eq_false_iff_ne.2 hp
          have hw : within x.p (str path) = false := by
            rw [Bool.eq_false_iff]
            intro h
            rcases HW.out.1 h with h | ⟨h1, h2⟩
            · exact hne h
            exact hp (by unfold Node.p at h2; rw [str_size] at h2; exact h2)
          have HR := Lib.hid (HF1.out false hw); have hr2 := HREST.out hw; clear hp hne hw; obtain ⟨hkb, hxb⟩ := hr2.out; obtain ⟨gb, rfl, hnb, hbb⟩ := (HRB.out.off HOX.out).get k (by rw [HNB.out]; exact hkb); rw [(Option.some.inj ((List.getElem?_eq_getElem _).symm.trans hxb) : (A.filter fun n => !within n.p (str path))[k]'(by rw [HNB.out]; exact hkb) = x)] at hnb; have d0 := hnb.path
          have d1 := hnb.kind; have d2 := hnb.data; have d3 := hnb.mode; have hbb2 : (gb.add (k * 4)).block < W.heap.size := by rw [add_block]; exact hbb
          clear hxb hnb hr2; have heq := HEQ.out
          go_wp2_with fail
          go_quiet (fail)
          go_wp2_with fail
          exact ⟨⟨i + 1, k + 1, by congr 1, by congr 1, by omega, HR.out, by omega, HOX.out.drewN _⟩, by simp only [intOf]; omega⟩
        have hl2 : ¬ (path.size : Int) < (x.path.size : Int) := by omega
        have hw : within x.p (str path) = false := by
          rw [Bool.eq_false_iff]
          intro h
          rcases HW.out.1 h with h | ⟨h1, h2⟩
          · exact hne h
          exact hl (by unfold Node.p at h1; rw [str_size, str_size] at h1; exact h1)
        have HR := Lib.hid (HF1.out false hw); have hr2 := HREST.out hw; clear hne hw; obtain ⟨hkb, hxb⟩ := hr2.out; obtain ⟨gb, rfl, hnb, hbb⟩ := (HRB.out.off HOX.out).get k (by rw [HNB.out]; exact hkb); rw [(Option.some.inj ((List.getElem?_eq_getElem _).symm.trans hxb) : (A.filter fun n => !within n.p (str path))[k]'(by rw [HNB.out]; exact hkb) = x)] at hnb; have d0 := hnb.path
        have d1 := hnb.kind; have d2 := hnb.data; have d3 := hnb.mode; have hbb2 : (gb.add (k * 4)).block < W.heap.size := by rw [add_block]; exact hbb
        clear hxb hnb hr2; have heq := HEQ.out
        go_wp2_with fail
        go_quiet (fail)
        go_wp2_with fail
        exact ⟨⟨i + 1, k + 1, by congr 1, by congr 1, by omega, HR.out, by omega, HOX.out.drewN _⟩, by simp only [intOf]; omega⟩
      obtain rfl : i = na := by omega
      obtain rfl : k = nb := by
        rw [HK.out, ← HNB.out, List.take_of_length_le (by rw [HNA.out]; exact Nat.le_refl _)]
      have HO := Lib.hid hof; have HGT := Lib.hid (rget6_any pa A i ca path wr (HRA.out.off HO.out) HNA.out (by omega) HFA.out); clear hof HK hlt hi
      cases hg : getB A path
      · rw [hg] at HGT
        go_wp2_with fail
        refine HGT.out.mono ?_
        rintro e w6 ⟨y, rfl, -, ho6⟩; unfold Node.val
        go_wp2_with fail
        go_ret
        exact ⟨rfl, HO5.out.trans_nil (HO.out.trans_nil (ho6.alloc _))⟩
      rw [hg] at HGT
      go_wp2_with fail
      refine HGT.out.mono ?_
      rintro e w6 ⟨y, rfl, hy, ho6⟩; obtain ⟨hy1, hy2⟩ := hy (by trivial); have hse := (HAM.out y hy1).2; rw [hy2] at hse; have hbl := hides_block HOK.out HZ.out HP47.out (by have := HZL.out; omega) HND.out HPA.out hse; have hL := HL5.out; rw [hbl, ← HY.out] at hL; obtain ⟨pl, cl, rfl, -, -, kl⟩ := own_atG hL; obtain ⟨gl, rfl, -, ll, -, kl⟩ := kl (Nat.zero_lt_one)
      have hHO := HO.out.trans_nil ho6; have e0 : w6.cell? ⟨gl, 0, none⟩ = some (.string Y) := (hHO.cell (p := ⟨gl, 0, none⟩) ll (by simp)).trans (kl 0 _ rfl)
      have ll6 : gl < w6.heap.size := Nat.lt_of_lt_of_le ll hHO.size
      have HOX := Lib.hid hHO; have hYY : (Y.toList == Y.toList) = true := beq_self_eq_true _
      clear hL kl ll hHO ho6 hbl hse hy hy1 hy2; unfold Node.val
      go_wp2_with fail
      go_ret
      exact ⟨rfl, HO5.out.trans_nil (HOX.out.alloc _)⟩
end
section
section
variable {P : Program} {ops : Array Oper} {md : Region.Mode} {Q : Exit → Act → World → Prop} {S : World → Prop} {n : Nat}
def wpAnyZ (P : Program) (md : Region.Mode) (ops : Array Oper) (Q : Exit → Act → World → Prop) (S : World → Prop) (n : Nat) : Nat → Array Bool → Act → World → Prop
  | 0, done, a, w => Region.ready md ops done = [] ∧ Q .normal a w
  | f + 1, done, a, w => (Region.ready md ops done = [] → Q .normal a w) ∧ ∀ i, i ∈ Region.ready md ops done → wpOp P ops Q i (fun a' w' => (i = n ∨ S w') ∧ wpAnyZ P md ops Q S n f (done.setIfInBounds i true) a' w') a w
theorem wpAnyZ.any : ∀ (f : Nat) (done : Array Bool) (a : Act) (w : World), wpAnyZ P md ops Q S n f done a w → wpAny P md ops Q f done a w
  | 0, _, _, _, h => h
  | f + 1, _, _, _, h => ⟨h.1, fun i hi => wpOp_mono (fun a' w' k => wpAnyZ.any f _ a' w' k.2) (h.2 i hi)⟩
theorem wpAnyZ.first {i : Nat} {o : Oper} {v : Value} (hi : ops[i]? = some o) (hsel : ∀ (j : Nat) (o : Oper) cs b, ops[j]? = some o → o.op ≠ .select cs b)
    (hQ : ∀ c a w, Q (.panic c) (a.put o.dst v) w → Q (.panic c) a w) (hs : Region.sinkB md ops n = true) (hc : Region.chainB md ops n = true) (hn : n < ops.size) (hin : i < n) :
    ∀ (f : Nat) (done : Array Bool) (a : Act) (w : World), HeadInv md ops n done →
      (∀ j oj, ops[j]? = some oj → j ≠ i → done.getD j true = false → (∀ e ∈ oj.after, Region.binds md e = true → e.on ≠ i) → o.apart ops oj = true) →
      i ∈ Region.ready md ops done → YieldsIf P ops S o v a → S w → wpAnyZ P md ops Q S n f (done.setIfInBounds i true) (a.put o.dst v) w → wpAnyZ P md ops Q S n (f + 1) done a w := by
  intro f
  induction f with
  | zero =>
    intro done a w inv hfree hr hy hS H
    refine ⟨fun e => (by rw [e] at hr; cases hr), fun j hj => ?_⟩
    by_cases e : j = i
    · rw [e]; exact hy.wpOp hi hS ⟨.inr hS, H⟩
    have := ready_mono hj e; rw [H.1] at this; cases this
  | succ f ih =>
    intro done a w inv hfree hr hy hS H
    have hun := (mem_ready.1 hr).1; refine ⟨fun e => (by rw [e] at hr; cases hr), fun j hj => ?_⟩; have hjn : j < n := Nat.lt_of_not_le fun hge => tail_waits hs hc hn inv _ i rfl hin hun j hge hj
    by_cases e : j = i
    · rw [e]; exact hy.wpOp hi hS ⟨.inr hS, H⟩
    obtain ⟨hju, oj, hoj, hall⟩ := mem_ready.1 hj; have hno : ∀ x ∈ oj.after, Region.binds md x = true → x.on ≠ i := fun x hx hb he => by
      have := hall x hx hb; rw [he, getD_both hun] at this
      cases this
    have hq := wpOp_putIf hoj (hfree j oj hoj e hju hno) (fun cs b => hsel i o cs b hi) (fun cs b => hsel j oj cs b hoj) hQ hy (H.2 j (ready_mono hj e)); refine wpOp_mono (fun a' w' hk => ?_) hq; have hS' : S w' := hk.2.1.resolve_left (by omega)
    refine ⟨.inr hS', ih (done.setIfInBounds j true) a' w' (inv.set hj hjn) (fun k ok hk2 hki hku hkn => ?_) (ready_mono hr (Ne.symm e)) hk.1 hS' ?_⟩
    · refine hfree k ok hk2 hki ?_ hkn
      by_cases ejk : j = k
      · rw [← ejk]; exact hju
      rwa [getD_set_ne true ejk] at hku
    rw [Array.setIfInBounds_comm _ _ e]; exact hk.2.2
def takesZ (P : Program) (ops : Array Oper) (S : World → Prop) (K : Act → Prop) : List Nat → Act → Prop
  | [], a => K a
  | i :: r, a => ∃ o v, ops[i]? = some o ∧ YieldsIf P ops S o v a ∧ takesZ P ops S K r (a.put o.dst v)
def runZ (P : Program) (ops : Array Oper) (Q : Exit → Act → World → Prop) (S : World → Prop) (n : Nat) : List Nat → Act → World → Prop
  | [], a, w => Q .normal a w
  | k :: r, a, w => wpOp P ops Q k (fun a' w' => (k = n ∨ S w') ∧ runZ P ops Q S n r a' w') a w
def tailZ (md : Region.Mode) (ops : Array Oper) : List Nat → Array Bool → Bool
  | [], done => (Region.ready md ops done).isEmpty
  | k :: r, done => decide (Region.ready md ops done = [k]) && tailZ md ops r (done.setIfInBounds k true)
def headZ (md : Region.Mode) (ops : Array Oper) (n : Nat) (t : List Nat) : List Nat → Array Bool → Bool
  | [], done => tailZ md ops t done
  | i :: r, done => decide (i < n) && (Region.ready md ops done).contains i && Region.free md ops done i && headZ md ops n t r (done.setIfInBounds i true)
theorem runZ.any : ∀ (t : List Nat) (done : Array Bool) (a : Act) (w : World), tailZ md ops t done = true → runZ P ops Q S n t a w → wpAnyZ P md ops Q S n t.length done a w
  | [], done, a, w, hB, h => ⟨by simpa [tailZ] using hB, h⟩
  | k :: r, done, a, w, hB, h => by
    simp only [tailZ, Bool.and_eq_true, decide_eq_true_eq] at hB
    refine ⟨fun e => (by rw [hB.1] at e; cases e), fun i hi => ?_⟩
    rw [hB.1] at hi; obtain rfl : i = k := by simpa using hi
    exact wpOp_mono (fun a' w' hk => ⟨hk.1, runZ.any r _ a' w' hB.2 hk.2⟩) h
theorem takesZ.any {t : List Nat} {w : World} (hsel : Region.noSelect ops = true) (hQ : ∀ d v c a w, Q (.panic c) (Act.put a d v) w → Q (.panic c) a w) (hs : Region.sinkB md ops n = true) (hc : Region.chainB md ops n = true) (hn : n < ops.size) (hS : S w) :
    ∀ (l : List Nat) (done : Array Bool) (a : Act), HeadInv md ops n done → headZ md ops n t l done = true → takesZ P ops S (fun a' => runZ P ops Q S n t a' w) l a → wpAnyZ P md ops Q S n (l.length + t.length) done a w
  | [], done, a, _, hB, h => by
    rw [List.length_nil, Nat.zero_add]; exact runZ.any t done a w hB h
  | i :: r, done, a, inv, hB, h => by
    obtain ⟨o, v, hi, hy, hk⟩ := h; simp only [headZ, Bool.and_eq_true, decide_eq_true_eq] at hB; have hr : i ∈ Region.ready md ops done := by simpa using hB.1.1.2
    rw [List.length_cons, show r.length + 1 + t.length = (r.length + t.length) + 1 by omega]; exact wpAnyZ.first hi (Region.noSelect_spec hsel) (fun c a w => hQ _ _ c a w) hs hc hn hB.1.1.1 _ done a w inv (Region.free_spec hi hB.1.2) hr hy hS (takesZ.any hsel hQ hs hc hn hS r _ _ (inv.set hr hB.1.1.1) hB.2 hk)
theorem wp_region_but_last {id : Nat} {a : Act} {w : World} (n : Nat) (l t : List Nat) (S : World → Prop) (hm : P.follows .mixedOrders = true) (hB : (Region.noSelect ops && Region.sinkB .any ops n && Region.chainB .any ops n && decide (n < ops.size) && decide (l.length + t.length = ops.size) && headZ .any ops n t l (Array.replicate ops.size false)) = true)
    (hQ : ∀ d v c a w, Q (.panic c) (Act.put a d v) w → Q (.panic c) a w) (hS : S w.drew) (h : takesZ P ops S (fun a' => runZ P ops Q S n t a' w.drew) l a) : (Code.region id ops true).wp P Q a w := by
  simp only [Bool.and_eq_true, decide_eq_true_eq] at hB
  obtain ⟨⟨⟨⟨⟨h1, h2⟩, h3⟩, h4⟩, h5⟩, h6⟩ := hB; have inv : HeadInv .any ops n (Array.replicate ops.size false) :=
    ⟨by simp, fun j oj _ hl => (by rw [getD_replicate_false] at hl; cases hl), fun t _ ht => getD_in (by simpa using ht) (getD_replicate_false _ _)⟩
  refine wp_region_any hm (wpAnyZ.any (S := S) (n := n) _ _ _ _ ?_)
  have := takesZ.any (md := .any) h1 hQ h2 h3 h4 hS l _ a inv h6 h
  rwa [h5] at this
theorem runZ_step {k : Nat} {o : Oper} {r : List Nat} {a : Act} {w : World} (ho : ops[k]? = some o)
    (h : ∀ K' : Act → World → Prop, Shut (∀ a w, (k = n ∨ S w) → runZ P ops Q S n r a w → K' a w) → if Region.wanted o (yielded ops a.tmps) = true then Oper.wp P o a w K' Q else K' (a.put o.dst undef) w) : runZ P ops Q S n (k :: r) a w :=
  wpOp_step ho (fun K' hK => h K' (fun a w hS hr => hK a w ⟨hS, hr⟩))
theorem takesZ_step {i : Nat} {o : Oper} {v : Value} {r : List Nat} {a : Act} {K : Act → Prop} (hi : ops[i]? = some o) (hw : Region.wanted o (yielded ops a.tmps) = true) (hy : ∀ w, S w → (execOp a.eval o).run P w = .ok (.value v) w) (h : takesZ P ops S K r (a.put o.dst v)) : takesZ P ops S K (i :: r) a := ⟨o, v, hi, .inl ⟨hw, hy⟩, h⟩
theorem takesZ_nil {a : Act} {K : Act → Prop} (h : K a) : takesZ P ops S K [] a := h
theorem runZ_nil {a : Act} {w : World} (h : Q .normal a w) : runZ P ops Q S n [] a w := h
end
end
section
open Go.RowKit Go.Op Go.Maps
abbrev Stm := Int × Int × Int
def valueW (see : ByteArray → Bool) (D : PDisk) (path : ByteArray) : Int × (List Node × List Stm × Bool) × PDisk :=
  if see path then
    match D.edited.get path with
    | ((er, nd, s), D1) =>
      if er = 74 then (0, ([], [], false), D1)
      else if er ≠ 0 then (er, ([], [], false), D1)
      else if nd.kind = 2 then
        match walkW see 17 D1 path (wk0.add nd s) with
        | (e2, a, D2) => if e2 ≠ 0 then (e2, ([], [], false), D2) else (0, (a.tree.map (trimN (str path)), a.stamps, decide (0 < a.blocked.length)), D2)
      else (0, ([trimN (str path) nd], [s], false), D1)
  else (11, ([], [], false), D)
def valueC (see : ByteArray → Bool) (D : PDisk) (path : ByteArray) : Nat :=
  if see path then
    match D.edited.get path with
    | ((er, nd, s), D1) => 1 + if er = 0 ∧ nd.kind = 2 then walkC see 17 D1 path (wk0.add nd s) else 0
  else 0
theorem cellsOf_setN : ∀ (t : List Node) (i : Nat) (x : Node) (u : ByteArray), t[i]? = some x → (cellsOf t).set (i * 4) (.string u) = cellsOf (t.set i { x with path := u })
  | [], i, x, u, h => by simp at h
  | y :: t, 0, x, u, h => by
    simp only [List.getElem?_cons_zero, Option.some.injEq] at h
    subst h
    rfl
  | y :: t, i + 1, x, u, h => by
    have ih := cellsOf_setN t i x u (by simpa using h); rw [show (i + 1) * 4 = i * 4 + 4 by omega]
    show ([_, _, _, _] ++ cellsOf t).set (i * 4 + 4) _ = [_, _, _, _] ++ cellsOf (t.set i _)
    rw [← ih]
    rfl
section
variable {w0 w w' : World} {d wp n : Nat} {rv sv bv : Value} {D : PDisk} {a : Wk} {K : List Nat}
theorem SWf.trim {i : Nat} {x : Node} {g cap m : Nat} {u : ByteArray} (h : SWf w0 w d wp rv D n a K (.slice (some ⟨g, 0, none⟩) m cap) sv bv) (hm : a.tree.length = m) (hx : a.tree[i]? = some x) :
    SWf w0 (w.setCell ⟨g, i * 4, none⟩ (.string u)) d wp rv D n ⟨a.tree.set i { x with path := u }, a.stamps, a.blocked⟩ K (.slice (some ⟨g, 0, none⟩) m cap) sv bv ∧ Kept K w (w.setCell ⟨g, i * 4, none⟩ (.string u)) := by
  have hgb : g ∈ wkB wp (.slice (some ⟨g, 0, none⟩) m cap) sv bv := wkB_t g (by simp [Value.ownBlock])
  obtain ⟨cg, hG⟩ := own_blks h.tree g (by simp [Value.ownBlock]); have ho : Off [g] w (w.setCell ⟨g, i * 4, none⟩ (.string u)) := (Off.refl _ _).setCell (.inr (by simp)) _
  have hne : ∀ {b : Nat} {ty : TypeId} {cs : Array Value}, Blk w b ty cs → ty ≠ 30 → b ∉ [g] := fun hB ht hm => by
    simp at hm
    subst hm; exact hB.ne_ hG ht rfl
  refine ⟨⟨h.run.upd h.tabs ho (fun b hb => ?_) (fun b hb => .inl hb), h.blk.off ho (hne h.blk (by decide)), ?_, own_offk h.stamps ho (fun b hb => ?_), own_offk h.blocked ho (fun b hb => ?_), h.apart, h.tabs, h.since⟩, fun b hb => ?_⟩
  · simp at hb
    subst hb; exact ⟨List.mem_append_left _ hgb, h.since _ hgb⟩
  · have h1 := h.tree
    rw [hm] at h1; have := own_set2 h1 (i * 4) (.string u); rw [cellsOf_setN a.tree i x u hx] at this; rw [List.length_set, hm]; exact this
  · obtain ⟨cs, hB⟩ := own_blks h.stamps b hb
    exact hne hB (by decide)
  · obtain ⟨cs, hB⟩ := own_blks h.blocked b hb
    exact hne hB (by decide)
  refine ho.block b (h.lt b hb) fun hm => ?_
  simp at hm
  subst hm; exact h.apart _ hb hgb
end
def mixT (p : Str) (t : List Node) (i : Nat) : List Node := (t.take i).map (trimN p) ++ t.drop i
theorem mixT_len (p : Str) (t : List Node) (i : Nat) : (mixT p t i).length = t.length := by
  unfold mixT; rw [List.length_append, List.length_map, List.length_take, List.length_drop]; omega
theorem mixT_get {p : Str} {t : List Node} {i : Nat} {x : Node} (h : t[i]? = some x) : (mixT p t i)[i]? = some x := by
  have hi := (List.getElem?_eq_some_iff.1 h).1; unfold mixT; rw [List.getElem?_append_right (by rw [List.length_map, List.length_take]; omega), List.length_map, List.length_take, List.getElem?_drop]; rw [show i + (i - min i t.length) = i by omega]; exact h
theorem mixT_set {p : Str} {t : List Node} {i : Nat} {x : Node} (h : t[i]? = some x) : (mixT p t i).set i (trimN p x) = mixT p t (i + 1) := by
  obtain ⟨hi, rfl⟩ := List.getElem?_eq_some_iff.1 h; have hl : ((t.take i).map (trimN p)).length = i := by rw [List.length_map, List.length_take]; omega
  unfold mixT; rw [List.set_append_right _ _ (by omega), hl, Nat.sub_self, List.drop_eq_getElem_cons hi, List.set_cons_zero, List.take_succ_eq_append_getElem hi, List.map_append, List.append_assoc]
  rfl
theorem mixT_all (p : Str) (t : List Node) : mixT p t t.length = t.map (trimN p) := by
  unfold mixT; rw [List.take_length, List.drop_length, List.append_nil]
theorem mixT_zero (p : Str) (t : List Node) : mixT p t 0 = t := by
  unfold mixT; simp
theorem nd_get {t : List Node} {i : Nat} {x : Node} (h : t[i]? = some x) : (cellsOf t)[i * 4]? = some (.string x.path) := by
  have := flat_getG (fun n : Node => [.string n.path, .int .i64 n.kind, .string n.data, .int .i64 n.mode]) 4 (fun _ => rfl) t i 0 x h (by decide); rw [Nat.add_zero] at this; exact this
theorem cut_path (x : Node) (path : ByteArray) : ({ x with path := x.path.extract (min (path.size + 1) x.path.size) x.path.size } : Node) = trimN (str path) x := by
  unfold trimN
  congr 1
  apply str_inj
  rw [str_bs, str_drop]; unfold Node.p; rw [str_size]
  rcases Nat.lt_or_ge x.path.size (path.size + 1) with h | h
  · rw [Nat.min_eq_right (by omega), List.drop_of_length_le (by rw [str_size]; omega), List.drop_of_length_le (by rw [str_size]; omega)]
  rw [Nat.min_eq_left h]
def ValTo (w0 w : World) (d : Nat) (r : Int × (List Node × List Stm × Bool) × PDisk) (m : Nat) (Bud : Nat → PDisk → Nat → Prop) (K : List Nat) (e : Ending) (w' : World) : Prop :=
  ∃ tv sv n', e = .returned (.tuple #[tv, sv, .bool r.2.1.2.2, .int .i64 r.1]) ∧ w'.ownsRow 0 30 4 tv r.2.1.1.length (cellsOf r.2.1.1) ∧ w'.ownsRow 0 93 3 sv r.2.1.2.1.length (stCells r.2.1.2.1) ∧
    RunE w0 w' d r.2.2 n' ((tv.ownBlock.toList ++ sv.ownBlock.toList) ++ K) ∧ Bud m r.2.2 n' ∧ Kept K w w'
theorem val_none {w0 w w' : World} {d n m : Nat} {D : PDisk} {K k : List Nat} {Bud : Nat → PDisk → Nat → Prop} {er : Int} (hr : RunE w0 w' d D n (k ++ K)) (hb : Bud m D n) (hk : Kept K w w') :
    ValTo w0 w d (er, ([], [], false), D) m Bud K (.returned (.tuple #[.slice none 0 0, .slice none 0 0, .bool false, .int .i64 er])) w' :=
  ⟨_, _, n, rfl, World.ownsRow_nil _ _ _ _, World.ownsRow_nil _ _ _ _, hr.drop (fun b hb => List.mem_append_right _ (by simpa [Value.ownBlock] using hb)), hb, hk⟩
set_option maxRecDepth 100000 in
set_option maxHeartbeats 16000000 in
theorem value_any {w0 w : World} {d n m c : Nat} {L : List RuleP} {q : Option Addr} {D : PDisk} {K : List Nat} {Bud : Nat → PDisk → Nat → Prop} (path : ByteArray) (hBud : Budget w0 d Bud) (hr : RunE w0 w d D n K) (hR : RlK K w L q c) (hT : Tabs w0)
    (hb : Bud (valueC (seeV L) D path + m) D n) (hl : valueC (seeV L) D path * 3 ≤ 900000) :
    Calls Tryz.prog 18 #[.pointer (some ⟨d, 0, none⟩), .slice q L.length c, .string path] w (ValTo w0 w d (valueW (seeV L) D path) m Bud K) := by
  have hlt : ∀ b ∈ K, b < w.heap.size := fun b hb => by obtain ⟨G, -, -, -, -, h5⟩ := hr; exact (h5 b hb).1
  have ho := (Off.refl [] w).alloc (.cells #[.slice q L.length c, .pointer (some ⟨d, 0, none⟩), .slice none 0 0, .slice none 0 0, .slice none 0 0] 121); have hs : SWf w0 (w.alloc (.cells #[.slice q L.length c, .pointer (some ⟨d, 0, none⟩), .slice none 0 0, .slice none 0 0, .slice none 0 0] 121)) d w.heap.size (.slice q L.length c) D n wk0 K (.slice none 0 0) (.slice none 0 0) (.slice none 0 0) :=
    ⟨hr.more (k' := [w.heap.size]) ho (fun b hb => by simp at hb; subst hb; simp), Blk.new _ _ _, World.ownsRow_nil _ _ _ _, World.ownsRow_nil _ _ _ _, World.ownsRow_nil _ _ _ _, fun b hb hm => by
      have := hlt b hb; simp [wkB, Value.ownBlock] at hm; omega, hT, fun b hm => by
      simp [wkB, Value.ownBlock] at hm
      subst hm; exact hr.since.size⟩
  have HSN := Lib.hid (fun (W : World) (hoW : Off [] w W) => seen_any L q c path W (hR.1.off hoW) (hr.tabs.off hoW)); have HS := Lib.hid hs; have HO := Lib.hid ho; have HLT := Lib.hid hlt; have HR := Lib.hid hR; have HBud := Lib.hid hBud; have HV := Lib.hid (show valueW (seeV L) D path = if seeV L path then
    match D.edited.get path with
    | ((er, nd, s), D1) =>
      if er = 74 then (0, ([], [], false), D1)
      else if er ≠ 0 then (er, ([], [], false), D1)
      else if nd.kind = 2 then
        match walkW (seeV L) 17 D1 path (wk0.add nd s) with
        | (e2, a, D2) => if e2 ≠ 0 then (e2, ([], [], false), D2) else (0, (a.tree.map (trimN (str path)), a.stamps, decide (0 < a.blocked.length)), D2)
      else (0, ([trimN (str path) nd], [s], false), D1)
  else (11, ([], [], false), D) from rfl)
  have HC := Lib.hid (show valueC (seeV L) D path = if seeV L path then
    match D.edited.get path with
    | ((er, nd, s), D1) => 1 + if er = 0 ∧ nd.kind = 2 then walkC (seeV L) 17 D1 path (wk0.add nd s) else 0
  else 0 from rfl)
  generalize valueW (seeV L) D path = rv at *
  generalize valueC (seeV L) D path = vc at *
  generalize hnL : L.length = nL at *
  clear hs ho hlt hR hr
  cases hsv : seeV L path
  · have hv0 : rv = (11, ([], [], false), D) := by have := HV.out; rwa [hsv, if_neg (by decide)] at this
    have hv1 : vc = 0 := by have := HC.out; rwa [hsv, if_neg (by decide)] at this
    have HSV := Lib.hid hsv; subst hv0 hv1; have HB := Lib.hid (show Bud m D n by rw [Nat.zero_add] at hb; exact hb); clear hsv HV HC hb
    go_enter Tryz.func18, Tryz.ntmps18
    go_wp2_with fail
    refine (HSN.out _ HO.out).mono ?_
    rintro e w1 ⟨rfl, ho1⟩; rw [HSV.out]
    go_wp2_with fail
    refine bodyPost_ret (v := .tuple #[.slice none 0 0, .slice none 0 0, .bool false, .int .i64 11]) (by simp [results, Tryz.f18, go_sem]) rfl ?_
    exact val_none (HS.out.run.off ho1) HB.out ((Kept.of_off HO.out HLT.out).trans (Kept.of_off ho1 HS.out.lt))
  have hok : okPath (str path) = true := by
    unfold seeV at hsv; simp only [Bool.and_eq_true] at hsv; exact hsv.1.1
  have HOK := Lib.hid hok; have hx4 : path.size ≤ 400 := by rw [← str_size]; exact ok_size hok
  clear hok
  rcases hget : D.edited.get path with ⟨⟨er, nd, s1, s2, s3⟩, D1⟩
  have hv0 := HV.out; have hv1 := HC.out; rw [hsv, hget] at hv0 hv1; simp only [if_true] at hv0 hv1; obtain ⟨g, hg⟩ : ∃ g, vc = g + 1 := ⟨vc - 1, by rw [hv1]; omega⟩
  have hg1 : g = if er = 0 ∧ nd.kind = 2 then walkC (seeV L) 17 D1 path (wk0.add nd (s1, s2, s3)) else 0 := by omega
  subst hg; obtain ⟨n3, hb3, hcg⟩ := HBud.out.get path (show Bud ((g + m) + 1) D n by rw [show g + m + 1 = g + 1 + m by omega]; exact hb) (by omega); rw [hget] at hb3 hcg
  have HSEE := Lib.hid (fun W (hoW : Off [] (w.alloc (.cells #[.slice q nL c, .pointer (some ⟨d, 0, none⟩), .slice none 0 0, .slice none 0 0, .slice none 0 0] 121)) W) => see_any (a := wk0) (r := (er, nd, s1, s2, s3)) (D' := D1) (n' := n3) ⟨_, _, _, HS.out.off hoW⟩ hcg (by decide)); have HB3 := Lib.hid hb3; have HV0 := Lib.hid hv0; have HG1 := Lib.hid hg1; have HSV := Lib.hid hsv
  obtain ⟨wp, hwp⟩ : ∃ wp, w.heap.size = wp := ⟨_, rfl⟩
  rw [hwp] at HSEE HS; clear hsv hget hb3 hcg hv0 hv1 hg1 hb HV HC
  go_enter Tryz.func18, Tryz.ntmps18
  go_wp2_with fail
  refine (HSN.out _ HO.out).mono ?_
  rintro e w1 ⟨rfl, ho1⟩; rw [HSV.out]; have HO1 := Lib.hid ho1; have HK1 := Lib.hid ((Kept.of_off HO.out HLT.out).trans (Kept.of_off ho1 HS.out.lt)); clear ho1
  go_wp2_with fail
  refine (HSEE.out _ HO1.out).mono ?_
  rintro e w2 ⟨rfl, hs2, hk2⟩; unfold seeVal; have hal := (Off.refl [] w2).alloc (.cells #[.string nd.path, .int .i64 nd.kind, .string nd.data, .int .i64 nd.mode] 30); have HS2 := Lib.hid (hs2.off hal); have HK2 := Lib.hid (HK1.out.trans (hk2.trans (Kept.of_off hal (fun b hb => by obtain ⟨_, _, _, h⟩ := hs2; exact h.lt b hb)))); clear hal hs2 hk2 HSEE HSN HS HO HO1 HK1
  by_cases h74 : er = 74
  · subst h74
    have hr0 : rv = (0, ([], [], false), D1) := by have := HV0.out; simpa using this
    subst hr0; have hg0 : g = 0 := by have := HG1.out; simpa using this
    subst hg0
    go_wp2_with fail
    refine bodyPost_ret (v := .tuple #[.slice none 0 0, .slice none 0 0, .bool false, .int .i64 0]) (by simp [results, Tryz.f18, go_sem]) rfl ?_
    obtain ⟨t1, b1, c1, h1⟩ := HS2.out; exact val_none h1.run (by have := HB3.out; rwa [Nat.zero_add] at this) HK2.out
  by_cases he : ¬ er = 0
  · have hr0 : rv = (er, ([], [], false), D1) := by have := HV0.out; rwa [if_neg h74, if_pos he] at this
    subst hr0; have hg0 : g = 0 := by have := HG1.out; rwa [if_neg (fun h => he h.1)] at this
    subst hg0
    go_wp2_with fail
    refine bodyPost_ret (v := .tuple #[.slice none 0 0, .slice none 0 0, .bool false, .int .i64 er]) (by simp [results, Tryz.f18, go_sem]) rfl ?_
    obtain ⟨t1, b1, c1, h1⟩ := HS2.out; exact val_none h1.run (by have := HB3.out; rwa [Nat.zero_add] at this) HK2.out
  have he : er = 0 := Classical.not_not.1 he
  subst he; have hv := HV0.out; rw [if_neg h74, if_neg (by decide)] at hv; have HS3 := Lib.hid (show SW w0 _ d wp (.slice q nL c) D1 n3 (wk0.add nd (s1, s2, s3)) K from HS2.out); clear h74 HV0 HS2
  by_cases hkd : nd.kind = 2
  · rw [if_pos hkd] at hv
    rw [hkd] at HS3 HK2; have hgg : g = walkC (seeV L) 17 D1 path (wk0.add nd (s1, s2, s3)) := by have := HG1.out; rwa [if_pos ⟨rfl, hkd⟩] at this
    have HRK := Lib.hid (HR.out.kept HK2.out); have HDN := Lib.hid (down_any (wp := wp) (L := L) (q := q) (c := c) HBud.out 17 _ D1 path (wk0.add nd (s1, s2, s3)) n3 m K (by rw [hnL]; exact HS3.out) HRK.out (by rw [← hgg]; exact HB3.out) (.inr HOK.out) (by unfold depD; omega) (by
      rw [← hgg]
      show 1 + 1 + 0 + g * 3 ≤ 1000000
      omega))
    have hwl := walkW_len (see := seeV L) 17 D1 path (wk0.add nd (s1, s2, s3)); rw [← hgg] at hwl; have hwl2 : (wk0.add nd (s1, s2, s3)).len = 2 := rfl
    rw [hwl2] at hwl; rw [hnL] at HDN; generalize walkW (seeV L) 17 D1 path (wk0.add nd (s1, s2, s3)) = R at *; obtain ⟨e2, a, D2⟩ := R; dsimp only at hv hwl HDN; have HWL := Lib.hid hwl; have HV0 := Lib.hid hv; clear hwl hv hgg HG1 HB3 HS3 HRK hwl2
    go_wp2_with fail
    refine HDN.out.mono ?_
    rintro e w3 ⟨rfl, n4, hs3, hb4, hk3⟩; have HS := Lib.hid hs3; have HB := Lib.hid hb4; have HK := Lib.hid (HK2.out.trans hk3); clear hs3 hb4 hk3 HDN HK2
    by_cases hz : ¬ e2 = 0
    · have hr0 : rv = (e2, ([], [], false), D2) := by have := HV0.out; rwa [if_pos hz] at this
      subst hr0
      go_wp2_with fail
      refine bodyPost_ret (v := .tuple #[.slice none 0 0, .slice none 0 0, .bool false, .int .i64 e2]) (by simp [results, Tryz.f18, go_sem]) rfl ?_
      obtain ⟨t1, b1, c1, h1⟩ := HS.out; exact val_none h1.run HB.out HK.out
    have hz : e2 = 0 := Classical.not_not.1 hz
    subst hz; have HV := Lib.hid (show rv = (0, (a.tree.map (trimN (str path)), a.stamps, decide (0 < a.blocked.length)), D2) by have := HV0.out; rwa [if_neg (by decide)] at this); have hal : a.tree.length ≤ 1000000 := by have := HWL.out; unfold Wk.len at this; omega
    clear HV0 HWL; obtain ⟨tv, sv, bv, hs⟩ := HS.out; obtain ⟨nt, hnt⟩ : ∃ nt, a.tree.length = nt := ⟨_, rfl⟩
    have hntl : nt ≤ 1000000 := by rw [← hnt]; exact hal
    obtain ⟨nb, hnb⟩ : ∃ nb, a.blocked.length = nb := ⟨_, rfl⟩
    obtain ⟨pt, ct, rfl, -, hct, -⟩ := own_atG hs.tree; obtain ⟨pb, cb, rfl, -, -, -⟩ := own_atG hs.blocked; rw [hnt, hnb] at hs; have HNT := Lib.hid hnt; have HNB := Lib.hid hnb; have HSF := Lib.hid hs; have hcw := hs.blk.cell; have hwl := hs.blk.lt; clear hs hnt hnb HS
    go_wp2_with fail
    go_loopw [53] (fun x wr => ∃ i : Nat, x = .int .i64 i ∧ i ≤ nt ∧ Hid (SWf w0 wr d wp (.slice q nL c) D2 n4 ⟨mixT (str path) a.tree i, a.stamps, a.blocked⟩ K (.slice pt nt ct) sv (.slice pb nb cb)) ∧ Hid (Kept K w wr)) (fun x _ => nt - (intOf x).toNat)
    case atStart => exact ⟨0, rfl, Nat.zero_le _, Lib.hid (by rw [mixT_zero]; exact HSF.out), HK⟩
    case round =>
      clear hcw hwl HSF HK; obtain ⟨i, rfl, hi, HSF, HK⟩ := hrel; have hcw := HSF.out.blk.cell; have hwl := HSF.out.blk.lt
      by_cases hlt : i < nt
      · obtain ⟨x, hx⟩ : ∃ x, a.tree[i]? = some x := ⟨a.tree[i]'(by rw [HNT.out]; exact hlt), List.getElem?_eq_getElem _⟩
        have hm := mixT_get (p := str path) hx; have hml : (mixT (str path) a.tree i).length = nt := by rw [mixT_len, HNT.out]
        have ht := HSF.out.tree; rw [show (⟨mixT (str path) a.tree i, a.stamps, a.blocked⟩ : Wk).tree.length = nt from hml] at ht; obtain ⟨p9, c9, e0, -, -, k0⟩ := own_atG ht; injection e0 with e1 e2 e3
        subst e1 e3; obtain ⟨g, rfl, -, hgl, -, k0⟩ := k0 (by omega); have c0 : wr.cell? ⟨g, i * 4, none⟩ = some (.string x.path) := k0 (i * 4) _ (nd_get hm)
        have hfz : wr.frozen? ⟨g, i * 4, none⟩ = false := own_frozen2 ht (i * 4)
        have HX := Lib.hid hx; have HM := Lib.hid (And.intro hm hml); clear hx hm hml ht k0
        go_upto_region 14 with fail
        have SP := Lib.hid (show ∀ W', Off [] wr W' → W'.cell? ⟨wp, 2, none⟩ = some (.slice (some ⟨g, 0, none⟩) nt ct) ∧ W'.cell? ⟨g, i * 4, none⟩ = some (.string x.path) from fun W' h => ⟨(h.cell (p := ⟨wp, 2, none⟩) hwl (by simp)).trans (hcw 2), (h.cell (p := ⟨g, i * 4, none⟩) hgl (by simp)).trans c0⟩)
        have hfd : wr.drew.frozen? ⟨g, i * 4, none⟩ = false := ((Off.refl [] wr).drew.frozen (p := ⟨g, i * 4, none⟩) hgl (by simp)).trans hfz
        have hmn : (0 : Int) ≤ min ((path.size : Int) + 1) (x.path.size : Int) := by omega
        have hmx : min ((path.size : Int) + 1) (x.path.size : Int) ≤ (x.path.size : Int) := by omega
        have hltI : (i : Int) < (nt : Int) := by omega
        have hwr : IntKind.i64.wrap ((path.size : Int) + 1) = (path.size : Int) + 1 := IntWalk.i64_in _ (by omega)
        have hmm : (0 : Int) ≤ min ((path.size : Int) + 1) (x.path.size : Int) ∧ min ((path.size : Int) + 1) (x.path.size : Int) ≤ (x.path.size : Int) := ⟨hmn, hmx⟩
        refine wp_region_but_last 29 [0, 1, 2, 3, 4, 5, 6, 7, 8, 9, 10, 11, 12, 13, 14, 15, 16, 17, 18, 19, 20, 21, 22, 23, 24, 25, 26, 27, 28] [29] (fun w' => w'.cell? ⟨wp, 2, none⟩ = some (.slice (some ⟨g, 0, none⟩) nt ct) ∧ w'.cell? ⟨g, i * 4, none⟩ = some (.string x.path)) (by kernel_rfl) (by kernel_rfl) (by intro d v c a w h; cases d <;> exact h) (SP.out _ (Off.refl [] wr).drew) ?_
        clear hcw hfz
        iterate 29 (refine takesZ_step (v := ?_) rfl (by rfl) ?_ ?_; rotate_left 1; (· (rintro w ⟨s0, s1⟩; go_simp <;> (try simp only [hwr, if_pos hmm]) <;> with_reducible rfl)); try simp only [Act.put, List.setIfInBounds_toArray])
        refine takesZ_nil ?_
        refine runZ_step rfl (fun K1 hK1 => ?_)
        go_simp
        refine hK1.out _ _ (.inl rfl) (runZ_nil ?_)
        clear hK1 K1
        go_wp2_with fail
        obtain ⟨h1, h2⟩ := HSF.out.trim HM.out.2 HM.out.1 (u := x.path.extract (min ((path.size : Int) + 1) (x.path.size : Int)).toNat x.path.size); refine ⟨⟨i + 1, by congr 1, by omega, Lib.hid ?_, Lib.hid (HK.out.trans (h2.trans (Kept.of_off (Off.refl [] _).drew h1.lt)))⟩, by simp only [intOf]; omega⟩
        rw [show (min ((path.size : Int) + 1) (x.path.size : Int)).toNat = min (path.size + 1) x.path.size by omega, cut_path x path] at h1; rw [show (min ((path.size : Int) + 1) (x.path.size : Int)).toNat = min (path.size + 1) x.path.size by omega]; rw [← mixT_set HX.out]; exact h1.off (Off.refl [] _).drew
      obtain rfl : i = nt := by omega
      have HNC := Lib.hid (show ∀ b : Bool, decide (0 < nb) = b → rv = (0, (a.tree.map (trimN (str path)), a.stamps, b), D2) from fun b hb => by rw [HV.out, HNB.out, hb]); have HS9 := Lib.hid (HSF.out.off (Off.refl [] wr).drew); have HK9 := Lib.hid (HK.out.trans (Kept.of_off (Off.refl [] wr).drew HSF.out.lt))
      by_cases hnb0 : 0 < nb
      · go_wp2_with fail
        go_region
        all_goals go_wp2_with fail
        all_goals refine bodyPost_ret (v := .tuple #[.slice pt i ct, sv, .bool true, .int .i64 0]) (by simp [results, Tryz.f18, go_sem]) rfl ?_
        all_goals
          rw [HNC.out true (decide_eq_true hnb0)]; refine ⟨_, _, n4, rfl, ?_, HS9.out.stamps, HS9.out.run.drop (fun b hb => ?_), HB.out, HK9.out⟩
          · have := HS9.out.tree
            rw [show mixT (str path) a.tree i = a.tree.map (trimN (str path)) by rw [← HNT.out]; exact mixT_all _ _] at this; exact this
          unfold wkB; simp only [List.mem_append, List.mem_cons] at hb ⊢
          rcases hb with (h | h) | h
          · exact .inl (.inr (.inl h))
          · exact .inl (.inr (.inr (.inl h)))
          exact .inr h
      go_wp2_with fail
      go_region
      all_goals go_wp2_with fail
      all_goals refine bodyPost_ret (v := .tuple #[.slice pt i ct, sv, .bool false, .int .i64 0]) (by simp [results, Tryz.f18, go_sem]) rfl ?_
      all_goals
        rw [HNC.out false (decide_eq_false hnb0)]; refine ⟨_, _, n4, rfl, ?_, HS9.out.stamps, HS9.out.run.drop (fun b hb => ?_), HB.out, HK9.out⟩
        · have := HS9.out.tree
          rw [show mixT (str path) a.tree i = a.tree.map (trimN (str path)) by rw [← HNT.out]; exact mixT_all _ _] at this; exact this
        unfold wkB; simp only [List.mem_append, List.mem_cons] at hb ⊢
        rcases hb with (h | h) | h
        · exact .inl (.inr (.inl h))
        · exact .inl (.inr (.inr (.inl h)))
        exact .inr h
  rw [if_neg hkd] at hv; have hgg : g = 0 := by have := HG1.out; rwa [if_neg (fun h => hkd h.2)] at this
  subst hgg; obtain ⟨a, ha⟩ : ∃ a, wk0.add nd (s1, s2, s3) = a := ⟨_, rfl⟩
  have HV := Lib.hid (show rv = (0, (a.tree.map (trimN (str path)), a.stamps, decide (0 < a.blocked.length)), D1) by rw [hv, ← ha]; rfl); rw [ha] at HS3; have hal : a.tree.length ≤ 1000000 := by rw [← ha]; show ([] ++ [nd] : List Node).length ≤ 1000000; simp
  have HS := HS3; have HK := HK2; have HB := Lib.hid (show Bud m D1 n3 by have := HB3.out; rwa [Nat.zero_add] at this); clear hv ha HS3 HK2 HB3 HG1; obtain ⟨tv, sv, bv, hs⟩ := HS.out; obtain ⟨nt, hnt⟩ : ∃ nt, a.tree.length = nt := ⟨_, rfl⟩
  have hntl : nt ≤ 1000000 := by rw [← hnt]; exact hal
  obtain ⟨nb, hnb⟩ : ∃ nb, a.blocked.length = nb := ⟨_, rfl⟩
  obtain ⟨pt, ct, rfl, -, hct, -⟩ := own_atG hs.tree; obtain ⟨pb, cb, rfl, -, -, -⟩ := own_atG hs.blocked; rw [hnt, hnb] at hs; have HNT := Lib.hid hnt; have HNB := Lib.hid hnb; have HSF := Lib.hid hs; have hcw := hs.blk.cell; have hwl := hs.blk.lt; clear hs hnt hnb HS
  go_wp2_with fail
  go_loopw [53] (fun x wr => ∃ i : Nat, x = .int .i64 i ∧ i ≤ nt ∧ Hid (SWf w0 wr d wp (.slice q nL c) D1 n3 ⟨mixT (str path) a.tree i, a.stamps, a.blocked⟩ K (.slice pt nt ct) sv (.slice pb nb cb)) ∧ Hid (Kept K w wr)) (fun x _ => nt - (intOf x).toNat)
  case atStart => exact ⟨0, rfl, Nat.zero_le _, Lib.hid (by rw [mixT_zero]; exact HSF.out), HK⟩
  case round =>
    clear hcw hwl HSF HK; obtain ⟨i, rfl, hi, HSF, HK⟩ := hrel; have hcw := HSF.out.blk.cell; have hwl := HSF.out.blk.lt
    by_cases hlt : i < nt
    · obtain ⟨x, hx⟩ : ∃ x, a.tree[i]? = some x := ⟨a.tree[i]'(by rw [HNT.out]; exact hlt), List.getElem?_eq_getElem _⟩
      have hm := mixT_get (p := str path) hx; have hml : (mixT (str path) a.tree i).length = nt := by rw [mixT_len, HNT.out]
      have ht := HSF.out.tree; rw [show (⟨mixT (str path) a.tree i, a.stamps, a.blocked⟩ : Wk).tree.length = nt from hml] at ht; obtain ⟨p9, c9, e0, -, -, k0⟩ := own_atG ht; injection e0 with e1 e2 e3
      subst e1 e3; obtain ⟨g, rfl, -, hgl, -, k0⟩ := k0 (by omega); have c0 : wr.cell? ⟨g, i * 4, none⟩ = some (.string x.path) := k0 (i * 4) _ (nd_get hm)
      have hfz : wr.frozen? ⟨g, i * 4, none⟩ = false := own_frozen2 ht (i * 4)
      have HX := Lib.hid hx; have HM := Lib.hid (And.intro hm hml); clear hx hm hml ht k0
      go_upto_region 14 with fail
      have SP := Lib.hid (show ∀ W', Off [] wr W' → W'.cell? ⟨wp, 2, none⟩ = some (.slice (some ⟨g, 0, none⟩) nt ct) ∧ W'.cell? ⟨g, i * 4, none⟩ = some (.string x.path) from fun W' h => ⟨(h.cell (p := ⟨wp, 2, none⟩) hwl (by simp)).trans (hcw 2), (h.cell (p := ⟨g, i * 4, none⟩) hgl (by simp)).trans c0⟩)
      have hfd : wr.drew.frozen? ⟨g, i * 4, none⟩ = false := ((Off.refl [] wr).drew.frozen (p := ⟨g, i * 4, none⟩) hgl (by simp)).trans hfz
      have hmn : (0 : Int) ≤ min ((path.size : Int) + 1) (x.path.size : Int) := by omega
      have hmx : min ((path.size : Int) + 1) (x.path.size : Int) ≤ (x.path.size : Int) := by omega
      have hltI : (i : Int) < (nt : Int) := by omega
      have hwr : IntKind.i64.wrap ((path.size : Int) + 1) = (path.size : Int) + 1 := IntWalk.i64_in _ (by omega)
      have hmm : (0 : Int) ≤ min ((path.size : Int) + 1) (x.path.size : Int) ∧ min ((path.size : Int) + 1) (x.path.size : Int) ≤ (x.path.size : Int) := ⟨hmn, hmx⟩
      refine wp_region_but_last 29 [0, 1, 2, 3, 4, 5, 6, 7, 8, 9, 10, 11, 12, 13, 14, 15, 16, 17, 18, 19, 20, 21, 22, 23, 24, 25, 26, 27, 28] [29] (fun w' => w'.cell? ⟨wp, 2, none⟩ = some (.slice (some ⟨g, 0, none⟩) nt ct) ∧ w'.cell? ⟨g, i * 4, none⟩ = some (.string x.path)) (by kernel_rfl) (by kernel_rfl) (by intro d v c a w h; cases d <;> exact h) (SP.out _ (Off.refl [] wr).drew) ?_
      clear hcw hfz
      iterate 29 (refine takesZ_step (v := ?_) rfl (by rfl) ?_ ?_; rotate_left 1; (· (rintro w ⟨s0, s1⟩; go_simp <;> (try simp only [hwr, if_pos hmm]) <;> with_reducible rfl)); try simp only [Act.put, List.setIfInBounds_toArray])
      refine takesZ_nil ?_
      refine runZ_step rfl (fun K1 hK1 => ?_)
      go_simp
      refine hK1.out _ _ (.inl rfl) (runZ_nil ?_)
      clear hK1 K1
      go_wp2_with fail
      obtain ⟨h1, h2⟩ := HSF.out.trim HM.out.2 HM.out.1 (u := x.path.extract (min ((path.size : Int) + 1) (x.path.size : Int)).toNat x.path.size); refine ⟨⟨i + 1, by congr 1, by omega, Lib.hid ?_, Lib.hid (HK.out.trans (h2.trans (Kept.of_off (Off.refl [] _).drew h1.lt)))⟩, by simp only [intOf]; omega⟩
      rw [show (min ((path.size : Int) + 1) (x.path.size : Int)).toNat = min (path.size + 1) x.path.size by omega, cut_path x path] at h1; rw [show (min ((path.size : Int) + 1) (x.path.size : Int)).toNat = min (path.size + 1) x.path.size by omega]; rw [← mixT_set HX.out]; exact h1.off (Off.refl [] _).drew
    obtain rfl : i = nt := by omega
    have HNC := Lib.hid (show ∀ b : Bool, decide (0 < nb) = b → rv = (0, (a.tree.map (trimN (str path)), a.stamps, b), D1) from fun b hb => by rw [HV.out, HNB.out, hb]); have HS9 := Lib.hid (HSF.out.off (Off.refl [] wr).drew); have HK9 := Lib.hid (HK.out.trans (Kept.of_off (Off.refl [] wr).drew HSF.out.lt))
    by_cases hnb0 : 0 < nb
    · go_wp2_with fail
      go_region
      all_goals go_wp2_with fail
      all_goals refine bodyPost_ret (v := .tuple #[.slice pt i ct, sv, .bool true, .int .i64 0]) (by simp [results, Tryz.f18, go_sem]) rfl ?_
      all_goals
        rw [HNC.out true (decide_eq_true hnb0)]; refine ⟨_, _, n3, rfl, ?_, HS9.out.stamps, HS9.out.run.drop (fun b hb => ?_), HB.out, HK9.out⟩
        · have := HS9.out.tree
          rw [show mixT (str path) a.tree i = a.tree.map (trimN (str path)) by rw [← HNT.out]; exact mixT_all _ _] at this; exact this
        unfold wkB; simp only [List.mem_append, List.mem_cons] at hb ⊢
        rcases hb with (h | h) | h
        · exact .inl (.inr (.inl h))
        · exact .inl (.inr (.inr (.inl h)))
        exact .inr h
    go_wp2_with fail
    go_region
    all_goals go_wp2_with fail
    all_goals refine bodyPost_ret (v := .tuple #[.slice pt i ct, sv, .bool false, .int .i64 0]) (by simp [results, Tryz.f18, go_sem]) rfl ?_
    all_goals
      rw [HNC.out false (decide_eq_false hnb0)]; refine ⟨_, _, n3, rfl, ?_, HS9.out.stamps, HS9.out.run.drop (fun b hb => ?_), HB.out, HK9.out⟩
      · have := HS9.out.tree
        rw [show mixT (str path) a.tree i = a.tree.map (trimN (str path)) by rw [← HNT.out]; exact mixT_all _ _] at this; exact this
      unfold wkB; simp only [List.mem_append, List.mem_cons] at hb ⊢
      rcases hb with (h | h) | h
      · exact .inl (.inr (.inl h))
      · exact .inl (.inr (.inr (.inl h)))
      exact .inr h
end
section
open Go.RowKit Go.Op Go.Maps
section
variable {t : List Node} {see : ByteArray → Bool}
theorem seen_tree (ht : okTree t = true) (hS : SeeOk see) : okTree (t.filter fun n => see n.path) = true :=
  tree_of (Nat.le_trans (List.length_filter_le _ _) (okTree_len ht)) (filter_sorted (okTree_sorted ht) _) fun n hn => by
    obtain ⟨h1, h2⟩ := List.mem_filter.1 hn; have hk := okTree_path ht h1; refine ⟨hk, okTree_right ht h1, isDir_iff.2 ?_⟩
    rcases isDir_iff.1 (parent_dir ht h1) with h0 | ⟨d, hd1, hd2, hd3⟩
    · exact .inl h0
    refine .inr ⟨d, List.mem_filter.2 ⟨hd1, ?_⟩, hd2, hd3⟩
    have hp0 : parent n.p ≠ [] := by rw [← hd2]; exact okPath_ne (okTree_path ht hd1)
    exact hS.up n.path d.path h2 (okTree_path ht hd1) (by
      show within n.p d.p = true
      rw [hd2]; exact within_parent hk hp0)
theorem seen_at (ht : okTree t = true) {n : Node} (hn : n ∈ t) (hs : see n.path = true) : inAt (t.filter fun x => see x.path) n.p = n :: foundIn see t n.p := by
  have hsr := okTree_sorted ht; have hk := okTree_path ht hn; unfold inAt foundIn subN; refine sorted_ext (filter_sorted (filter_sorted hsr _) _) ?_ fun m => ?_
  · unfold Sorted
    rw [List.pairwise_cons]; refine ⟨fun m hm => ?_, filter_sorted (filter_sorted hsr _) _⟩; obtain ⟨hm1, hm2⟩ := List.mem_filter.1 (List.mem_filter.1 hm).1; obtain ⟨r, hr, he⟩ := (inD_parts (okTree_path ht hm1) (.inr hk)).1 hm2; rw [if_neg (okPath_ne hk)] at he; unfold order; rw [he]; exact cmpN_own _ _ hr
  simp only [List.mem_filter, List.mem_cons]
  unfold inD; rw [if_neg (okPath_ne hk)]
  constructor
  · rintro ⟨⟨h1, h2⟩, h3⟩
    by_cases e : m.p = n.p
    · exact .inl (hsr.unique h1 hn e)
    exact .inr ⟨⟨h1, by rw [h3]; simpa using e⟩, h2⟩
  rintro (rfl | ⟨⟨h1, h2⟩, h3⟩)
  · exact ⟨⟨hn, hs⟩, within_self hk⟩
  rw [Bool.and_eq_true] at h2; exact ⟨⟨h1, h3⟩, h2.1⟩
end
end
section
open Go.RowKit Go.Op
section
variable {P : Program}
theorem wpList_append_src8 (w : World) {ops : Array Oper} {rest : List Oper} {o : Oper} {a : Act} {Q : Exit → Act → World → Prop} (hgd : o.guard = none) (s x : Operand) (t : TypeId)
    (ho : o.op = .call { callee := .builtin .append, args := #[s, x], argTypes := #[t, t] })
    (base : Nat) (e : TypeId) (i : TypeInfo) (z : Value) (size bytes : Nat) (ht : P.underlying t = some (.slice e)) (hi : P.info? e = some i) (hz : i.zero = some z)
    (hsize : i.size = size) (hby : i.bytes = bytes) (hzs : z.cells.size = size) (hsz : 0 < size)
    (v : Value) (n : Nat) (xs : List Value) (hs : a.eval s = v) (hown : w.ownsRow base e size v n xs)
    (p : Option Addr) (m c : Nat) (news : List Value) (hx : a.eval x = .slice p m c) (hl : news.length = m * size) (hnews : ∀ ad, p = some ad → ∀ j u, news[j]? = some u → w.cell? (ad.add j) = some u) (hnone : p = none → m = 0 ∧ c = 0) (h1 : ∀ u ∈ news, u.oneCell' = true)
    (h63 : n + m ≤ maxLen) (hbytes : (n + m) * bytes ≤ 140737488355328) (hbase : base ≤ w.heap.size)
    (h : ∀ v' w', w'.ownsRow base e size v' (n + m) (xs ++ news) → w.grownBy w' v.ownBlock → wpList P ops Q rest (a.put o.dst v') w') : wpList P ops Q (o :: rest) a w := by
  cases p with
  | none =>
    obtain ⟨rfl, rfl⟩ := hnone rfl; have hnil : news = [] := List.length_eq_zero_iff.1 (by rw [hl]; simp)
    subst hnil; refine Lib.wpList_append_run w hgd s x t t ho v (.slice none 0 0) hs hx v w (run_append_owned_none w base t o.type e i size ht hi v n xs hown) (h v w ?_ ⟨rfl, rfl, rfl, Nat.le_refl _, fun _ _ _ => rfl⟩); rw [Nat.add_zero, List.append_nil]; exact hown
  | some ad =>
    exact wpList_append_own w hgd s x t ho base e i z size bytes ht hi hz hsize hby hzs hsz v n xs hs hown ad m c news hx hl (hnews ad rfl) h1 h63 hbytes hbase (fun v' w' a1 a2 _ => h v' w' a1 a2)
end
theorem fits1_tree8 {t : List Node} (h : okTree t = true) : Fits1 t := fun n hn => by
  have h1 := okTree_small h hn; have h2 := okTree_right h hn; refine ⟨by omega, ?_⟩; unfold rightN at h2
  split at h2
  · simp only [Bool.and_eq_true, decide_eq_true_eq] at h2; omega
  split at h2
  · simp only [Bool.and_eq_true, decide_eq_true_eq] at h2; omega
  split at h2
  · simp only [Bool.and_eq_true, decide_eq_true_eq] at h2; omega
  cases h2
def OwnT8 (t : List Node) (w : World) (e : Ending) (w' : World) : Prop :=
  ∃ x, e = .returned x ∧ w'.ownsRow w.heap.size 30 4 x t.length (cellsOf t) ∧ Off [] w w'
theorem four_at8 {w : World} {g : Nat} {t : TypeId} {a b c d : Value} (h : Blk w g t #[a, b, c, d]) : ∀ j u, [a, b, c, d][j]? = some u → w.cell? ((⟨g, 0, none⟩ : Addr).add j) = some u := by
  intro j u hj
  match j, hj with
  | 0, hj => rw [addr_add, h.cell]; simpa using hj
  | 1, hj => rw [addr_add, h.cell]; simpa using hj
  | 2, hj => rw [addr_add, h.cell]; simpa using hj
  | 3, hj => rw [addr_add, h.cell]; simpa using hj
  | j + 4, hj => simp at hj
theorem rwithin_w8 (a b : ByteArray) (w : World) (ha : a.size ≤ 1048576) (hb : b.size ≤ 1048576) (v : Bool) (hv : within (str a) (str b) = v) :
    Calls Tryz.prog 60 #[.string a, .string b] w fun e w' => e = .returned (.bool v) ∧ Off [] w w' := hv ▸ rwithin_any a b w ha hb
theorem inAt_take8 {t : List Node} {q : Str} {i : Nat} {x : Node} (h : t[i]? = some x) : inAt (t.take (i + 1)) q = inAt (t.take i) q ++ if within x.p q = true then [x] else [] := by
  unfold inAt; rw [take_get h, List.filter_append, List.filter_cons]
  split <;> simp
theorem own_one8 {W : World} {base : Nat} (n : Node) (hb : base ≤ W.heap.size) : (W.alloc (.cells #[.string n.path, .int .i64 n.kind, .string n.data, .int .i64 n.mode] 30)).ownsRow base 30 4 (.slice (some ⟨W.heap.size, 0, none⟩) 1 1) 1 (cellsOf [n]) :=
  ⟨rfl, .inr ⟨_, 1, _, rfl, hb, heap_alloc_new W _, by omega, by decide, rfl, rfl⟩⟩
set_option maxRecDepth 100000 in
set_option maxHeartbeats 8000000 in
theorem rat_any8 (p : Option Addr) (t : List Node) (n c : Nat) (path : ByteArray) (w : World) (hR : Row w p t) (hn : t.length = n) (hpn : p = none → t = [] ∧ c = 0) (hok : okTree t = true) (hP : str path = [] ∨ okPath (str path) = true) :
    Calls Tryz.prog 19 #[.slice p n c, .string path] w (OwnT8 (atR t (str path)) w) := by
  obtain ⟨i0, hi0, hz0, hz1, hz2⟩ := info_parts infoNode; have hlen : n ≤ 1000 := by rw [← hn]; exact okTree_len hok
  have HN := Lib.hid hn; have HR := Lib.hid hR; have HF := Lib.hid (fits1_tree8 hok); have HOK := Lib.hid hok; have HPN := Lib.hid hpn; have hE : path.toList = [] ↔ str path = [] := by rw [toList_str]
  clear hn hR hok hpn
  by_cases h0 : str path = []
  · have g1 := hE.2 h0
    have g1' : path.toList.isEmpty = true := by simp [g1]
    have E := Lib.hid (show atR t (str path) = [rootN] ++ t by unfold atR; rw [if_pos HOK.out, if_pos h0]; rfl); clear hE h0 hP
    go_enter Tryz.func19, Tryz.ntmps19
    go_wp2_with fail
    refine (rcheck_v p t n c _ HR.out HN.out (by omega) HF.out 0 (chkV_ok HOK.out)).mono ?_
    rintro e w1 ⟨rfl, ho⟩; have hown1 := own_one8 (W := w1) rootN ho.size; have hRa := HR.out.off (ho.alloc (.cells #[.string rootN.path, .int .i64 rootN.kind, .string rootN.data, .int .i64 rootN.mode] 30)); have HRC := Lib.hid (fun (ad : Addr) (hp : p = some ad) (j : Nat) (u : Value) (hj : (cellsOf t)[j]? = some u) => (hp ▸ hRa : Row _ (some ad) t).cells hj)
    have HCL := Lib.hid (show (cellsOf t).length = n * 4 by rw [cellsOf_len, HN.out]); have HC1 := Lib.hid (cellsOf_one (t := t)); clear hRa
    go_wp2_with (at_builtin; refine wpList_append_src8 _ rfl _ _ 22 rfl w.heap.size 30 i0 node0.val 4 48 Tryz.underlying22 hi0 hz0 hz1 hz2 rfl (by decide) _ _ _ rfl hown1 p n c (cellsOf t) rfl HCL.out HRC.out (fun h => by have := HPN.out h; have := HN.out; simp_all) HC1.out (by unfold maxLen; omega) (by omega) (by have := ho.size; simp; omega) ?_; intro v' W6 hown' hgrow)
    go_ret
    refine ⟨v', rfl, ?_, own_grown (ho.alloc _) hown1 hgrow⟩
    rw [E.out, List.length_append, cellsOf_append, HN.out]; exact hown'
  have hp : okPath (str path) = true := hP.resolve_left h0
  have g1 : ¬ path.toList = [] := fun e => h0 (hE.1 e)
  have g1' : path.toList.isEmpty = false := by simpa using g1
  have hps : path.size ≤ 400 := by rw [← str_size]; exact okPath_size hp
  have E := Lib.hid (atR_path HOK.out hp); have HP := Lib.hid hp; clear hE h0 hP hp
  go_enter Tryz.func19, Tryz.ntmps19
  go_wp2_with fail
  refine (rcheck_v p t n c _ HR.out HN.out (by omega) HF.out 0 (chkV_ok HOK.out)).mono ?_
  rintro e w1 ⟨rfl, ho1⟩
  go_wp2_with fail
  go_loopw [6, 5] (fun x z wr => ∃ i : Nat, x = .int .i64 i ∧ i ≤ n ∧ wr.ownsRow w.heap.size 30 4 z ((inAt (t.take i) (str path)).map (trimN (str path))).length (cellsOf ((inAt (t.take i) (str path)).map (trimN (str path)))) ∧ Off [] w wr) (fun x _ _ => n - (intOf x).toNat)
  case atStart => exact ⟨0, rfl, by omega, ⟨rfl, .inl ⟨rfl, rfl⟩⟩, ho1⟩
  case round =>
    clear ho1; obtain ⟨i, rfl, hi, hown, hof⟩ := hrel
    by_cases hlt : i < n
    · have hil : i < t.length := by rw [HN.out]; exact hlt
      obtain ⟨a, rfl, hna, hab⟩ := HR.out.get i hil; have hx := List.getElem?_eq_getElem hil; have hxs := (HF.out _ (List.getElem_mem hil)).1; have hxk : okPath t[i].p = true := okTree_path HOK.out (List.getElem_mem hil)
      have hml : ((inAt (t.take i) (str path)).map (trimN (str path))).length ≤ 1000 := by
        rw [List.length_map]; have := filter_len (t.take i) (fun n => within n.p (str path)); rw [List.length_take] at this; unfold inAt; omega
      have HTK := Lib.hid (inAt_take8 (q := str path) hx); generalize t[i] = x at *; have HRX := Lib.hid (fun (W : World) (ho : Off [] w W) => hna.off ho (by rw [add_block]; exact hab)); have HX := Lib.hid hx; have HOWN := Lib.hid hown; clear hna hx hown; generalize hX : (inAt (t.take i) (str path)).map (trimN (str path)) = X at *
      have HXE := Lib.hid hX; clear hX
      by_cases he : x.path = path
      · have hpe : (x.path.toList == path.toList) = true := by rw [he]; simp
        have HNW := Lib.hid (show (inAt (t.take (i + 1)) (str path)).map (trimN (str path)) = X ++ [⟨⟨#[]⟩, x.kind, x.data, x.mode⟩] by
          rw [HTK.out, if_pos (show within x.p (str path) = true by unfold Node.p; rw [he]; exact within_self HP.out), List.map_append, HXE.out]
          congr 1
          show [trimN (str path) x] = _
          unfold trimN Node.p; rw [he, List.drop_eq_nil_of_le (by omega)]; rfl)
        clear he hxk HTK; have c0 := (HRX.out _ hof).path; have c1 := (HRX.out _ hof).kind; have c2 := (HRX.out _ hof).data; have c3 := (HRX.out _ hof).mode; have hownA := (HOWN.out.alloc (.cells #[.string ⟨#[]⟩, .int .i64 x.kind, .string x.data, .int .i64 x.mode] 30)).alloc (.cells #[.string ⟨#[]⟩, .int .i64 x.kind, .string x.data, .int .i64 x.mode] 30)
        go_wp2_with (at_builtin; refine wpList_append_own _ rfl _ _ 22 rfl w.heap.size 30 i0 node0.val 4 48 Tryz.underlying22 hi0 hz0 hz1 hz2 rfl (by decide) _ _ _ rfl hownA ⟨wr.heap.size + 1, 0, none⟩ 1 1 [_, _, _, _] rfl rfl (four_at8 (Blk.new1 wr _ _ _)) (by simp [Value.oneCell']) (by unfold maxLen; omega) (by omega) (by have := hof.size; simp; omega) ?_; intro v' W6 hown' hgrow _)
        refine ⟨⟨i + 1, by congr 1, by omega, ?_, own_grown ((hof.alloc _).alloc _) hownA hgrow⟩, by simp only [intOf]; omega⟩
        rw [HNW.out, List.length_append, cellsOf_append]; exact hown'
      have hpe : (x.path.toList == path.toList) = false := by rw [beq_bs]; simp [he]
      have hne : ¬ x.p = str path := fun e => he (str_inj e)
      cases hw : within x.p (str path)
      · have HNW := Lib.hid (show (inAt (t.take (i + 1)) (str path)).map (trimN (str path)) = X by
          rw [HTK.out, hw, if_neg (by simp), List.append_nil, HXE.out])
        have HWI := Lib.hid (show within (str x.path) (str path) = false from hw); clear he hne hxk HTK hw; have c0 := (HRX.out _ hof).path
        go_wp2_with fail
        refine (rwithin_w8 x.path path _ (by omega) (by omega) false HWI.out).mono ?_
        rintro e w7 ⟨rfl, ho7⟩; clear c0
        go_wp2_with fail
        refine ⟨⟨i + 1, by congr 1, by omega, ?_, hof.trans_nil ho7⟩, by simp only [intOf]; omega⟩
        rw [HNW.out]; exact ownsRow_off HOWN.out ho7
      have HNW := Lib.hid (show (inAt (t.take (i + 1)) (str path)).map (trimN (str path)) = X ++ [trimN (str path) x] by
        rw [HTK.out, hw, if_pos rfl, List.map_append, HXE.out]; rfl)
      have HWI := Lib.hid (show within (str x.path) (str path) = true from hw); obtain ⟨s, hs⟩ := ((within_iff hxk HP.out).1 hw).resolve_left hne; have hsz : path.size + 1 ≤ x.path.size := by
        have := congrArg List.length hs; unfold Node.p at this; rw [str_size, List.length_append, List.length_cons, str_size] at this; omega
      have hex : x.path.extract (path.size + 1) x.path.size = (trimN (str path) x).path := by
        unfold trimN Node.p; rw [extract_bs, str_size, List.take_of_length_le (by rw [List.length_drop, str_size]; omega)]
      have HEX := Lib.hid hex; clear he hne hxk HTK hw hs hex; have c0 := (HRX.out _ hof).path
      go_wp2_with fail
      refine (rwithin_w8 x.path path _ (by omega) (by omega) true HWI.out).mono ?_
      rintro e w7 ⟨rfl, ho7⟩; have hof7 := hof.trans_nil ho7; have HOW7 := Lib.hid (ownsRow_off HOWN.out ho7); clear c0 hof ho7; have c0 := (HRX.out _ hof7).path; have c1 := (HRX.out _ hof7).kind; have c2 := (HRX.out _ hof7).data; have c3 := (HRX.out _ hof7).mode
      have cA : (w7.alloc (.cells #[.string x.path, .int .i64 x.kind, .string x.data, .int .i64 x.mode] 30)).cell? (a.add (i * 4)) = some (.string x.path) := Lib.cell?_alloc_some _ c0
      obtain ⟨tp, htp⟩ : ∃ tp, (trimN (str path) x).path = tp := ⟨_, rfl⟩
      rw [htp] at HEX; have HTP := Lib.hid htp; have hex := HEX.out; have d3 : (0 : Int) ≤ ↑path.size + 1 := by omega
      have d4 : (↑path.size + 1 : Int) ≤ ↑x.path.size := by omega
      have hownA := (HOW7.out.alloc (.cells #[.string tp, .int .i64 x.kind, .string x.data, .int .i64 x.mode] 30)).alloc (.cells #[.string tp, .int .i64 x.kind, .string x.data, .int .i64 x.mode] 30); clear htp
      go_wp2_with (at_builtin; refine wpList_append_own _ rfl _ _ 22 rfl w.heap.size 30 i0 node0.val 4 48 Tryz.underlying22 hi0 hz0 hz1 hz2 rfl (by decide) _ _ _ rfl hownA ⟨w7.heap.size + 1, 0, none⟩ 1 1 [_, _, _, _] rfl rfl (four_at8 (Blk.new1 w7 _ _ _)) (by simp [Value.oneCell']) (by unfold maxLen; omega) (by omega) (by have := hof7.size; simp; omega) ?_; intro v' W6 hown' hgrow _)
      refine ⟨⟨i + 1, by congr 1, by omega, ?_, own_grown ((hof7.alloc _).alloc _) hownA hgrow⟩, by simp only [intOf]; omega⟩
      rw [HNW.out, List.length_append, cellsOf_append]; have e9 : cellsOf [trimN (str path) x] = [.string tp, .int .i64 x.kind, .string x.data, .int .i64 x.mode] := by rw [← HTP.out]; rfl
      rw [e9]; exact hown'
    obtain rfl : i = n := by omega
    have e0 : t.take i = t := List.take_of_length_le (by rw [HN.out]; exact Nat.le_refl _)
    rw [e0, ← E.out] at hown
    go_wp2_with fail
    go_ret
    exact ⟨_, rfl, hown, hof⟩
end
end Go.Proofs.YtoicjadioiomkaaGreatDoor
