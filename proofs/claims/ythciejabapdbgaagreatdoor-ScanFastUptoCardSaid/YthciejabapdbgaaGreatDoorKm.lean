/- Texts of this claim, one behind the other: Bud HideLaw Scan ScanQ Awk11 HideP Short Hides LastOp NumP CrcP ArcP ArcM NumW ArcC ArcK Rf9 Rf9b Rf9c BldW BldH BldF. Conditions: what each lemma states. -/
import Derived.Test.YthciejabapdbgaaGreatDoorKl
import Derived.Test.YthciejabapdbgaaGreatDoorKj
import Derived.Test.YthciejabapdbgaaGreatDoorKb
import Derived.KernelRfl
import Derived.Test.YthciejabapdbgaaGreatDoorKc
import Derived.Test.YthciejabapdbgaaGreatDoorKi
import Derived.StillTail
import Derived.Deep.RegionHeld
import Derived.Test.YthciejabapdbgaaGreatDoorKa
import Derived.Laws.BitsAllLaws
import Derived.WalkSpells
import Derived.WalkLawsBesides
import Derived.Maps.AppendAt
import Derived.Shelf.Strings.SlTrimAscii
import Derived.Laws.StructEq
import Derived.Deep.QuietTactic
import Derived.BigQuiet
import Derived.Shelf.Strings.Builder1
import Derived.Deep.RegionHeld3
import Derived.Lib.FrozenHead
import Derived.Lib.MakeNoZero
set_option linter.unusedVariables false
set_option linter.unusedSimpArgs false
namespace Go.Proofs.YthciejabapdbgaaGreatDoor
section
open Go.RowKit Go.Op Go.Maps
theorem parts_short : ∀ (s x : Str), x ∈ parts s → x.length ≤ s.length := by
  intro s
  generalize hn : s.length = n
  induction n using Nat.strongRecOn generalizing s with
  | ind n ih =>
    intro x hx
    cases s with
    | nil => simp [parts] at hx; simp [hx]
    | cons c s =>
      simp only [List.length_cons] at hn
      by_cases hc : c = 47
      · subst hc
        rw [parts_slash] at hx
        rcases List.mem_cons.1 hx with rfl | hx
        · simp
        have := ih s.length (by omega) s rfl x hx; omega
      obtain ⟨a, t, e, e'⟩ := parts_cons hc s; rw [e'] at hx
      rcases List.mem_cons.1 hx with rfl | hx
      · have := ih s.length (by omega) s rfl a (by rw [e]; simp); simp; omega
      have := ih s.length (by omega) s rfl x (by rw [e]; simp [hx]); omega
theorem base_short (s : Str) : (base s).length ≤ s.length := by
  unfold base
  split
  · exact parts_short s _ (List.getLast_mem _)
  simp
theorem namesOn_few (D : PDisk) (p : ByteArray) : (D.namesOn p).1.length ≤ 1000000 ∧ ∀ x ∈ (D.namesOn p).1, x.size ≤ 1000000 := by
  unfold PDisk.namesOn; dsimp only; generalize (if p = ⟨#[]⟩ then (0 : Int) else firstE [PDisk.no p, D.gone p]) = e
  split
  · exact ⟨by simp, fun x hx => by simp at hx⟩
  split
  · show (namesR D.tree (str p)).length ≤ 1000000 ∧ ∀ x ∈ namesR D.tree (str p), x.size ≤ 1000000
    unfold namesR
    split
    · rename_i h
      simp only [Bool.and_eq_true] at h
      have h1 := okTree_len h.1; have h2 := namesOf_len D.tree (str p); refine ⟨by omega, fun x hx => ?_⟩; obtain ⟨n, hn, rfl⟩ := List.mem_map.1 hx; have hk := ok_size (okTree_path h.1 (List.mem_filter.1 hn).1); have := base_short n.p; rw [bs_size]; omega
    exact ⟨by simp, fun x hx => by simp at hx⟩
  exact ⟨by simp, fun x hx => by simp at hx⟩
theorem namesC_few (D : PDisk) (p : ByteArray) : (D.namesC p).1.1.length ≤ 1000000 ∧ ∀ x ∈ (D.namesC p).1.1, x.size ≤ 1000000 := by
  unfold PDisk.namesC
  rcases D.step ⟨#[78, 97, 109, 101, 115]⟩ p ⟨#[]⟩ with ⟨full, e, E⟩
  dsimp only
  split
  · exact ⟨by simp, fun x hx => by simp at hx⟩
  exact namesOn_few E p
theorem get_disk (D : PDisk) (p : ByteArray) : (D.get p).2 = (D.step ⟨#[71, 101, 116]⟩ p ⟨#[]⟩).2.2 := by
  unfold PDisk.get
  rcases D.step ⟨#[71, 101, 116]⟩ p ⟨#[]⟩ with ⟨full, e, E⟩
  dsimp only
  split <;> rfl
theorem names_disk (D : PDisk) (p : ByteArray) : (D.namesC p).2 = (D.step ⟨#[78, 97, 109, 101, 115]⟩ p ⟨#[]⟩).2.2 := by
  unfold PDisk.namesC
  rcases D.step ⟨#[78, 97, 109, 101, 115]⟩ p ⟨#[]⟩ with ⟨full, e, E⟩
  dsimp only
  split <;> rfl
section
variable {w0 w w' : World} {p n C : Nat} {D : PDisk} {k : List Nat}
theorem runC_get (h : RunE w0 w p D n k) (hf : Fine D n) (hd : EdC C D) (hn : n + C ≤ 40000000) (path : ByteArray) (hs : path.size ≤ 9223372036854775807) :
    Calls Tryz.prog 154 #[.pointer (some ⟨p, 0, none⟩), .string path] w fun e w' => e = .returned (getVal (D.edited.get path).1) ∧ RunE w0 w' p (D.edited.get path).2 (n + C + 1) k ∧ Kept k w w' :=
  (h.le (show n ≤ n + C by omega)).call (R := fun e _ => e = .returned (getVal (D.edited.get path).1)) fun G hG => dget_callE p (n + C) G D path w hG (hd.eok hf) (by omega) hs
theorem runC_names (h : RunE w0 w p D n k) (hf : Fine D n) (hd : EdC C D) (hn : n + C ≤ 40000000) (path : ByteArray) (hs : path.size ≤ 9223372036854775807) :
    Calls Tryz.prog 102 #[.pointer (some ⟨p, 0, none⟩), .string path] w fun e w' => ∃ v wm, e = .returned (.tuple #[v, .int .i64 (D.edited.namesC path).1.2]) ∧
      w'.ownsRow wm.heap.size 9 1 v (D.edited.namesC path).1.1.length ((D.edited.namesC path).1.1.map Value.string) ∧ RunE w0 wm p (D.edited.namesC path).2 (n + C + 1) k ∧ Off [] wm w' ∧ Kept k w w' := by
  obtain ⟨G, h1, h2, h3, h4, h5⟩ := h.le (show n ≤ n + C by omega); refine (dnames_callE p (n + C) G D path w h1 (hd.eok hf) hn hs (hd.edited hf).light).mono fun e w' ⟨v, wm, he, hr, hT, ho⟩ => ?_
  obtain ⟨a1, a2⟩ := RunE.to_ (k := k) h1 h2 h3 h4 h5 hT; refine ⟨v, wm, he, hr, a1, ho, fun b hb => ?_⟩; obtain ⟨G', -, -, -, -, c5⟩ := a1; rw [ho.block b (c5 b hb).1 (by simp), a2 b hb]
theorem getC_fine (h : Fine D n) (hd : EdC C D) (q : ByteArray) : Fine (D.edited.get q).2 (n + C + 1) ∧ EdC C (D.edited.get q).2 := by
  have he := hd.edited h; have h8 : (D.edited.get q).2 = askD D.edited ⟨8, q, ⟨#[]⟩, ⟨#[]⟩, 0⟩ := rfl
  refine ⟨⟨by rw [get_disk]; exact PDisk.step_ok he.ok _ _ _, ?_, ?_⟩, hd.of (.inl ((get_edits _ _).trans (edited_edits D)))⟩
  · rw [h8]; exact he.good.ask he.ok _
  rw [h8]; exact he.light.ask _ (show (⟨#[]⟩ : ByteArray).size ≤ maxLen by decide) (show (⟨#[]⟩ : ByteArray).size ≤ maxLen by decide)
theorem namesC_fine (h : Fine D n) (hd : EdC C D) (q : ByteArray) : Fine (D.edited.namesC q).2 (n + C + 1) ∧ EdC C (D.edited.namesC q).2 := by
  have he := hd.edited h; have h8 : (D.edited.namesC q).2 = askD D.edited ⟨9, q, ⟨#[]⟩, ⟨#[]⟩, 0⟩ := rfl
  refine ⟨⟨by rw [names_disk]; exact PDisk.step_ok he.ok _ _ _, ?_, ?_⟩, hd.of (.inl ((names_edits _ _).trans (edited_edits D)))⟩
  · rw [h8]; exact he.good.ask he.ok _
  rw [h8]; exact he.light.ask _ (show (⟨#[]⟩ : ByteArray).size ≤ maxLen by decide) (show (⟨#[]⟩ : ByteArray).size ≤ maxLen by decide)
end
def BudC (C m : Nat) (D : PDisk) (n : Nat) : Prop := Fine D n ∧ EdC C D ∧ n + m * (C + 1) + C ≤ 40000000 ∧ m ≤ 900000
theorem budC (w0 : World) (d C : Nat) : Budget w0 d (BudC C) where
  get := fun {m D n} path h hs => by
    obtain ⟨h1, h2, h3, h4⟩ := h; obtain ⟨k1, k2⟩ := getC_fine h1 h2 path; have h5 : (m + 1) * (C + 1) = m * (C + 1) + (C + 1) := Nat.succ_mul _ _
    exact ⟨n + C + 1, ⟨k1, k2, by omega, by omega⟩, fun k W hr => runC_get hr h1 h2 (by omega) path (by omega)⟩
  names := fun {m D n} path h hs => by
    obtain ⟨h1, h2, h3, h4⟩ := h; obtain ⟨k1, k2⟩ := namesC_fine h1 h2 path; have h5 : (m + 1) * (C + 1) = m * (C + 1) + (C + 1) := Nat.succ_mul _ _
    exact ⟨namesC_few _ _, n + C + 1, ⟨k1, k2, by omega, by omega⟩, fun k W hr => runC_names hr h1 h2 (by omega) path (by omega)⟩
  le := fun h => h.2.2.2
  less := fun {m m' D n} h hm => by
    obtain ⟨h1, h2, h3, h4⟩ := h; have := Nat.mul_le_mul_right (C + 1) hm; exact ⟨h1, h2, by omega, by omega⟩
end
section
open Go.RowKit Go.Op Go.Maps
theorem found_root (see : ByteArray → Bool) (t : List Node) : foundIn see t [] = t.filter fun n => see n.path := by
  unfold foundIn subN; rw [List.filter_filter]; refine List.filter_congr fun n _ => ?_
  unfold inD; simp
section
variable {t : List Node} {path b : ByteArray}
end
end
section
open Go.RowKit Go.Op Go.Maps
def wk0 : Wk := ⟨[], [], []⟩
def ScanTo (w0 w : World) (d : Nat) (r : Int × Wk × PDisk) (m : Nat) (Bud : Nat → PDisk → Nat → Prop) (K : List Nat) (e : Ending) (w' : World) : Prop :=
  ∃ tv sv bv n', e = .returned (.tuple #[tv, sv, bv, .int .i64 r.1]) ∧ w'.ownsRow 0 105 4 tv (if r.1 = 0 then r.2.1.tree else []).length (cellsOf (if r.1 = 0 then r.2.1.tree else [])) ∧
    w'.ownsRow 0 117 3 sv (if r.1 = 0 then r.2.1.stamps else []).length (stCells (if r.1 = 0 then r.2.1.stamps else [])) ∧ w'.ownsRow 0 9 1 bv (if r.1 = 0 then r.2.1.blocked else []).length ((if r.1 = 0 then r.2.1.blocked else []).map Value.string) ∧
    RunE w0 w' d r.2.2 n' ((tv.ownBlock.toList ++ (sv.ownBlock.toList ++ bv.ownBlock.toList)) ++ K) ∧ Bud m r.2.2 n' ∧ Kept K w w'
set_option maxRecDepth 100000 in
set_option maxHeartbeats 4000000 in
theorem scan_any {w0 w : World} {d n m c : Nat} {L : List RuleP} {q : Option Addr} {D : PDisk} {K : List Nat} {Bud : Nat → PDisk → Nat → Prop} (hBud : Budget w0 d Bud) (hr : RunE w0 w d D n K) (hR : RlK K w L q c) (hT : Tabs w0)
    (hb : Bud (walkC (seeV L) 17 D ⟨#[]⟩ wk0 + m) D n) (hl : walkC (seeV L) 17 D ⟨#[]⟩ wk0 * 3 ≤ 1000000) :
    Calls Tryz.prog 14 #[.pointer (some ⟨d, 0, none⟩), .slice q L.length c] w (ScanTo w0 w d (walkW (seeV L) 17 D ⟨#[]⟩ wk0) m Bud K) := by
  have hlt : ∀ b ∈ K, b < w.heap.size := fun b hb => by obtain ⟨G, -, -, -, -, h5⟩ := hr; exact (h5 b hb).1
  have ho := (Off.refl [] w).alloc (.cells #[.slice q L.length c, .pointer (some ⟨d, 0, none⟩), .slice none 0 0, .slice none 0 0, .slice none 0 0] 138); have hs : SWf w0 (w.alloc (.cells #[.slice q L.length c, .pointer (some ⟨d, 0, none⟩), .slice none 0 0, .slice none 0 0, .slice none 0 0] 138)) d w.heap.size (.slice q L.length c) D n wk0 K (.slice none 0 0) (.slice none 0 0) (.slice none 0 0) :=
    ⟨hr.more (k' := [w.heap.size]) ho (fun b hb => by simp at hb; subst hb; simp), Blk.new _ _ _, World.ownsRow_nil _ _ _ _, World.ownsRow_nil _ _ _ _, World.ownsRow_nil _ _ _ _, fun b hb hm => by
      have := hlt b hb; simp [wkB, Value.ownBlock] at hm; omega, hT, fun b hm => by
      simp [wkB, Value.ownBlock] at hm
      subst hm; exact hr.since.size⟩
  have HD := Lib.hid (down_any (wp := w.heap.size) (L := L) (q := q) (c := c) hBud 17 _ D ⟨#[]⟩ wk0 n m K ⟨_, _, _, hs⟩ (hR.kept (Kept.of_off ho hlt)) hb (.inl rfl) (by omega) (by simpa [wk0] using hl)); have HK := Lib.hid (Kept.of_off ho hlt); clear hs ho hb hl hR hr hT hlt; generalize walkW (seeV L) 17 D ⟨#[]⟩ wk0 = r at *; generalize L.length = nL at *; obtain ⟨er, a, D1⟩ := r
  go_enter Tryz.func14, Tryz.ntmps14
  go_wp2_with fail
  refine HD.out.mono ?_
  rintro e w1 ⟨rfl, n1, ⟨tv, sv, bv, h1⟩, hb1, hk1⟩; have H1 := Lib.hid h1; have HB1 := Lib.hid hb1; have HK1 := Lib.hid (HK.out.trans hk1); have hc := h1.blk.cell; clear h1 hb1 hk1; have H2 := Lib.hid (H1.out.off (Off.refl [] w1).drew)
  by_cases he : er = 0
  · subst he
    go_wp2_with fail
    go_region
    all_goals go_wp2_with fail
    all_goals refine bodyPost_ret (v := .tuple #[tv, sv, bv, .int .i64 0]) (by simp [results, Tryz.f14, go_sem]) rfl ?_
    all_goals exact ⟨tv, sv, bv, n1, rfl, H2.out.tree, H2.out.stamps, H2.out.blocked, H2.out.run.drop (k' := (tv.ownBlock.toList ++ (sv.ownBlock.toList ++ bv.ownBlock.toList)) ++ K) (fun b hb => by
      unfold wkB; simp only [List.mem_append, List.mem_cons] at hb ⊢
      rcases hb with (h | h | h) | h
      · exact .inl (.inr (.inl h))
      · exact .inl (.inr (.inr (.inl h)))
      · exact .inl (.inr (.inr (.inr h)))
      exact .inr h), HB1.out, HK1.out⟩
  go_wp2_with fail
  refine bodyPost_ret (v := .tuple #[.slice none 0 0, .slice none 0 0, .slice none 0 0, .int .i64 er]) (by simp [results, Tryz.f14, go_sem]) rfl ?_
  refine ⟨_, _, _, n1, rfl, by rw [if_neg he]; exact World.ownsRow_nil _ _ _ _, by rw [if_neg he]; exact World.ownsRow_nil _ _ _ _, by rw [if_neg he]; exact World.ownsRow_nil _ _ _ _, H1.out.run.drop (fun b hb => List.mem_append_right _ (by simpa [Value.ownBlock] using hb)), HB1.out, HK1.out⟩
end
section
open Go.RowKit Go.Op Go.Maps
theorem cost_nil {D : PDisk} (h : D.edits = []) : EdC 0 D := ⟨by rw [h]; exact Nat.le_refl _, by rw [h]; intro x hx; cases hx⟩
theorem newD_tree {t : List Node} (hok : okTree t = true) : (newD t).tree = t := tree_new (okTree_sorted hok) rfl (by
  show (t.map fun n => (⟨n, 0, false⟩ : Ino)).map (·.node) = t
  rw [List.map_map]; exact List.map_id'' (fun _ => rfl) t)
theorem newD_calm (t : List Node) : Calm (newD t) := ⟨rfl, rfl⟩
theorem newD_fine {t : List Node} (hok : okTree t = true) (hF : Fits t) : Fine (newD t) 0 := ⟨newD_ok hok, good_new hok, light_new hF⟩
structure ThreeR (w' : World) (tv sv bv : Value) (T : List Node) (S : List (Int × Int × Int)) (B : List ByteArray) : Prop where
  tree : w'.ownsRow 0 105 4 tv T.length (cellsOf T)
  stamps : w'.ownsRow 0 117 3 sv S.length (stCells S)
  blocked : w'.ownsRow 0 9 1 bv B.length (B.map Value.string)
def blk3 (tv sv bv : Value) : List Nat := tv.ownBlock.toList ++ (sv.ownBlock.toList ++ bv.ownBlock.toList)
theorem scan_quiet {w0 w : World} {d n0 n m c : Nat} {L : List RuleP} {q : Option Addr} {D E : PDisk} {K : List Nat} (hF : Fine D n0) (ht : okTree D.tree = true) (hS : SameQ D E) (hr : RunE w0 w d E n K) (hR : RlK K w L q c) (hT : Tabs w0)
    (hb : BudC 0 (2 * D.tree.length + 1 + m) E n) :
    Calls Tryz.prog 14 #[.pointer (some ⟨d, 0, none⟩), .slice q L.length c] w fun e w' => ∃ tv sv bv n' E', e = .returned (.tuple #[tv, sv, bv, .int .i64 0]) ∧
      ThreeR w' tv sv bv (foundIn (seeV L) D.tree []) ((foundIn (seeV L) D.tree []).map (stampD D)) (blockIn (seeV L) D.tree ⟨#[]⟩) ∧
      RunE w0 w' d E' n' (blk3 tv sv bv ++ K) ∧ SameQ D E' ∧ BudC 0 m E' n' ∧ Kept K w w' := by
  obtain ⟨E', h1, h2⟩ := walk_quiet (see_ok L) hF ht 17 E ⟨#[]⟩ wk0 hS (.inl rfl) (Nat.le_add_right _ _); have h3 := walkC_le (see := seeV L) 17 E ⟨#[]⟩ wk0; rw [show str (⟨#[]⟩ : ByteArray) = [] from rfl] at h1; have hfl : (foundIn (seeV L) D.tree []).length ≤ D.tree.length := by
    unfold foundIn subN; exact Nat.le_trans (List.length_filter_le _ _) (List.length_filter_le _ _)
  have htl := okTree_len ht; rw [h1] at h3; have h4 : walkC (seeV L) 17 E ⟨#[]⟩ wk0 ≤ 2 * (foundIn (seeV L) D.tree []).length + 1 := by
    generalize walkC (seeV L) 17 E ⟨#[]⟩ wk0 = vc at *
    simp only [bad01, if_true, Wk.plus, wk0, List.nil_append, List.length_nil] at h3
    omega
  have hsc := scan_any (w := w) (m := m) (Bud := BudC 0) (budC w0 d 0) hr hR hT ((budC w0 d 0).less hb (by omega)) (by omega); rw [h1] at hsc; refine hsc.mono ?_; rintro e w' ⟨tv, sv, bv, n', he, k1, k2, k3, k4, k5, k6⟩; refine ⟨tv, sv, bv, n', E', he, ⟨?_, ?_, ?_⟩, k4, h2, k5, k6⟩
  · simpa [Wk.plus, wk0] using k1
  · simpa [Wk.plus, wk0] using k2
  simpa [Wk.plus, wk0] using k3
end
section
open Go.RowKit Go.Op Go.Maps
def awkA : Node := ⟨⟨#[97]⟩, 1, ⟨#[120]⟩, 0⟩
def awk11 : List Node := [⟨ownB, 2, ⟨#[]⟩, 0⟩, awkA]
theorem awk_ok : okTree awk11 = true := by decide +kernel
theorem awk_fits : Fits awk11 := by
  intro n hn
  unfold awk11 awkA at hn; simp at hn
  rcases hn with rfl | rfl <;> exact ⟨by decide, by decide⟩
theorem awk_own : seeV [] ownB = false := by decide +kernel
theorem awk_see : seeV [] awkA.path = true := by decide +kernel
theorem awk_found : foundIn (seeV []) awk11 [] = [awkA] := by
  rw [found_root]; unfold awk11; rw [List.filter_cons_of_neg (by rw [awk_own]; simp), List.filter_cons_of_pos (p := fun n : Node => seeV [] n.path) awk_see]
  rfl
theorem awk_block : blockIn (seeV []) awk11 ⟨#[]⟩ = [] := by
  unfold blockIn; rw [show str (⟨#[]⟩ : ByteArray) = [] from rfl, awk_found]; have : hidIn (seeV []) awk11 ⟨#[]⟩ = false := by
    unfold hidIn awk11; simp [awk_see]
  rw [show List.map Node.path (List.filter (fun n => decide (n.kind = 2)) [awkA]) = [] from rfl, List.filter_cons_of_neg (by rw [this]; simp)]
  rfl
theorem rlk_nil (K : List Nat) (w : World) : RlK K w [] none 0 := ⟨⟨Nat.le_refl _, by decide, fun h => absurd rfl h, fun x hx => by cases hx⟩, fun h => absurd rfl h⟩
theorem scan_quiet0 {w0 w : World} {d n0 n m : Nat} {D E : PDisk} {K : List Nat} (hF : Fine D n0) (ht : okTree D.tree = true) (hS : SameQ D E) (hr : RunE w0 w d E n K) (hT : Tabs w0)
    (hb : BudC 0 (2 * D.tree.length + 1 + m) E n) :
    Calls Tryz.prog 14 #[.pointer (some ⟨d, 0, none⟩), .slice none 0 0] w fun e w' => ∃ tv sv bv n' E', e = .returned (.tuple #[tv, sv, bv, .int .i64 0]) ∧
      ThreeR w' tv sv bv (foundIn (seeV []) D.tree []) ((foundIn (seeV []) D.tree []).map (stampD D)) (blockIn (seeV []) D.tree ⟨#[]⟩) ∧
      RunE w0 w' d E' n' (blk3 tv sv bv ++ K) ∧ SameQ D E' ∧ BudC 0 m E' n' ∧ Kept K w w' := scan_quiet hF ht hS hr (rlk_nil K w) hT hb
set_option maxRecDepth 100000 in
set_option maxHeartbeats 8000000 in
theorem awake11_any (w : World) (hT : Tabs w) : Calls Tryz.prog 8 #[] w fun e w' => e = .returned (.bool true) ∧ Off [] w w' := by
  have HT := Lib.hid hT; clear hT
  go_enter Tryz.func8, Tryz.ntmps8
  go_wp2_with fail
  have hB0 := Blk.new w 105 #[.string ⟨#[46, 104, 97, 119, 115, 101, 114]⟩, .int .i64 2, .string ⟨#[]⟩, .int .i64 0, .string ⟨#[97]⟩, .int .i64 1, .string ⟨#[120]⟩, .int .i64 0]
  have hR0 : Row (w.alloc (.cells #[.string ⟨#[46, 104, 97, 119, 115, 101, 114]⟩, .int .i64 2, .string ⟨#[]⟩, .int .i64 0, .string ⟨#[97]⟩, .int .i64 1, .string ⟨#[120]⟩, .int .i64 0] 105)) (some ⟨w.heap.size, 0, none⟩) awk11 := row_blk hB0 (by
    intro i n h
    match i, h with
    | 0, h => cases h; exact ⟨rfl, rfl, rfl, rfl⟩
    | 1, h => cases h; exact ⟨rfl, rfl, rfl, rfl⟩
    | i + 2, h => simp [awk11] at h)
  have ho0 : Off [] w (w.alloc (.cells #[.string ⟨#[46, 104, 97, 119, 115, 101, 114]⟩, .int .i64 2, .string ⟨#[]⟩, .int .i64 0, .string ⟨#[97]⟩, .int .i64 1, .string ⟨#[120]⟩, .int .i64 0] 105)) := (Off.refl _ _).alloc _
  refine (run_new (some ⟨w.heap.size, 0, none⟩) awk11 2 2 w _ ho0 HT.out hR0 rfl (by decide) awk_ok awk_fits).mono ?_
  rintro e w1 ⟨gd, rfl, hr⟩; have hFN := newD_fine awk_ok awk_fits; have HSC := Lib.hid (scan_quiet0 (m := 0) hFN (by rw [newD_tree awk_ok]; exact awk_ok) (SameQ.refl (newD_calm _) rfl) hr.e HT.out ⟨hFN, cost_nil rfl, by rw [newD_tree awk_ok]; decide, by rw [newD_tree awk_ok]; decide⟩); clear hr hFN hB0 hR0 ho0
  go_wp2_with fail
  refine HSC.out.mono ?_
  rintro e w2 ⟨tv, sv, bv, n', E', rfl, h3, hr2, -, -, -⟩; obtain ⟨h1, h2, h4⟩ := h3; rw [newD_tree awk_ok, awk_found] at h1 h2; rw [newD_tree awk_ok, awk_block] at h4; obtain ⟨p1, c1, rfl, -, -, k1⟩ := own_atG h1; obtain ⟨p2, c2, rfl, -, -, k2⟩ := own_atG h2; obtain ⟨p3, c3, rfl, -, -, -⟩ := own_atG h4; obtain ⟨g1, rfl, -, l1, -, k1⟩ := k1 (by decide)
  obtain ⟨g2, rfl, -, l2, -, k2⟩ := k2 (by decide); have d1 : w2.cell? ⟨g1, 2, none⟩ = some (.string ⟨#[120]⟩) := k1 2 _ rfl
  have d2 : w2.cell? ⟨g2, 0, none⟩ = some (.int .i64 2) := k2 0 _ (by
    show some (Value.int .i64 (lookN (nmOf awk11 0) awkA.path : Int)) = _
    rw [show lookN (nmOf awk11 0) awkA.path = 2 by decide +kernel]
    rfl)
  have HO := Lib.hid hr2.since; clear h1 h2 h4 hr2 k1 k2 HSC
  go_wp2_with fail
  go_ret
  exact ⟨rfl, HO.out⟩
end
section
open Go.RowKit Go.Op Go.Maps
def shortV (t : List Node) (L : List RuleP) : Bool := L.all (fun r => decide (r.pattern.size ≤ 30)) && (decide ((t.map fun n => n.data.size).sum ≤ 2000) && decide (t.length ≤ 40) && decide (L.length ≤ 8))
end
section
open Go.RowKit Go.Op Go.Maps
def sumD (t : List Node) : Nat := (t.map fun n => n.data.size).sum
theorem sumD_take {t : List Node} {i : Nat} {x : Node} (h : t[i]? = some x) : sumD (t.take (i + 1)) = sumD (t.take i) + x.data.size := by
  unfold sumD; rw [take_get h, List.map_append, List.sum_append]; simp
theorem sumD_leM {t : List Node} {M : Nat} (hF : ∀ n ∈ t, n.data.size ≤ M) : ∀ i, sumD (t.take i) ≤ i * M
  | 0 => by simp [sumD]
  | i + 1 => by
    have ih := sumD_leM hF i; rw [Nat.succ_mul]
    cases h : t[i]? with
    | none =>
      have h1 := List.getElem?_eq_none_iff.1 h; rw [List.take_of_length_le h1] at ih; rw [List.take_of_length_le (Nat.le_succ_of_le h1)]; exact Nat.le_trans ih (Nat.le_add_right _ _)
    | some x =>
      have := hF x (List.mem_of_getElem? h); rw [sumD_take h]; exact Nat.add_le_add ih this
theorem sumD_le {t : List Node} (hF : Fits1 t) (i : Nat) : sumD (t.take i) ≤ i * 1048576 := sumD_leM (fun n hn => (hF n hn).2) i
theorem rules_get {w : World} {q : Option Addr} {L : List RuleP} (h : RlB w q L) {k : Nat} {x : RuleP} (hx : L[k]? = some x) : ∃ a : Addr, q = some a ∧ a.block < w.heap.size ∧ w.cell? ⟨(a.add (k * 2)).block, (a.add (k * 2)).off + 1, none⟩ = some (.string x.pattern) ∧ w.cell? (a.add (k * 2)) = some (.bool x.ignore) := by
  obtain ⟨a, e, hB, hc⟩ := h (fun e => by rw [e] at hx; simp at hx); exact ⟨a, e, hB, (hc k x hx).2, (hc k x hx).1⟩
set_option maxRecDepth 100000 in
set_option maxHeartbeats 4000000 in
theorem short_any (p q : Option Addr) (t : List Node) (L : List RuleP) (n c m d : Nat) (w : World) (hR : Row w p t) (hn : t.length = n) (hnb : n ≤ 1048576) (hF : Fits1 t) (hL : RlB w q L) (hm : L.length = m) (hmb : m ≤ 1048576) (hz : ∀ x ∈ L, x.pattern.size ≤ 1048576) :
    Calls Tryz.prog 9 #[.slice p n c, .slice q m d] w fun e w' => e = .returned (.bool (shortV t L)) ∧ Off [] w w' := by
  have HR := Lib.hid hR; have HN := Lib.hid hn; have HF := Lib.hid hF; have HL := Lib.hid hL; have HM := Lib.hid hm; have HZ := Lib.hid hz; have HV := Lib.hid (show shortV t L = (L.all (fun r => decide (r.pattern.size ≤ 30)) && (decide (sumD t ≤ 2000) && decide (t.length ≤ 40) && decide (L.length ≤ 8))) from rfl); generalize shortV t L = sv at *; clear hR hn hF hL hm hz
  go_enter Tryz.func9, Tryz.ntmps9
  go_wp2_with fail
  go_loopw [10, 5] (fun x z wr => ∃ i : Nat, x = .int .i64 i ∧ z = .int .i64 (sumD (t.take i)) ∧ i ≤ n ∧ Off [] w wr) (fun x _ _ => n - (intOf x).toNat)
  case atStart => exact ⟨0, rfl, by simp [sumD], by omega, Off.refl _ _⟩
  case round =>
    obtain ⟨i, rfl, rfl, hi, ho⟩ := hrel; have hsl := sumD_le HF.out i
    by_cases hlt : i < n
    · have hil : i < t.length := by rw [HN.out]; exact hlt
      obtain ⟨a, rfl, hna, hab⟩ := (HR.out.off ho).get i hil; have hx := List.getElem?_eq_getElem hil; have hxs := (HF.out _ (List.getElem_mem hil)).2; generalize t[i] = x at *; have c2 := hna.data; have habk : (a.add (i * 4)).block < wr.heap.size := by rw [add_block]; exact hab
      have HS := Lib.hid (sumD_take hx); have HO := Lib.hid ho; generalize sumD (t.take i) = S at *; clear hna hx ho
      go_wp2_with fail
      refine ⟨⟨i + 1, by congr 1, ?_, by omega, HO.out⟩, by simp only [intOf]; omega⟩
      rw [HS.out]; congr 1
    obtain rfl : i = n := by omega
    have HS := Lib.hid (show sumD t = sumD (t.take i) by rw [List.take_of_length_le (by rw [HN.out]; exact Nat.le_refl _)]); generalize sumD (t.take i) = S at *; have HO := Lib.hid ho; clear ho hlt
    go_wp2_with fail
    go_loopw [24] (fun x wr => ∃ k : Nat, x = .int .i64 k ∧ k ≤ m ∧ Off [] w wr ∧ Hid ((L.take k).all (fun r => decide (r.pattern.size ≤ 30)) = true)) (fun x _ => m - (intOf x).toNat)
    case atStart => exact ⟨0, rfl, by omega, HO.out, Lib.hid rfl⟩
    case round =>
      obtain ⟨k, rfl, hk, hok, HA⟩ := hrel
      by_cases hkm : k < m
      · obtain ⟨x, hx⟩ : ∃ x, L[k]? = some x := ⟨L[k]'(by rw [HM.out]; exact hkm), List.getElem?_eq_getElem _⟩
        obtain ⟨ar, rfl, hg, c1, -⟩ := rules_get (HL.out.off hok) hx; have hga : (ar.add (k * 2)).block < wr.heap.size := by rw [add_block]; exact hg
        have HX := Lib.hid hx; have HOK := Lib.hid hok; have hxm : x.pattern.size ≤ 1048576 := HZ.out x (List.mem_of_getElem? hx)
        clear hx hok
        by_cases h30 : x.pattern.size ≤ 30
        · have h30' : ¬ (30 : Int) < (x.pattern.size : Int) := by omega
          go_wp2_with fail
          refine ⟨⟨k + 1, by congr 1, by omega, HOK.out, Lib.hid ?_⟩, by simp only [intOf]; omega⟩
          rw [take_get HX.out, List.all_append, HA.out]
          simpa using h30
        have h30' : (30 : Int) < (x.pattern.size : Int) := by omega
        have HV0 := Lib.hid (show sv = false by
          rw [HV.out, Bool.and_eq_false_iff]
          left
          rw [List.all_eq_false]; exact ⟨x, List.mem_of_getElem? HX.out, by simpa using h30⟩)
        go_wp2_with fail
        go_ret
        exact ⟨by rw [HV0.out]; rfl, HOK.out⟩
      obtain rfl : k = m := by omega
      have HOK := Lib.hid hok; have HV2 := Lib.hid (show sv = (decide (S ≤ 2000) && decide (i ≤ 40) && decide (k ≤ 8)) by
        have := HA.out; rw [List.take_of_length_le (by rw [HM.out]; exact Nat.le_refl _)] at this; rw [HV.out, this, HS.out, HN.out, HM.out]
        rfl)
      clear hok HA hkm
      by_cases h1 : (S : Int) ≤ 2000
      · by_cases h2 : (i : Int) ≤ 40
        · by_cases h3 : (k : Int) ≤ 8
          · go_wp2_with fail
            go_ret
            exact ⟨by rw [HV2.out, decide_eq_true (by omega), decide_eq_true (by omega), decide_eq_true (by omega)]; rfl, HOK.out⟩
          go_wp2_with fail
          go_ret
          exact ⟨by rw [HV2.out, decide_eq_false (p := k ≤ 8) (by omega), Bool.and_false]; rfl, HOK.out⟩
        go_wp2_with fail
        go_ret
        exact ⟨by rw [HV2.out, decide_eq_false (p := i ≤ 40) (by omega), Bool.and_false, Bool.false_and]; rfl, HOK.out⟩
      go_wp2_with fail
      go_ret
      exact ⟨by rw [HV2.out, decide_eq_false (p := S ≤ 2000) (by omega), Bool.false_and, Bool.false_and]; rfl, HOK.out⟩
end
section
open Go.RowKit Go.Op Go.Maps
theorem short_v (p q : Option Addr) (t : List Node) (L : List RuleP) (n c m d : Nat) (w : World) (hR : Row w p t) (hn : t.length = n) (hnb : n ≤ 1048576) (hF : Fits1 t) (hL : RlB w q L) (hm : L.length = m) (hmb : m ≤ 1048576) (hz : ∀ x ∈ L, x.pattern.size ≤ 1048576) (v : Bool) (hv : shortV t L = v) :
    Calls Tryz.prog 9 #[.slice p n c, .slice q m d] w fun e w' => e = .returned (.bool v) ∧ Off [] w w' := hv ▸ short_any p q t L n c m d w hR hn hnb hF hL hm hmb hz
theorem rlb_nil (w : World) (q : Option Addr) : RlB w q [] := fun h => absurd rfl h
end
section
section
variable {P : Program} {ops : Array Oper} {md : Region.Mode} {Q : Exit → Act → World → Prop} {S : World → Prop} {n : Nat}
end
end
section
namespace Pl
end Pl
end
section
namespace Crc
end Crc
end
section
open Go.RowKit
structure Arc where
  pair : ByteArray
  serial : Int
  tree : List Node
  stamps : List (Int × Int × Int)
def arc0 : Arc := ⟨⟨#[]⟩, 0, [], []⟩
def digitB (b : UInt8) : Bool := (decide (48 ≤ b.toNat) && decide (b.toNat ≤ 57)) || (decide (97 ≤ b.toNat) && decide (b.toNat ≤ 102))
def digitsV (s : ByteArray) : Bool := decide (s.size = 64) && (str s).all digitB
def bareN (n : Node) : Bool := decide (n.kind = 2) || digitsV n.data
def bareV (t : List Node) : Bool := okTree t && t.all bareN
def stmOk (s : Int × Int × Int) : Bool := decide (0 ≤ s.1) && (decide (0 ≤ s.2.1) && decide (0 ≤ s.2.2))
def okArc (a : Arc) : Bool := decide (1 ≤ a.pair.size) && (decide (a.pair.size ≤ 64) && (decide (0 ≤ a.serial) && (bareV a.tree && (decide (a.stamps.length = a.tree.length) && a.stamps.all stmOk))))
end
section
open Go.RowKit Go.Op
structure StmAt (w : World) (a : Addr) (s : Int × Int × Int) : Prop where
  i0 : w.cell? a = some (.int .i64 s.1)
  i1 : w.cell? ⟨a.block, a.off + 1, none⟩ = some (.int .i64 s.2.1)
  i2 : w.cell? ⟨a.block, a.off + 2, none⟩ = some (.int .i64 s.2.2)
def SRow3 (w : World) (p : Option Addr) (t : List (Int × Int × Int)) : Prop :=
  t ≠ [] → ∃ a, p = some a ∧ a.block < w.heap.size ∧ ∀ (i : Nat) n, t[i]? = some n → StmAt w (a.add (i * 3)) n
theorem StmAt.off {w w' : World} {a : Addr} {n : Int × Int × Int} (h : StmAt w a n) (ho : Off [] w w') (hb : a.block < w.heap.size) : StmAt w' a n :=
  ⟨(ho.cell hb (by simp)).trans h.i0, (ho.cell (p := ⟨a.block, a.off + 1, none⟩) hb (by simp)).trans h.i1, (ho.cell (p := ⟨a.block, a.off + 2, none⟩) hb (by simp)).trans h.i2⟩
theorem SRow3.off {w w' : World} {p : Option Addr} {t : List (Int × Int × Int)} (h : SRow3 w p t) (ho : Off [] w w') : SRow3 w' p t := fun hne => by
  obtain ⟨a, rfl, hb, hn⟩ := h hne; exact ⟨a, rfl, Nat.lt_of_lt_of_le hb ho.size, fun i n hi => (hn i n hi).off ho (by rw [add_block]; exact hb)⟩
theorem SRow3.get {w : World} {p : Option Addr} {t : List (Int × Int × Int)} (h : SRow3 w p t) (i : Nat) (hi : i < t.length) : ∃ a, p = some a ∧ StmAt w (a.add (i * 3)) t[i] ∧ a.block < w.heap.size := by
  obtain ⟨a, rfl, hb, hn⟩ := h (by intro e; subst e; simp at hi); exact ⟨a, rfl, hn i _ (List.getElem?_eq_getElem hi), hb⟩
structure ArcAt (w : World) (v : Value) (a : Arc) : Prop where
  ex : ∃ tp c sp d, v = .agg #[.string a.pair, .int .i64 a.serial, .slice tp a.tree.length c, .slice sp a.stamps.length d] ∧ Row w tp a.tree ∧ SRow3 w sp a.stamps ∧ a.tree.length ≤ c ∧ c ≤ maxLen ∧ a.stamps.length ≤ d ∧ d ≤ maxLen ∧ (tp = none → a.tree = [] ∧ c = 0)
  fits : Fits a.tree
  len : a.tree.length ≤ 10000000000000 ∧ a.stamps.length ≤ 10000000000000
  ps : a.pair.size ≤ maxLen
  ser : -9223372036854775808 ≤ a.serial ∧ a.serial ≤ 9223372036854775807
  st : ∀ s ∈ a.stamps, (-9223372036854775808 ≤ s.1 ∧ s.1 ≤ 9223372036854775807) ∧ (-9223372036854775808 ≤ s.2.1 ∧ s.2.1 ≤ 9223372036854775807) ∧ (-9223372036854775808 ≤ s.2.2 ∧ s.2.2 ≤ 9223372036854775807)
theorem ArcAt.off {w w' : World} {v : Value} {a : Arc} (h : ArcAt w v a) (ho : Off [] w w') : ArcAt w' v a := by
  obtain ⟨⟨tp, c, sp, d, h1, h2, h3, h4⟩, h5, h6, h7, h8, h9⟩ := h; exact ⟨⟨tp, c, sp, d, h1, h2.off ho, h3.off ho, h4⟩, h5, h6, h7, h8, h9⟩
end
section
open Go.RowKit Go.Op
theorem infoU8 : (Tryz.prog.info? 5).map (fun i => (i.zero, i.size, i.bytes)) = some (some (.int .u8 0), 1, 1) := by kernel_rfl
end
section
open Go.RowKit Go.Op
def hexS : ByteArray := ⟨#[48, 49, 50, 51, 52, 53, 54, 55, 56, 57, 97, 98, 99, 100, 101, 102]⟩
theorem hexS_has : ∀ b : UInt8, hexS.data.toList.contains b = digitB b := by
  have h : ∀ i : Fin 256, hexS.data.toList.contains (UInt8.ofNat i.val) = digitB (UInt8.ofNat i.val) := by decide +kernel
  intro b
  have := h ⟨b.toNat, b.toNat_lt⟩
  simpa using this
theorem dropWhile_nil {α : Type} (p : α → Bool) : ∀ l : List α, l.dropWhile p = [] ↔ l.all p = true
  | [] => by simp
  | x :: l => by
    by_cases h : p x = true
    · simp [h, dropWhile_nil p l]
    simp [h]
theorem trimS_nil (l cs : List UInt8) : Lib.trimS l cs = [] ↔ l.all (cs.contains ·) = true := by
  unfold Lib.trimS Lib.trimLeftS Lib.trimRightS; rw [dropWhile_nil]
  constructor
  · intro h
    have hd : ∀ (l : List UInt8), (∀ x ∈ (l.dropWhile (cs.contains ·)), cs.contains x = true) → ∀ x ∈ l, cs.contains x = true := fun l => by
      induction l with
      | nil => intro _ x hx; cases hx
      | cons y l ih =>
        intro hx x hm
        by_cases hy : cs.contains y = true
        · rw [List.dropWhile_cons, if_pos hy] at hx
          rcases List.mem_cons.1 hm with rfl | hm
          · exact hy
          exact ih hx x hm
        rw [List.dropWhile_cons, if_neg hy] at hx; exact hx x hm
    rw [List.all_eq_true] at h ⊢
    intro x hx
    exact hd l.reverse (fun y hy => h y (by simpa using hy)) x (by simpa using hx)
  intro h
  have : l.reverse.dropWhile (cs.contains ·) = [] := (dropWhile_nil _ _).2 (by rw [List.all_reverse]; exact h)
  rw [this]
  rfl
theorem trim_hex (s : ByteArray) (w : World) (hs : s.size ≤ maxLen) :
    Calls Tryz.prog 183 #[.string s, .string hexS] w fun e w' => ∃ r : ByteArray, e = .returned (.string r) ∧ (r.toList = [] ↔ (str s).all digitB = true) ∧ Off [] w w' := by
  refine (Any.strings_Trim_laid Tryz.lays160 (by kernel_rfl) s hexS w (by unfold maxLen at hs; omega) (by decide) (ascii_of_all (by decide))).mono ?_
  rintro e w' ⟨rfl, hb⟩; refine ⟨_, rfl, ?_, Off.of_below hb⟩; rw [ByteArray.toList_eq]
  show (Lib.trimS s.data.toList hexS.data.toList).toArray.toList = [] ↔ _
  rw [List.toList_toArray, trimS_nil]; have : (fun x => hexS.data.toList.contains x) = digitB := funext hexS_has
  rw [this]
  rfl
set_option maxRecDepth 100000 in
theorem adigits_any (s : ByteArray) (w : World) (hs : s.size ≤ maxLen) :
    Calls Tryz.prog 231 #[.string s] w fun e w' => e = .returned (.bool (digitsV s)) ∧ Off [] w w' := by
  unfold digitsV; have HT := Lib.hid (trim_hex s w hs); unfold hexS at HT
  by_cases h64 : s.size = 64
  · have hq : ((s.size : Int) == 64) = true := by rw [h64]; rfl
    have HE := Lib.hid h64; clear h64 hs
    go_enter Tryz.func231, Tryz.ntmps231
    go_wp2_with fail
    refine HT.out.mono ?_
    rintro e w1 ⟨r, rfl, hr, ho⟩
    cases hd : (str s).all digitB
    · have hrn : r.toList.isEmpty = false := by
        cases hl : r.toList with
        | nil => rw [hr.1 hl] at hd; cases hd
        | cons x l => rfl
      have HD := Lib.hid hd; clear hd hr
      go_wp2_with fail
      go_ret
      exact ⟨by rw [HE.out, HD.out]; rfl, ho⟩
    have hrn : r.toList.isEmpty = true := by rw [hr.2 hd]; rfl
    have HD := Lib.hid hd; clear hd hr
    go_wp2_with fail
    go_ret
    exact ⟨by rw [HE.out, HD.out]; rfl, ho⟩
  have hq : ((s.size : Int) == 64) = false := beq_eq_false_iff_ne.2 (by omega)
  have HE := Lib.hid h64; clear h64 hs
  go_enter Tryz.func231, Tryz.ntmps231
  go_wp2_with fail
  go_ret
  exact ⟨by rw [decide_eq_false HE.out]; rfl, Off.refl _ _⟩
set_option maxRecDepth 100000 in
theorem oddN_any (n : Node) (w : World) (hs : n.data.size ≤ maxLen) (b : Bool) (hb : (!bareN n) = b) :
    Calls Tryz.prog 230 #[.agg #[.string n.path, .int .i64 n.kind, .string n.data, .int .i64 n.mode]] w fun e w' => e = .returned (.bool b) ∧ Off [] w w' := by
  unfold bareN at hb
  by_cases hk : n.kind = 2
  · have hq : (n.kind == 2) = true := by rw [hk]; rfl
    have hbb : b = false := by rw [← hb, hk]; rfl
    subst hbb; clear hb
    go_enter Tryz.func230, Tryz.ntmps230
    go_wp2_with fail
    go_ret
    exact ⟨rfl, (Off.refl _ _).alloc _⟩
  have hq : (n.kind == 2) = false := beq_eq_false_iff_ne.2 hk
  have hq2 : (n.kind != 2) = true := by rw [bne, hq]; rfl
  have hbb : b = !digitsV n.data := by rw [← hb, decide_eq_false hk]; rfl
  have HC := Lib.hid (fun (W : World) => adigits_any n.data W hs)
  cases hd : digitsV n.data
  all_goals
    rw [hd] at HC hbb; subst hbb; clear hb hd
    go_enter Tryz.func230, Tryz.ntmps230
    go_wp2_with fail
    refine (HC.out _).mono ?_
    rintro e w1 ⟨rfl, ho⟩; have HO := Lib.hid (show Off [] w w1 from ((Off.refl _ _).alloc _).trans_nil ho); clear ho
    go_wp2_with fail
    go_ret
    exact ⟨rfl, HO.out⟩
set_option maxRecDepth 100000 in
set_option maxHeartbeats 4000000 in
theorem ixN_any (tp : Option Addr) (t : List Node) (n c : Nat) (w : World) (hR : Row w tp t) (hn : t.length = n) (hb : n ≤ 10000000000000) (hF : ∀ x ∈ t, x.data.size ≤ maxLen) :
    Calls Tryz.prog 265 #[.slice tp n c, .func (.func 230) #[] #[]] w fun e w' => ∃ v : Int, e = .returned (.int .i64 v) ∧ (0 ≤ v ↔ t.all bareN = false) ∧ Off [] w w' := by
  have HN := Lib.hid hn; have HR := Lib.hid hR; have HF := Lib.hid (hF); clear hn hR hF
  go_enter Tryz.func265, Tryz.ntmps265
  go_wp2_with fail
  go_loopw [5, 8] (fun _ y wr => ∃ i : Nat, y = .int .i64 i ∧ i ≤ n ∧ Off [] w wr ∧ Hid (∀ (j : Nat) x, j < i → t[j]? = some x → bareN x = true)) (fun _ y _ => n - (intOf y).toNat)
  case atStart => exact ⟨0, rfl, by omega, Off.refl _ _, Lib.hid (fun j f h => absurd h (Nat.not_lt_zero _))⟩
  case round =>
    obtain ⟨i, rfl, hi, ho, HLOW⟩ := hrel
    by_cases hlt : i < n
    · have hil : i < t.length := by rw [HN.out]; exact hlt
      have hx := List.getElem?_eq_getElem hil; obtain ⟨a, rfl, hat, hab⟩ := (HR.out.off ho).get i hil; have HX := Lib.hid hx; have HM := Lib.hid (List.getElem_mem hil); generalize t[i] = x at hat HX HM; have c0 := hat.path; have c1 := hat.kind; have c2 := hat.data; have c3 := hat.mode; have HC := Lib.hid (fun (b : Bool) (hb : (!bareN x) = b) => oddN_any x wr (HF.out x HM.out) b hb)
      clear hat hx hil
      cases hd : bareN x
      · have HC2 := Lib.hid (HC.out true (by rw [hd]; rfl))
        have HD := Lib.hid hd; clear HC hd
        go_wp2_with fail
        refine HC2.out.mono ?_
        rintro e w2 ⟨rfl, ho2⟩; have ho := ho.trans_nil ho2; clear ho2 HC2
        go_wp2_with fail
        go_ret
        refine ⟨i, rfl, ⟨fun _ => ?_, fun _ => by omega⟩, ho⟩
        rw [List.all_eq_false]; exact ⟨x, List.mem_of_getElem? HX.out, by rw [HD.out]; decide⟩
      have HC2 := Lib.hid (HC.out false (by rw [hd]; rfl)); have HD := Lib.hid hd; clear HC hd
      go_wp2_with fail
      refine HC2.out.mono ?_
      rintro e w2 ⟨rfl, ho2⟩; have ho := ho.trans_nil ho2; clear ho2 HC2; clear c0 c1 c2 c3
      go_wp2_with fail
      refine ⟨⟨i + 1, by congr 1, by omega, ho, Lib.hid (fun j y hj hy => ?_)⟩, by simp only [intOf]; omega⟩
      rcases Nat.lt_or_ge j i with h | h
      · exact HLOW.out j y h hy
      obtain rfl : j = i := by omega
      rw [HX.out] at hy
      cases hy
      exact HD.out
    obtain rfl : i = n := by omega
    have HE := Lib.hid (show t.all bareN = true from List.all_eq_true.2 fun x hx => by
      obtain ⟨j, hj, rfl⟩ := List.getElem_of_mem hx; exact HLOW.out j _ (by rw [← HN.out]; exact hj) (List.getElem?_eq_getElem hj))
    go_wp2_with fail
    go_ret
    exact ⟨-1, rfl, ⟨fun h => absurd h (by decide), fun h => by rw [HE.out] at h; cases h⟩, ho⟩
set_option maxRecDepth 100000 in
theorem hasN_any (tp : Option Addr) (t : List Node) (n c : Nat) (w : World) (hR : Row w tp t) (hn : t.length = n) (hb : n ≤ 10000000000000) (hF : ∀ x ∈ t, x.data.size ≤ maxLen) (b : Bool) (hbb : (!t.all bareN) = b) :
    Calls Tryz.prog 184 #[.slice tp n c, .func (.func 230) #[] #[]] w fun e w' => e = .returned (.bool b) ∧ Off [] w w' := by
  have HC := Lib.hid (ixN_any tp t n c w hR hn hb hF); clear hR hn hF
  go_enter Tryz.func184, Tryz.ntmps184
  go_wp2_with fail
  refine HC.out.mono ?_
  rintro e w1 ⟨v, rfl, hv, ho⟩; have hd : decide (0 ≤ v) = b := by
    rw [← hbb]
    cases ha : t.all bareN
    · exact decide_eq_true (hv.2 ha)
    exact decide_eq_false (fun h => by have := hv.1 h; rw [ha] at this; cases this)
  have HD := Lib.hid hd; clear hv hbb
  go_wp2_with fail
  go_ret
  exact ⟨by first | rfl | rw [← HD.out] | (rw [← HD.out]; rfl), ho⟩
set_option maxRecDepth 100000 in
theorem oddS_any (s : Int × Int × Int) (w : World) (b : Bool) (hb : (!stmOk s) = b) :
    Calls Tryz.prog 157 #[.agg #[.int .i64 s.1, .int .i64 s.2.1, .int .i64 s.2.2]] w fun e w' => e = .returned (.bool b) ∧ Off [] w w' := by
  obtain ⟨x, y, z⟩ := s; unfold stmOk at hb; dsimp only at hb ⊢
  by_cases hx : 0 ≤ x
  · have gx : ¬ x < 0 := by omega
    by_cases hy : 0 ≤ y
    · have gy : ¬ y < 0 := by omega
      by_cases hz : 0 ≤ z
      · have gz : ¬ z < 0 := by omega
        have hbb : b = false := by rw [← hb]; simp [hx, hy, hz]
        subst hbb; clear hb
        go_enter Tryz.func157, Tryz.ntmps157
        go_wp2_with fail
        go_ret
        exact ⟨rfl, (Off.refl _ _).alloc _⟩
      have gz : z < 0 := by omega
      have hbb : b = true := by rw [← hb]; simp [hx, hy, hz]
      subst hbb; clear hb
      go_enter Tryz.func157, Tryz.ntmps157
      go_wp2_with fail
      go_ret
      exact ⟨rfl, (Off.refl _ _).alloc _⟩
    have gy : y < 0 := by omega
    have hbb : b = true := by rw [← hb]; simp [hx, hy]
    subst hbb; clear hb
    go_enter Tryz.func157, Tryz.ntmps157
    go_wp2_with fail
    go_ret
    exact ⟨rfl, (Off.refl _ _).alloc _⟩
  have gx : x < 0 := by omega
  have hbb : b = true := by rw [← hb]; simp [hx]
  subst hbb; clear hb
  go_enter Tryz.func157, Tryz.ntmps157
  go_wp2_with fail
  go_ret
  exact ⟨rfl, (Off.refl _ _).alloc _⟩
set_option maxRecDepth 100000 in
set_option maxHeartbeats 4000000 in
theorem ixS_any (tp : Option Addr) (t : List (Int × Int × Int)) (n c : Nat) (w : World) (hR : SRow3 w tp t) (hn : t.length = n) (hb : n ≤ 10000000000000) :
    Calls Tryz.prog 232 #[.slice tp n c, .func (.func 157) #[] #[]] w fun e w' => ∃ v : Int, e = .returned (.int .i64 v) ∧ (0 ≤ v ↔ t.all stmOk = false) ∧ Off [] w w' := by
  have HN := Lib.hid hn; have HR := Lib.hid hR; have HF := Lib.hid (trivial); clear hn hR
  go_enter Tryz.func232, Tryz.ntmps232
  go_wp2_with fail
  go_loopw [5, 8] (fun _ y wr => ∃ i : Nat, y = .int .i64 i ∧ i ≤ n ∧ Off [] w wr ∧ Hid (∀ (j : Nat) x, j < i → t[j]? = some x → stmOk x = true)) (fun _ y _ => n - (intOf y).toNat)
  case atStart => exact ⟨0, rfl, by omega, Off.refl _ _, Lib.hid (fun j f h => absurd h (Nat.not_lt_zero _))⟩
  case round =>
    obtain ⟨i, rfl, hi, ho, HLOW⟩ := hrel
    by_cases hlt : i < n
    · have hil : i < t.length := by rw [HN.out]; exact hlt
      have hx := List.getElem?_eq_getElem hil; obtain ⟨a, rfl, hat, hab⟩ := (HR.out.off ho).get i hil; have HX := Lib.hid hx; have HM := Lib.hid (List.getElem_mem hil); generalize t[i] = x at hat HX HM; have c0 := hat.i0; have c1 := hat.i1; have c2 := hat.i2; have HC := Lib.hid (fun (b : Bool) (hb : (!stmOk x) = b) => oddS_any x wr b hb); clear hat hx hil
      cases hd : stmOk x
      · have HC2 := Lib.hid (HC.out true (by rw [hd]; rfl))
        have HD := Lib.hid hd; clear HC hd
        go_wp2_with fail
        refine HC2.out.mono ?_
        rintro e w2 ⟨rfl, ho2⟩; have ho := ho.trans_nil ho2; clear ho2 HC2
        go_wp2_with fail
        go_ret
        refine ⟨i, rfl, ⟨fun _ => ?_, fun _ => by omega⟩, ho⟩
        rw [List.all_eq_false]; exact ⟨x, List.mem_of_getElem? HX.out, by rw [HD.out]; decide⟩
      have HC2 := Lib.hid (HC.out false (by rw [hd]; rfl)); have HD := Lib.hid hd; clear HC hd
      go_wp2_with fail
      refine HC2.out.mono ?_
      rintro e w2 ⟨rfl, ho2⟩; have ho := ho.trans_nil ho2; clear ho2 HC2; clear c0 c1 c2
      go_wp2_with fail
      refine ⟨⟨i + 1, by congr 1, by omega, ho, Lib.hid (fun j y hj hy => ?_)⟩, by simp only [intOf]; omega⟩
      rcases Nat.lt_or_ge j i with h | h
      · exact HLOW.out j y h hy
      obtain rfl : j = i := by omega
      rw [HX.out] at hy
      cases hy
      exact HD.out
    obtain rfl : i = n := by omega
    have HE := Lib.hid (show t.all stmOk = true from List.all_eq_true.2 fun x hx => by
      obtain ⟨j, hj, rfl⟩ := List.getElem_of_mem hx; exact HLOW.out j _ (by rw [← HN.out]; exact hj) (List.getElem?_eq_getElem hj))
    go_wp2_with fail
    go_ret
    exact ⟨-1, rfl, ⟨fun h => absurd h (by decide), fun h => by rw [HE.out] at h; cases h⟩, ho⟩
set_option maxRecDepth 100000 in
theorem hasS_any (tp : Option Addr) (t : List (Int × Int × Int)) (n c : Nat) (w : World) (hR : SRow3 w tp t) (hn : t.length = n) (hb : n ≤ 10000000000000) (b : Bool) (hbb : (!t.all stmOk) = b) :
    Calls Tryz.prog 159 #[.slice tp n c, .func (.func 157) #[] #[]] w fun e w' => e = .returned (.bool b) ∧ Off [] w w' := by
  have HC := Lib.hid (ixS_any tp t n c w hR hn hb); clear hR hn
  go_enter Tryz.func159, Tryz.ntmps159
  go_wp2_with fail
  refine HC.out.mono ?_
  rintro e w1 ⟨v, rfl, hv, ho⟩; have hd : decide (0 ≤ v) = b := by
    rw [← hbb]
    cases ha : t.all stmOk
    · exact decide_eq_true (hv.2 ha)
    exact decide_eq_false (fun h => by have := hv.1 h; rw [ha] at this; cases this)
  have HD := Lib.hid hd; clear hv hbb
  go_wp2_with fail
  go_ret
  exact ⟨by first | rfl | rw [← HD.out] | (rw [← HD.out]; rfl), ho⟩
set_option maxRecDepth 100000 in
theorem isbare_any (tp : Option Addr) (t : List Node) (n c : Nat) (w : World) (hR : Row w tp t) (hn : t.length = n) (hcap : n ≤ c) (hb : n ≤ 10000000000000) (hF : Fits t) (hT : Tabs w) (b : Bool) (hbb : bareV t = b) :
    Calls Tryz.prog 158 #[.slice tp n c] w fun e w' => e = .returned (.bool b) ∧ Off [] w w' := by
  have HC := Lib.hid (check_any tp t n c w hR hn hcap (by unfold maxLen; omega) hF hT); have HH := Lib.hid (fun (W : World) (ho : Off [] w W) (v : Bool) (hv : (!t.all bareN) = v) => hasN_any tp t n c W (hR.off ho) hn hb (fun x hx => (hF x hx).2) v hv); unfold bareV at hbb; unfold chkV at HC; clear hR hn hcap hF hT
  cases hok : okTree t
  · rw [hok] at hbb
    rw [hok] at HC; have hbf : b = false := by rw [← hbb]; rfl
    subst hbf; clear hbb hok
    go_enter Tryz.func158, Tryz.ntmps158
    go_wp2_with fail
    refine HC.out.mono ?_
    rintro e w1 ⟨rfl, ho⟩
    go_wp2_with fail
    go_ret
    exact ⟨rfl, ho⟩
  rw [hok] at hbb; rw [hok] at HC; have hbf : b = t.all bareN := by rw [← hbb]; rfl
  subst hbf; clear hbb hok
  cases ha : t.all bareN
  all_goals
    go_enter Tryz.func158, Tryz.ntmps158
    go_wp2_with fail
    refine HC.out.mono ?_
    rintro e w1 ⟨rfl, ho⟩; have HO := Lib.hid ho; have H1 := Lib.hid (HH.out w1 ho _ (by rw [ha])); clear ho
    go_wp2_with fail
    refine H1.out.mono ?_
    rintro e w2 ⟨rfl, ho2⟩; have HO2 := Lib.hid (HO.out.trans_nil ho2); clear ho2
    go_wp2_with fail
    go_ret
    exact ⟨rfl, HO2.out⟩
end
section
open Go.RowKit Go.Op
theorem isEmpty_iff (t : ByteArray) : t.toList.isEmpty = decide (t.size = 0) := by
  rw [← decide_eq_emptyBytes]; refine decide_eq_decide.2 ⟨fun h => by rw [h]; rfl, fun h => ?_⟩
  apply ByteArray.ext
  exact Array.eq_empty_of_size_eq_zero h
def chkA (a : Arc) : Int := if okArc a then 0 else 90
set_option maxRecDepth 100000 in
set_option maxHeartbeats 4000000 in
theorem acheck_any (v : Value) (a : Arc) (w : World) (hA : ArcAt w v a) (hT : Tabs w) (r : Int) (hr : chkA a = r) :
    Calls Tryz.prog 76 #[v] w fun e w' => e = .returned (.int .i64 r) ∧ Off [] w w' := by
  obtain ⟨⟨tp, c, sp, d, rfl, hR, hS, hc, hcm, hd, hdm, _⟩, hF, hlen, hps, hser, _⟩ := hA; unfold chkA okArc at hr; obtain ⟨n, hn⟩ : ∃ n, a.tree.length = n := ⟨_, rfl⟩
  obtain ⟨m, hm⟩ : ∃ m, a.stamps.length = m := ⟨_, rfl⟩
  have HB := Lib.hid (fun (W : World) (ho : Off [] w W) (b : Bool) (hb : bareV a.tree = b) => isbare_any tp a.tree n c W (hR.off ho) hn (by omega) (by omega) hF (hT.off ho) b hb); have HS := Lib.hid (fun (W : World) (ho : Off [] w W) (b : Bool) (hb : (!a.stamps.all stmOk) = b) => hasS_any sp a.stamps m d W (hS.off ho) hm (by omega) b hb); have he := isEmpty_iff a.pair; rw [hn, hm] at hr ⊢
  obtain ⟨pr, hpr⟩ : ∃ pr, a.pair = pr := ⟨_, rfl⟩
  obtain ⟨sr, hsr⟩ : ∃ sr, a.serial = sr := ⟨_, rfl⟩
  obtain ⟨bv, hbv⟩ : ∃ bv, bareV a.tree = bv := ⟨_, rfl⟩
  obtain ⟨sv, hsv⟩ : ∃ sv, a.stamps.all stmOk = sv := ⟨_, rfl⟩
  rw [hbv, hsv] at hr; have HB := Lib.hid (fun W ho => HB.out W ho bv hbv); have HS := Lib.hid (fun W ho => HS.out W ho (!sv) (by rw [hsv])); rw [hpr, hsr] at hr ⊢; rw [hpr] at he hps; rw [hsr] at hser; clear hpr hsr hbv hsv hR hS hF hT hn hm hc hd hcm hdm hlen
  by_cases h1 : pr.size = 0
  · rw [decide_eq_true h1] at he
    rw [decide_eq_false (show ¬ 1 ≤ pr.size by omega)] at hr; have hr : (90 : Int) = r := hr
    clear h1; subst hr
    go_enter Tryz.func76, Tryz.ntmps76
    go_wp2_with fail
    go_ret
    exact ⟨rfl, (Off.refl _ _).alloc _⟩
  rw [decide_eq_false h1] at he; rw [decide_eq_true (show 1 ≤ pr.size by omega)] at hr
  by_cases h2 : 64 < pr.size
  · have g2 : (64 : Int) < pr.size := by omega
    rw [decide_eq_false (show ¬ pr.size ≤ 64 by omega)] at hr; have hr : (90 : Int) = r := hr
    clear h1 h2; subst hr
    go_enter Tryz.func76, Tryz.ntmps76
    go_wp2_with fail
    go_ret
    exact ⟨rfl, (Off.refl _ _).alloc _⟩
  have g2 : ¬ (64 : Int) < pr.size := by omega
  rw [decide_eq_true (show pr.size ≤ 64 by omega)] at hr; clear h1 h2
  by_cases h3 : sr < 0
  · rw [decide_eq_false (show ¬ 0 ≤ sr by omega)] at hr
    have hr : (90 : Int) = r := hr
    subst hr
    go_enter Tryz.func76, Tryz.ntmps76
    go_wp2_with fail
    go_ret
    exact ⟨rfl, (Off.refl _ _).alloc _⟩
  rw [decide_eq_true (show 0 ≤ sr by omega)] at hr
  cases bv
  · have hr : (90 : Int) = r := hr
    subst hr
    go_enter Tryz.func76, Tryz.ntmps76
    go_wp2_with fail
    have HO := Lib.hid ((Off.refl [] w).alloc (.cells #[.string pr, .int .i64 sr, .slice tp n c, .slice sp m d] 30)); refine (HB.out _ HO.out).mono ?_; rintro e w1 ⟨rfl, ho1⟩; have HB0 := Lib.hid ((Blk.new w 30 #[.string pr, .int .i64 sr, .slice tp n c, .slice sp m d]).off ho1 (by simp)); have hc1 := HB0.out.cell; have hl1 := HB0.out.lt; have HO1 := Lib.hid (HO.out.trans_nil ho1); clear ho1
    go_wp2_with fail
    go_ret
    exact ⟨rfl, HO1.out⟩
  by_cases h5 : ¬ m = n
  · have g5 : ((m : Int) == (n : Int)) = false := beq_eq_false_iff_ne.2 (by omega)
    have g6 : ((m : Int) != (n : Int)) = true := by rw [bne, g5]; rfl
    have g7 : ¬ (m : Int) = (n : Int) := by omega
    rw [decide_eq_false h5] at hr; have hr : (90 : Int) = r := hr
    clear h5; subst hr
    go_enter Tryz.func76, Tryz.ntmps76
    go_wp2_with fail
    have HO := Lib.hid ((Off.refl [] w).alloc (.cells #[.string pr, .int .i64 sr, .slice tp n c, .slice sp m d] 30)); refine (HB.out _ HO.out).mono ?_; rintro e w1 ⟨rfl, ho1⟩; have HB0 := Lib.hid ((Blk.new w 30 #[.string pr, .int .i64 sr, .slice tp n c, .slice sp m d]).off ho1 (by simp)); have hc1 := HB0.out.cell; have hl1 := HB0.out.lt; have HO1 := Lib.hid (HO.out.trans_nil ho1); clear ho1
    go_wp2_with fail
    go_ret
    exact ⟨rfl, HO1.out⟩
  have h5 : m = n := by omega
  have g5 : ((m : Int) == (n : Int)) = true := by rw [h5]; exact beq_self_eq_true _
  have g6 : ((m : Int) != (n : Int)) = false := by rw [bne, g5]; rfl
  rw [decide_eq_true h5] at hr; clear h5
  cases sv
  · have hr : (90 : Int) = r := hr
    subst hr
    go_enter Tryz.func76, Tryz.ntmps76
    go_wp2_with fail
    have HO := Lib.hid ((Off.refl [] w).alloc (.cells #[.string pr, .int .i64 sr, .slice tp n c, .slice sp m d] 30)); refine (HB.out _ HO.out).mono ?_; rintro e w1 ⟨rfl, ho1⟩; have HB0 := Lib.hid ((Blk.new w 30 #[.string pr, .int .i64 sr, .slice tp n c, .slice sp m d]).off ho1 (by simp)); have hc1 := HB0.out.cell; have hl1 := HB0.out.lt; have HO1 := Lib.hid (HO.out.trans_nil ho1); clear ho1
    go_wp2_with fail
    refine (HS.out _ HO1.out).mono ?_
    rintro e w2 ⟨rfl, ho2⟩; have HO2 := Lib.hid (HO1.out.trans_nil ho2); clear ho2
    go_wp2_with fail
    go_ret
    exact ⟨rfl, HO2.out⟩
  have hr : (0 : Int) = r := hr
  subst hr
  go_enter Tryz.func76, Tryz.ntmps76
  go_wp2_with fail
  have HO := Lib.hid ((Off.refl [] w).alloc (.cells #[.string pr, .int .i64 sr, .slice tp n c, .slice sp m d] 30)); refine (HB.out _ HO.out).mono ?_; rintro e w1 ⟨rfl, ho1⟩; have HB0 := Lib.hid ((Blk.new w 30 #[.string pr, .int .i64 sr, .slice tp n c, .slice sp m d]).off ho1 (by simp)); have hc1 := HB0.out.cell; have hl1 := HB0.out.lt; have HO1 := Lib.hid (HO.out.trans_nil ho1); clear ho1
  go_wp2_with fail
  refine (HS.out _ HO1.out).mono ?_
  rintro e w2 ⟨rfl, ho2⟩; have HO2 := Lib.hid (HO1.out.trans_nil ho2); clear ho2
  go_wp2_with fail
  go_ret
  exact ⟨rfl, HO2.out⟩
end
section
open Go.RowKit Go.Op
end
section
open Go.RowKit Go.Op
end
section
open Go.RowKit Go.Op
theorem eqStm (x y : Int × Int × Int) (w : World) : (Op.equalIn 10000 117 (.agg #[.int .i64 x.1, .int .i64 x.2.1, .int .i64 x.2.2]) (.agg #[.int .i64 y.1, .int .i64 y.2.1, .int .i64 y.2.2])).run Tryz.prog w = .ok (decide (x = y)) w := by
  have u3 := Tryz.underlying3; have a3 := Tryz.isAgg3; have z3 := Tryz.sizeOf3; have hS : Tryz.prog.underlying 117 = some (.struct (Tryz.prog.fieldsOf 117)) := by kernel_rfl
  have hp : Tryz.prog.stoodInHeld 117 = false := by kernel_rfl
  rw [show (10000 : Nat) = 9999 + 1 from rfl, run_equalIn_agg w 9999 117 _ _ hS hp]; simp only [Program.fieldsOf, Tryz.underlying117]
  go_simp
  obtain ⟨x1, x2, x3⟩ := x; obtain ⟨y1, y2, y3⟩ := y
  by_cases h1 : x1 = y1 <;> by_cases h2 : x2 = y2 <;> by_cases h3 : x3 = y3 <;> simp [h1, h2, h3]
set_option maxRecDepth 100000 in
set_option maxHeartbeats 4000000 in
theorem rsamest_any (L M : List (Int × Int × Int)) (p q : Option Addr) (c d : Nat) (w : World) (hL : L.length ≤ 10000000000000) (hM : M.length ≤ 10000000000000) (hp : SRow3 w p L) (hq : SRow3 w q M) :
    Calls Tryz.prog 22 #[.slice p L.length c, .slice q M.length d] w fun e w' => e = .returned (.bool (decide (L = M))) ∧ Off [] w w' := by
  obtain ⟨l, hl⟩ : ∃ l, L.length = l := ⟨_, rfl⟩
  obtain ⟨m, hm⟩ : ∃ m, M.length = m := ⟨_, rfl⟩
  rw [hl, hm]; rw [hl] at hL; rw [hm] at hM; have HP := Lib.hid hp; have HQ := Lib.hid hq; have HL := Lib.hid hl; have HM := Lib.hid hm; clear hp hq hl hm
  by_cases hlm : l = m
  · subst hlm
    go_enter Tryz.func22, Tryz.ntmps22
    go_wp2_with fail
    go_loopw [5] (fun x wr => ∃ i : Nat, x = .int .i64 i ∧ i ≤ l ∧ Off [] w wr ∧ Hid (L.take i = M.take i)) (fun x _ => l - (intOf x).toNat)
    case atStart => exact ⟨0, rfl, by omega, Off.refl _ _, Lib.hid rfl⟩
    case round =>
      obtain ⟨i, rfl, hi, ho, htk⟩ := hrel
      by_cases hlt : i < l
      · have hi1 := List.getElem?_eq_getElem (show i < L.length by rw [HL.out]; exact hlt)
        have hi2 := List.getElem?_eq_getElem (show i < M.length by rw [HM.out]; exact hlt); obtain ⟨a, rfl, hna, hab⟩ := (HP.out.off ho).get i (show i < L.length by rw [HL.out]; exact hlt); obtain ⟨b, rfl, hnb, hbb⟩ := (HQ.out.off ho).get i (show i < M.length by rw [HM.out]; exact hlt); generalize L[i]'(by rw [HL.out]; exact hlt) = x at *
        generalize M[i]'(by rw [HM.out]; exact hlt) = y at *
        have c0 := hna.i0; have c1 := hna.i1; have c2 := hna.i2; have d0 := hnb.i0; have d1 := hnb.i1; have d2 := hnb.i2; have heq := eqStm x y; have hgd : Tryz.prog.eqGuardType Tryz.prog.depth 117 = false := by kernel_rfl
        have HI1 := Lib.hid hi1; have HI2 := Lib.hid hi2; have habk : (a.add (i * 3)).block < wr.heap.size := by rw [add_block]; exact hab
        have hbbk : (b.add (i * 3)).block < wr.heap.size := by rw [add_block]; exact hbb
        clear hna hnb hi1 hi2
        by_cases hxy : x = y
        · have hd : decide (x = y) = true := decide_eq_true hxy
          have HXY := Lib.hid hxy; rw [hd] at heq; clear hxy hd
          go_wp2_with fail
          go_quiet (fail)
          go_wp2_with fail
          refine ⟨⟨i + 1, by congr 1, by omega, ho.drewN _, Lib.hid ?_⟩, by simp only [intOf]; omega⟩
          rw [take_get HI1.out, take_get HI2.out, htk.out, HXY.out]
        have hd : decide (x = y) = false := decide_eq_false hxy
        have HXY := Lib.hid hxy; rw [hd] at heq; clear hxy hd
        go_wp2_with fail
        go_quiet (fail)
        go_wp2_with fail
        go_ret
        have hne : L ≠ M := fun e => by
          have h1 := HI1.out; rw [e, HI2.out] at h1; exact HXY.out (Option.some.inj h1).symm
        exact ⟨by rw [decide_eq_false hne]; rfl, ho.drewN _⟩
      obtain rfl : i = l := by omega
      go_wp2_with fail
      go_ret
      have he : L = M := by
        have := htk.out; rw [List.take_of_length_le (by rw [HL.out]; exact Nat.le_refl _), List.take_of_length_le (by rw [HM.out]; exact Nat.le_refl _)] at this; exact this
      exact ⟨by rw [decide_eq_true he]; rfl, ho⟩
  have hne : L ≠ M := fun e => hlm (by rw [← HL.out, ← HM.out, e])
  have HNE := Lib.hid hne; clear hne
  go_enter Tryz.func22, Tryz.ntmps22
  go_wp2_with fail
  go_ret
  exact ⟨by rw [decide_eq_false HNE.out]; rfl, Off.refl _ _⟩
end
section
open Go.RowKit Go.Op
theorem infoBld : (Tryz.prog.info? 190).map (·.size) = some 2 := by kernel_rfl
def KeepB (b : Nat) (w w' : World) : Prop := ∀ (g : Nat) (t : TypeId) (cs : Array Value), Blk w g t cs → t ≠ 5 → g ≠ b → Blk w' g t cs
theorem KeepB.refl (b : Nat) (w : World) : KeepB b w w := fun _ _ _ h _ _ => h
theorem KeepB.set_ {b i : Nat} {w : World} {v : Value} : KeepB b w (w.setCell ⟨b, i, none⟩ v) := fun _ _ _ hB _ hg => hB.far hg _
set_option maxRecDepth 100000 in
theorem bcheck_used (b : Nat) (w : World) (h0 : w.cell? ⟨b, 0, none⟩ = some (.pointer (some ⟨b, 0, none⟩))) :
    Calls Tryz.prog 196 #[.pointer (some ⟨b, 0, none⟩)] w fun e w' => e = .returned (.tuple #[]) ∧ w' = w := by
  obtain ⟨j, hj, _⟩ := Option.map_eq_some_iff.1 infoBld
  go_enter Tryz.func196, Tryz.ntmps196
  go_wp2_with fail
  rw [Lib.run_neq_ptr_same w _ Tryz.underlying188 hj]
  go_wp2_with fail
  go_end0
  exact ⟨rfl, rfl⟩
theorem strCells_eq (s : ByteArray) : Lib.strCells s = Lib.byteCells (str s) := rfl
theorem byteCells_append (a b : Str) : Lib.byteCells (a ++ b) = Lib.byteCells a ++ Lib.byteCells b := by unfold Lib.byteCells; exact List.map_append ..
end
section
open Go.RowKit Go.Op
theorem liesHb : liesAt Tryz.prog Tryz.prog.depth 190 (2 / Tryz.prog.cellsOf 190) 0 190 1 = true := by kernel_rfl
def HbAt (B b : Nat) (l : Str) (w : World) : Prop := Lib.IsBuilder 190 5 B b (Lib.byteCells l) w
theorem HbAt.new (w : World) : HbAt w.heap.size w.heap.size [] (w.alloc (.cells #[.pointer none, .slice none 0 0] 190)) := Lib.fresh_isBuilder _ _ _
set_option maxRecDepth 100000 in
theorem hcheck_fresh (b : Nat) (w : World) (h0 : w.cell? ⟨b, 0, none⟩ = some (.pointer none)) (hsh : w.shape? b = some (190, 2)) (hfz : w.frozen? ⟨b, 0, none⟩ = false) :
    Calls Tryz.prog 196 #[.pointer (some ⟨b, 0, none⟩)] w fun e w' => e = .returned (.tuple #[]) ∧ w' = w.setCell ⟨b, 0, none⟩ (.pointer (some ⟨b, 0, none⟩)) := by
  obtain ⟨j, hj, hjs⟩ := Option.map_eq_some_iff.1 infoBld
  go_enter Tryz.func196, Tryz.ntmps196
  go_wp2_with fail
  rw [Lib.run_to_unsafe w ⟨b, 0, none⟩ Tryz.underlying188 Tryz.underlying320 hj (by rw [hjs]; decide) hsh (Nat.zero_lt_succ 1)]; simp only [Result.andThen]; rw [Oper.upon_value]
  go_wp2_with fail
  rw [run_callFunc_extern Tryz.func274 (by kernel_rfl) (by kernel_rfl) (by kernel_rfl) (e := Extern.AbiNoEscape.same) (by kernel_rfl)]; rw [Lib.run_noEscape]; simp only [Result.andThen]; rw [Oper.upon_value]
  go_wp2_with fail
  rw [Lib.run_from_unsafe w ⟨b, 0, none⟩ Tryz.underlying320 Tryz.underlying188 hj hsh liesHb]; simp only [Result.andThen]; rw [Oper.upon_value]
  go_wp2_with fail
  go_end0
  exact ⟨rfl, rfl⟩
theorem hcheck_any (B b : Nat) (bs : List Value) (w : World) (h : Lib.IsBuilder 190 5 B b bs w) :
    Calls Tryz.prog 196 #[.pointer (some ⟨b, 0, none⟩)] w fun e w' => e = .returned (.tuple #[]) ∧ (Lib.BuilderAt 190 5 B b (.pointer (some ⟨b, 0, none⟩)) bs w' ∧ Below B w w' ∧ KeepB b w w') := by
  rcases h with h | h
  · refine (hcheck_fresh b w h.cell0 h.shape h.frozen0).mono ?_
    rintro e w' ⟨rfl, rfl⟩; exact ⟨rfl, h.used _, (Below.refl B w).setCell (p := ⟨b, 0, none⟩) h.1 _, KeepB.set_⟩
  refine (bcheck_used b w h.cell0).mono ?_
  rintro e w' ⟨rfl, rfl⟩; exact ⟨rfl, h, Below.refl B _, KeepB.refl _ _⟩
set_option maxRecDepth 100000 in
set_option maxHeartbeats 2000000 in
theorem hwrite_any (B b : Nat) (l : Str) (c : UInt8) (w : World) (h : HbAt B b l w) (hlen : l.length + 1 ≤ 140737488355328) (hBw : B ≤ w.heap.size) :
    Calls Tryz.prog 193 #[.pointer (some ⟨b, 0, none⟩), .int .u8 c.toNat] w fun e w' => (∃ v, e = .returned v) ∧ HbAt B b (l ++ [c]) w' ∧ Below B w w' := by
  obtain ⟨i0, hi, hz0, hz1, hz2⟩ := info_parts infoU8; have HC := Lib.hid (hcheck_any B b (Lib.byteCells l) w h); clear h
  go_enter Tryz.func193, Tryz.ntmps193
  go_wp2_with fail
  refine HC.out.mono ?_
  rintro e w1 ⟨rfl, h1, hb1, hk1⟩; clear HC hk1; obtain ⟨hB, v, hbk, hown, hne⟩ := h1; rw [Lib.byteCells_length] at hown; have c0 : w1.cell? ⟨b, 0, none⟩ = some (.pointer (some ⟨b, 0, none⟩)) := by rw [Lib.cell_of_heap hbk]; rfl
  have c1 : w1.cell? ⟨b, 1, none⟩ = some v := by rw [Lib.cell_of_heap hbk]; rfl
  have hlt : b < w1.heap.size := by
    rcases Nat.lt_or_ge b w1.heap.size with h' | h'
    · exact h'
    simp [Array.getElem?_eq_none h'] at hbk
  go_wp2_with (at_builtin; refine wpList_append_own _ rfl _ _ 183 rfl B 5 i0 (.int .u8 0) 1 1 Tryz.underlying183 hi hz0 hz1 hz2 rfl (by decide) _ _ _ rfl (hown.alloc _) ⟨w1.heap.size, 0, none⟩ 1 1 [.int .u8 c.toNat] rfl rfl (cell_one_new _ _ _) (by simp [Value.oneCell']) (by unfold maxLen; omega) (by omega) (by have := hb1.size; simp; omega) ?_)
  intro v' w2 hown' hgrow _
  have hb2 : w2.heap[b]? = some (.cells #[.pointer (some ⟨b, 0, none⟩), v] 190 (0, 0)) := by
    rw [hgrow.block b (by simp; omega) (fun e => hne e.symm), ← hbk]; exact heap_alloc_old w1 _ hlt
  have d0 : w2.cell? ⟨b, 0, none⟩ = some (.pointer (some ⟨b, 0, none⟩)) := by rw [Lib.cell_of_heap hb2]; rfl
  have d1 : w2.cell? ⟨b, 1, none⟩ = some v := by rw [Lib.cell_of_heap hb2]; rfl
  have f1 : w2.frozen? ⟨b, 1, none⟩ = false := Lib.frozen_of_heap hb2 1
  obtain ⟨ao, n', cap, rfl⟩ : ∃ ao n' cap, v' = .slice ao n' cap := by
    rcases hown'.2 with ⟨hv, _⟩ | ⟨g, cap, cur, hv, _⟩
    · exact ⟨_, _, _, hv⟩
    exact ⟨_, _, _, hv⟩
  go_wp2_with fail
  go_ret
  refine ⟨⟨_, rfl⟩, .inr ?_, ?_⟩
  · rw [byteCells_append]
    exact Lib.BuilderAt.put (T := 190) (e := 5) hB hb2 (bs' := Lib.byteCells l ++ Lib.byteCells [c]) (by simpa [Lib.byteCells] using hown') (by decide)
  exact ((hb1.alloc (by have := hb1.size; omega) _).grown hgrow (by have := hb1.size; simp; omega) (fun k hk => (hown.lt k hk).1)).setCell (p := ⟨b, 1, none⟩) hB _
set_option maxRecDepth 100000 in
set_option maxHeartbeats 2000000 in
theorem hstring_any (B b : Nat) (l : Str) (w : World) (h : HbAt B b l w) (h0 : l ≠ []) :
    Calls Tryz.prog 126 #[.pointer (some ⟨b, 0, none⟩)] w fun e w' => e = .returned (.string (bs l)) ∧ Below B w w' := by
  obtain ⟨p, hB, v, hbk, hown, hne⟩ : ∃ p, Lib.BuilderAt 190 5 B b p (Lib.byteCells l) w := by
    rcases h with h | h
    · exact ⟨_, h⟩
    exact ⟨_, h⟩
  have hl0 : l.length ≠ 0 := by simpa using h0
  rw [Lib.byteCells_length] at hown; obtain ⟨g, cap, cur, rfl, hbg, hg, hnc, hcm, hcs, htake⟩ : ∃ g cap cur, v = .slice (some ⟨g, 0, none⟩) l.length cap ∧ B ≤ g ∧ w.heap[g]? = some (.cells cur 5 (0, 0)) ∧ l.length ≤ cap ∧ cap ≤ maxLen ∧ cur.size = cap * 1 ∧ cur.toList.take (l.length * 1) = Lib.byteCells l := by
    rcases hown.2 with ⟨_, hz⟩ | ⟨g, cap, cur, hv, r⟩
    · exact absurd hz hl0
    exact ⟨g, cap, cur, hv, r⟩
  have c1 : w.drew.cell? ⟨b, 1, none⟩ = some (.slice (some ⟨g, 0, none⟩) l.length cap) := by
    have : w.drew.heap[b]? = some (.cells #[p, .slice (some ⟨g, 0, none⟩) l.length cap] 190 (0, 0)) := hbk
    rw [Lib.cell_of_heap this]; rfl
  have hSD : (Builtin.unsafeSliceData_ #[183] 263 #[.slice (some ⟨g, 0, none⟩) l.length cap]).run Tryz.prog w.drew = .ok (.pointer (some ⟨g, 0, none⟩)) w.drew :=
    Lib.run_unsafeSliceData_row _ _ _ _ _ _ (by omega)
  have hUS : (Builtin.unsafeString_ #[263, 3] 9 #[.pointer (some ⟨g, 0, none⟩), .int .i64 l.length]).run Tryz.prog w.drew = .ok (.string ⟨l.toArray⟩) (w.drew.freeze ⟨g, 0, none⟩ l.length) := by
    refine Lib.run_unsafeString_row w.drew 263 3 9 5 Tryz.underlying263 (by kernel_rfl) g cur.size (by have hg' : w.drew.heap[g]? = some (.cells cur 5 (0, 0)) := hg; simp [World.shape?, hg']) l h0 (by omega) (by unfold maxLen at hcm; omega) ?_
    intro j x hx
    have := hown.cells (g := g) rfl j (.int .u8 x.toNat) (by simp [Lib.byteCells, hx]); exact this
  clear h hown hbk hg hcs htake
  go_enter Tryz.func126, Tryz.ntmps126
  go_wp2_with fail
  go_region
  all_goals (go_wp2_with fail; go_ret; exact ⟨rfl, Lib.below_freeze (Below.drew (Below.refl B w)) (p := ⟨g, 0, none⟩) hbg _⟩)
end
section
open Go.RowKit Go.Op
def HfAt (B b : Nat) (l : Str) (w : World) : Prop := Lib.IsBuilderF 190 5 B b (Lib.byteCells l) w
theorem fcheck_any (B b : Nat) (bs : List Value) (w : World) (h : Lib.IsBuilderF 190 5 B b bs w) :
    Calls Tryz.prog 196 #[.pointer (some ⟨b, 0, none⟩)] w fun e w' => e = .returned (.tuple #[]) ∧ (Lib.BuilderAtF 190 5 B b (.pointer (some ⟨b, 0, none⟩)) bs w' ∧ Below B w w') := by
  rcases h with h | h
  · refine (hcheck_fresh b w h.cell0 h.shape h.frozen0).mono ?_
    rintro e w' ⟨rfl, rfl⟩; exact ⟨rfl, h.used _, (Below.refl B w).setCell (p := ⟨b, 0, none⟩) h.1 _⟩
  refine (bcheck_used b w h.cell0).mono ?_
  rintro e w' ⟨rfl, rfl⟩; exact ⟨rfl, h, Below.refl B _⟩
set_option maxRecDepth 100000 in
set_option maxHeartbeats 2000000 in
theorem hlen_any (B b : Nat) (l : Str) (w : World) (h : HfAt B b l w) :
    Calls Tryz.prog 273 #[.pointer (some ⟨b, 0, none⟩)] w fun e w' => e = .returned (.int .i64 l.length) ∧ w' = w := by
  obtain ⟨p, hB, v, hbk, hown, hne⟩ : ∃ p, Lib.BuilderAtF 190 5 B b p (Lib.byteCells l) w := by
    rcases h with h | h
    · exact ⟨_, h⟩
    exact ⟨_, h⟩
  rw [Lib.byteCells_length] at hown; obtain ⟨ao, cap, rfl⟩ : ∃ ao cap, v = .slice ao l.length cap := by
    rcases hown.2 with ⟨hv, h0⟩ | ⟨g, cap, cur, fz, hv, _⟩
    · exact ⟨none, 0, by rw [hv, h0]⟩
    exact ⟨_, _, hv⟩
  have c1 : w.cell? ⟨b, 1, none⟩ = some (.slice ao l.length cap) := by rw [Lib.cell_of_heap hbk]; rfl
  go_enter Tryz.func273, Tryz.ntmps273
  go_wp2_with fail
  go_ret
  exact ⟨rfl, rfl⟩
set_option maxRecDepth 100000 in
set_option maxHeartbeats 2000000 in
theorem hwrites_any (B b : Nat) (l : Str) (s : ByteArray) (w : World) (h : HfAt B b l w) (hlen : l.length + s.size ≤ 140737488355328) (hBw : B ≤ w.heap.size) :
    Calls Tryz.prog 122 #[.pointer (some ⟨b, 0, none⟩), .string s] w fun e w' => (∃ v, e = .returned v) ∧ HfAt B b (l ++ str s) w' ∧ Below B w w' := by
  obtain ⟨i0, hi, hz0, hz1, hz2⟩ := info_parts infoU8; have HC := Lib.hid (fcheck_any B b (Lib.byteCells l) w h); clear h
  go_enter Tryz.func122, Tryz.ntmps122
  go_wp2_with fail
  refine HC.out.mono ?_
  rintro e w1 ⟨rfl, h1, hb1⟩; clear HC; obtain ⟨hB, v, hbk, hown, hne⟩ := h1; rw [Lib.byteCells_length] at hown; have c0 : w1.cell? ⟨b, 0, none⟩ = some (.pointer (some ⟨b, 0, none⟩)) := by rw [Lib.cell_of_heap hbk]; rfl
  have c1 : w1.cell? ⟨b, 1, none⟩ = some v := by rw [Lib.cell_of_heap hbk]; rfl
  go_wp2_with (at_builtin; refine Lib.wpList_append_own_stringF _ rfl _ _ 183 9 rfl B 5 i0 Tryz.underlying183 Tryz.underlying9 hi hz0 hz1 hz2 _ _ _ rfl hown s rfl ?c3 ?c4 ?c5 ?_)
  case c3 => unfold maxLen; omega
  case c4 => omega
  case c5 => have := hb1.size; omega
  intro v' w2 hown' hgrow _
  have hlt : b < w1.heap.size := by
    rcases Nat.lt_or_ge b w1.heap.size with h' | h'
    · exact h'
    simp [Array.getElem?_eq_none h'] at hbk
  have hb2 : w2.heap[b]? = some (.cells #[.pointer (some ⟨b, 0, none⟩), v] 190 (0, 0)) := by
    rw [hgrow.block b hlt (fun e => hne e.symm)]; exact hbk
  have d0 : w2.cell? ⟨b, 0, none⟩ = some (.pointer (some ⟨b, 0, none⟩)) := by rw [Lib.cell_of_heap hb2]; rfl
  have d1 : w2.cell? ⟨b, 1, none⟩ = some v := by rw [Lib.cell_of_heap hb2]; rfl
  have f1 : w2.frozen? ⟨b, 1, none⟩ = false := Lib.frozen_of_heap hb2 1
  obtain ⟨ao, n', cap, rfl⟩ : ∃ ao n' cap, v' = .slice ao n' cap := by
    rcases hown'.2 with ⟨hv, _⟩ | ⟨g, cap, cur, fz, hv, _⟩
    · exact ⟨_, _, _, hv⟩
    exact ⟨_, _, _, hv⟩
  go_wp2_with fail
  go_ret2
  refine ⟨⟨_, rfl⟩, .inr ?_, ?_⟩
  · rw [byteCells_append, ← strCells_eq]
    exact Lib.BuilderAtF.put (T := 190) (e := 5) hB hb2 (bs' := Lib.byteCells l ++ Lib.strCells s) (by simpa [Lib.strCells_length, Lib.byteCells_length] using hown') (by decide)
  exact (hb1.grown hgrow (by have := hb1.size; omega) (fun k hk => (hown.lt k hk).1)).setCell (p := ⟨b, 1, none⟩) hB _
set_option maxRecDepth 100000 in
set_option maxHeartbeats 2000000 in
theorem hstrings_any (B b : Nat) (l : Str) (w : World) (h : HfAt B b l w) (h0 : l ≠ []) :
    Calls Tryz.prog 126 #[.pointer (some ⟨b, 0, none⟩)] w fun e w' => e = .returned (.string (bs l)) ∧ HfAt B b l w' ∧ Below B w w' := by
  obtain ⟨p, hp, hAt⟩ : ∃ p, (p = .pointer none ∨ p = .pointer (some ⟨b, 0, none⟩)) ∧ Lib.BuilderAtF 190 5 B b p (Lib.byteCells l) w := by
    rcases h with h | h
    · exact ⟨_, .inl rfl, h⟩
    exact ⟨_, .inr rfl, h⟩
  clear h; obtain ⟨hB, v, hbk, hown, hne⟩ := hAt; have hl0 : l.length ≠ 0 := by simpa using h0
  rw [Lib.byteCells_length] at hown; obtain ⟨g, cap, cur, fz, rfl, hbg, hg, hfz, hnc, hcm, hcs, htake⟩ : ∃ g cap cur fz, v = .slice (some ⟨g, 0, none⟩) l.length cap ∧ B ≤ g ∧ w.heap[g]? = some (.cells cur 5 fz) ∧ fz.2 ≤ l.length * 1 ∧ l.length ≤ cap ∧ cap ≤ maxLen ∧ cur.size = cap * 1 ∧ cur.toList.take (l.length * 1) = Lib.byteCells l := by
    rcases hown.2 with ⟨_, hz⟩ | ⟨g, cap, cur, fz, hv, r⟩
    · exact absurd hz hl0
    exact ⟨g, cap, cur, fz, hv, r⟩
  have c1 : w.drew.cell? ⟨b, 1, none⟩ = some (.slice (some ⟨g, 0, none⟩) l.length cap) := by
    have : w.drew.heap[b]? = some (.cells #[p, .slice (some ⟨g, 0, none⟩) l.length cap] 190 (0, 0)) := hbk
    rw [Lib.cell_of_heap this]; rfl
  have hSD : (Builtin.unsafeSliceData_ #[183] 263 #[.slice (some ⟨g, 0, none⟩) l.length cap]).run Tryz.prog w.drew = .ok (.pointer (some ⟨g, 0, none⟩)) w.drew :=
    Lib.run_unsafeSliceData_row _ _ _ _ _ _ (by omega)
  have hUS : (Builtin.unsafeString_ #[263, 3] 9 #[.pointer (some ⟨g, 0, none⟩), .int .i64 l.length]).run Tryz.prog w.drew = .ok (.string ⟨l.toArray⟩) (w.drew.freeze ⟨g, 0, none⟩ l.length) := by
    refine Lib.run_unsafeString_row w.drew 263 3 9 5 Tryz.underlying263 (by kernel_rfl) g cur.size (by have hg' : w.drew.heap[g]? = some (.cells cur 5 fz) := hg; simp [World.shape?, hg']) l h0 (by omega) (by unfold maxLen at hcm; omega) ?_
    intro j x hx
    have := hown.cells (g := g) rfl j (.int .u8 x.toNat) (by simp [Lib.byteCells, hx]); exact this
  have hkeep : HfAt B b l (w.drew.freeze ⟨g, 0, none⟩ l.length) := by
    have hA : Lib.BuilderAtF 190 5 B b p (Lib.byteCells l) w.drew := ⟨hB, _, hbk, by rw [Lib.byteCells_length]; exact hown, hne⟩
    have hF := hA.froze (g := g) (cap := cap) (by rw [Lib.byteCells_length]; exact c1); rw [Lib.byteCells_length] at hF
    rcases hp with rfl | rfl
    · exact .inl hF
    exact .inr hF
  have HK := Lib.hid hkeep; clear hkeep hown hbk hg hcs htake hfz hp
  go_enter Tryz.func126, Tryz.ntmps126
  go_wp2_with fail
  go_region
  all_goals (go_wp2_with fail; go_ret; exact ⟨rfl, HK.out, Lib.below_freeze (Below.drew (Below.refl B w)) (p := ⟨g, 0, none⟩) hbg _⟩)
set_option maxRecDepth 100000 in
set_option maxHeartbeats 2000000 in
theorem hgrow_fresh (B b n : Nat) (w : World) (hB : B ≤ b) (hbk : w.heap[b]? = some (.cells #[.pointer (some ⟨b, 0, none⟩), .slice none 0 0] 190 (0, 0))) (hBw : B ≤ w.heap.size) (hn : n ≤ 281474976710656) :
    Calls Tryz.prog 339 #[.pointer (some ⟨b, 0, none⟩), .int .i64 n] w fun e w' => e = .returned (.tuple #[]) ∧ (Lib.BuilderAt 190 5 B b (.pointer (some ⟨b, 0, none⟩)) [] w' ∧ Below B w w') := by
  obtain ⟨cs, hrun, hle, hmax⟩ := Lib.run_makeNoZero (P := Tryz.prog) w.drew #[3] 183 5 Tryz.underlying183 n hn; have hw : IntKind.i64.wrap (IntKind.i64.wrap 0 + (n : Int)) = n := by
    rw [IntKind.wrap_i64, IntKind.wrap_i64]; omega
  have hcall : (callFunc 382 #[.int .i64 (IntKind.i64.wrap (IntKind.i64.wrap 0 + (n : Int)))]).run Tryz.prog w.drew = .ok (.value (.slice (some ⟨w.drew.heap.size, 0, none⟩) n cs.size)) (w.drew.drew.drew.alloc (.cells cs 5)) := by
    rw [hw, run_callFunc_extern Tryz.func382 (by kernel_rfl) (by kernel_rfl) (by kernel_rfl) (e := Extern.BytealgMakeNoZero.makeNoZero #[3] #[183]) (by kernel_rfl), hrun]
    rfl
  have c1 : w.drew.cell? ⟨b, 1, none⟩ = some (.slice none 0 0) := by
    have : w.drew.heap[b]? = _ := hbk
    rw [Lib.cell_of_heap this]; rfl
  have c2 : (w.alloc (.cells cs 5)).cell? ⟨b, 1, none⟩ = some (.slice none 0 0) := by
    have hlt : b < w.heap.size := by
      rcases Nat.lt_or_ge b w.heap.size with h' | h'
      · exact h'
      simp [Array.getElem?_eq_none h'] at hbk
    have : (w.alloc (.cells cs 5)).heap[b]? = _ := (Lib.alloc_old w _ b hlt).trans hbk
    rw [Lib.cell_of_heap this]; rfl
  have f2 : (w.alloc (.cells cs 5)).frozen? ⟨b, 1, none⟩ = false := by
    have hlt : b < w.heap.size := by
      rcases Nat.lt_or_ge b w.heap.size with h' | h'
      · exact h'
      simp [Array.getElem?_eq_none h'] at hbk
    exact Lib.frozen_of_heap ((Lib.alloc_old w _ b hlt).trans hbk) 1
  have hcopy : ∀ W : World, (Builtin.copy_ #[183, 183] 3 #[.slice (some ⟨w.heap.size, 0, none⟩) 0 cs.size, .slice none 0 0]).run Tryz.prog W = .ok (goInt 0) W :=
    fun W => run_copy_none W 183 183 3 5 _ _ 0 cs.size 0 0 Tryz.underlying183 (by kernel_rfl) rfl
  clear hw
  go_enter Tryz.func339, Tryz.ntmps339
  go_wp2_with fail
  have hfin := Lib.grown_fresh (T := 190) (e := 5) (cs := cs) hB hbk hBw (hmax (by unfold maxLen; omega)) (by decide)
  go_region
  all_goals (go_wp2_with fail; go_end0; exact ⟨rfl, hfin⟩)
set_option maxRecDepth 100000 in
set_option maxHeartbeats 2000000 in
theorem hGrow_any (B b n : Nat) (w : World) (hB : B ≤ b) (hbk : w.heap[b]? = some (.cells #[.pointer none, .slice none 0 0] 190 (0, 0))) (hBw : B ≤ w.heap.size) (hn : n ≤ 281474976710656) :
    Calls Tryz.prog 272 #[.pointer (some ⟨b, 0, none⟩), .int .i64 n] w fun e w' => e = .returned (.tuple #[]) ∧ (HfAt B b [] w' ∧ Below B w w') := by
  have hbk1 : (w.setCell ⟨b, 0, none⟩ (.pointer (some ⟨b, 0, none⟩))).heap[b]? = some (.cells #[.pointer (some ⟨b, 0, none⟩), .slice none 0 0] 190 (0, 0)) := by
    simp [World.setCell, Array.getElem?_modify, hbk]
  have c1 : (w.setCell ⟨b, 0, none⟩ (.pointer (some ⟨b, 0, none⟩))).cell? ⟨b, 1, none⟩ = some (.slice none 0 0) := by rw [Lib.cell_of_heap hbk1]; rfl
  have hb1 : Below B w (w.setCell ⟨b, 0, none⟩ (.pointer (some ⟨b, 0, none⟩))) := (Below.refl B w).setCell (p := ⟨b, 0, none⟩) hB _
  go_enter Tryz.func272, Tryz.ntmps272
  have hU : Lib.BuilderAt 190 5 B b (.pointer (some ⟨b, 0, none⟩)) [] (w.setCell ⟨b, 0, none⟩ (.pointer (some ⟨b, 0, none⟩))) := ⟨hB, .slice none 0 0, hbk1, World.ownsRow_nil _ _ _ _, by simp [Value.ownBlock]⟩
  have c1' : (w.setCell ⟨b, 0, none⟩ (.pointer (some ⟨b, 0, none⟩))).drew.cell? ⟨b, 1, none⟩ = some (.slice none 0 0) := c1
  go_wp2_with fail
  refine (hcheck_fresh b w (by rw [Lib.cell_of_heap hbk]; rfl) (by simp [World.shape?, hbk]) (Lib.frozen_of_heap hbk 0)).mono ?_
  rintro e w' ⟨rfl, rfl⟩
  go_wp2_with fail
  go_region
  all_goals go_wp2_with (go_at_call 339; refine (hgrow_fresh B b n (w.setCell ⟨b, 0, none⟩ (.pointer (some ⟨b, 0, none⟩))).drew hB hbk1 (by simpa [World.setCell, World.drew, -World.drew_eq] using hBw) hn).mono ?_; rintro e w2 ⟨rfl, h1, h2⟩)
  all_goals first
    | (go_end0; exact ⟨rfl, .inr (Lib.BuilderAtF.of h1), hb1.drew.trans h2⟩)
    | (go_end0; exact ⟨rfl, .inr (Lib.BuilderAtF.of hU.drew), hb1.drew⟩)
end
end Go.Proofs.YthciejabapdbgaaGreatDoor
