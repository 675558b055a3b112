/- Texts of this claim, one behind the other: DWrite DRep DRem DMk DLk DNm MvLaw MvC DMv DNew. Conditions: what each lemma states. -/
import Derived.Test.YtoicjadioiomkaaGreatDoorIf
import Derived.Test.YtoicjadioiomkaaGreatDoorId
import Derived.Carry
namespace Go.Proofs.YtoicjadioiomkaaGreatDoor
section
open Go.RowKit Go.Op Go.Maps
end
section
open Go.RowKit Go.Op Go.Maps
end
section
open Go.RowKit Go.Op Go.Maps
def insP (path x : ByteArray) : Bool := !decide (x = path) && within (str x) (str path)
def PDisk.inside (D : PDisk) (path : ByteArray) : Bool := D.names.any fun x => insP path x.1
def PDisk.remove_ (D : PDisk) (p : ByteArray) : Int × PDisk :=
  let e := firstE [PDisk.no p, D.gone p, (D.inside p, 72)]
  if e ≠ 0 then (e, D) else (0, D.change (delN D.names p))
def PDisk.remove (D : PDisk) (p : ByteArray) : Int × PDisk := D.call ⟨#[82, 101, 109, 111, 118, 101]⟩ p ⟨#[]⟩ fun E _ => E.remove_ p
end
section
open Go.RowKit Go.Op Go.Maps
def PDisk.mkdir_ (D : PDisk) (full : Bool) (p : ByteArray) : Int × PDisk := D.lay p ⟨⟨#[]⟩, 2, ⟨#[]⟩, 0⟩ full [PDisk.no p, D.parentE p, D.there p]
def PDisk.mkdir (D : PDisk) (p : ByteArray) : Int × PDisk := D.call ⟨#[77, 107, 100, 105, 114]⟩ p ⟨#[]⟩ fun E full => E.mkdir_ full p
end
section
open Go.RowKit Go.Op Go.Maps
def linkBad (q : ByteArray) : Bool := decide (q = ⟨#[]⟩) || decide (400 < q.size) || (str q).contains 0
def PDisk.link_ (D : PDisk) (full : Bool) (p q : ByteArray) : Int × PDisk := D.lay p ⟨⟨#[]⟩, 3, q, 0⟩ full [PDisk.no p, (linkBad q, 2), D.parentE p, D.there p]
def PDisk.link (D : PDisk) (p q : ByteArray) : Int × PDisk := D.call ⟨#[76, 105, 110, 107]⟩ p q fun E full => E.link_ full p q
end
section
open Go.RowKit Go.Op Go.Maps
def PDisk.namesOn (D : PDisk) (p : ByteArray) : List ByteArray × Int :=
  let e := if p = ⟨#[]⟩ then 0 else firstE [PDisk.no p, D.gone p]
  if e ≠ 0 then ([], e) else if D.dir p then (namesR D.tree (str p), 0) else ([], 73)
def PDisk.namesC (D : PDisk) (p : ByteArray) : (List ByteArray × Int) × PDisk :=
  match D.step ⟨#[78, 97, 109, 101, 115]⟩ p ⟨#[]⟩ with
  | (_, e, E) => if e ≠ 0 then (([], e), E) else (E.namesOn p, E)
set_option maxRecDepth 100000 in
set_option maxHeartbeats 16000000 in
theorem dnames_callE (p n : Nat) (G : Geo) (D : PDisk) (path : ByteArray) (w : World) (h : DSE w p G D n) (hE : EditsOk D n) (hn : n ≤ 40000000) (hs : path.size ≤ 9223372036854775807) (hF : Light D.edited) :
    Calls Tryz.prog 108 #[.pointer (some ⟨p, 0, none⟩), .string path] w fun e w' => ∃ v wm, e = .returned (.tuple #[v, .int .i64 (D.edited.namesC path).1.2]) ∧ w'.ownsRow wm.heap.size 9 1 v (D.edited.namesC path).1.1.length ((D.edited.namesC path).1.1.map Value.string) ∧ DSETo w p G.parts wm (D.edited.namesC path).2 (n + 1) ∧ Off [] wm w' := by
  have HST := Lib.hid (dstep_oneE p n G D ⟨#[78, 97, 109, 101, 115]⟩ path w h hE (by omega)); have HLI := Lib.hid (hF.step ⟨#[78, 97, 109, 101, 115]⟩ path ⟨#[]⟩); have HS := Lib.hid (show D.edited.namesC path = match D.edited.step ⟨#[78, 97, 109, 101, 115]⟩ path ⟨#[]⟩ with | (_, e, E) => if e ≠ 0 then (([], e), E) else (E.namesOn path, E) from rfl); clear h hF
  generalize D.edited.step ⟨#[78, 97, 109, 101, 115]⟩ path ⟨#[]⟩ = st at HST HS HLI
  obtain ⟨full, er, E⟩ := st; have HS := Lib.hid (show D.edited.namesC path = if er ≠ 0 then (([], er), E) else (E.namesOn path, E) from HS.out); have HLI := Lib.hid (show Light E from HLI.out); have hres : Tryz.f108.results = #[.tmp 4, .tmp 5] := rfl
  go_enter Tryz.func108, Tryz.ntmps108
  go_wp2_with fail
  refine HST.out.mono ?_
  rintro e w1 ⟨rfl, hT⟩; have HT := Lib.hid hT; clear hT HST
  by_cases h0 : er = 0
  · subst h0
    obtain ⟨G1, h1, ho1, hp1⟩ := HT.out; have H1 := Lib.hid h1; have HDI := Lib.hid (fun (W : World) (ho : Off [] w1 W) (v : Bool) (hv : E.dir path = v) => ddir_v p G1 E path W (h1.m.off ho (by simp) (by simp)) (by unfold maxLen; omega) (h1.ok.look (by omega) path) v hv); have HTR := Lib.hid (fun (W : World) (ho : Off [] w1 W) => dtree_callE p (n + 1) G1 E W (h1.off ho) (by omega))
    have HFI := Lib.hid (HLI.out.fits h1.ok); have HNM := Lib.hid (fun (W : World) (ho : Off [] w1 W) (q : Option Addr) (m c : Nat) (hm : E.tree.length = m) (hmc : m ≤ c) (hb : m ≤ maxLen) (hr : Row W q E.tree) => names_any q E.tree m c path W hr hm hmc hb HFI.out (by unfold maxLen; omega) (h1.tabs.off ho)); have HTL := Lib.hid (show E.tree.length ≤ 1000000 by
      have h5 := h1.ok.tree h1.m.parts.names.1; rw [h5, List.length_map, sortN_len]; have := h1.ok.nlen; omega)
    by_cases hp : path = ⟨#[]⟩
    · have HS2 := Lib.hid (show D.edited.namesC path = (if E.dir path then (namesR E.tree (str path), 0) else ([], 73), E) by
        rw [HS.out]; unfold PDisk.namesOn; rw [if_pos hp]; simp)
      have hoo : Off [] w1 w1 := Off.refl _ _
      have HOO := Lib.hid hoo; clear HS h1 ho1 hp1 hoo; have hpe : path.toList.isEmpty = true := by rw [hp, Lib.toList_data]; rfl
      have hpe2 : path.toList = [] := by rw [hp, Lib.toList_data]
      clear hp
      go_upto_region 8 with fail
      by_cases hd : E.dir path = true
      · have HDD := Lib.hid (HDI.out _ HOO.out true hd)
        have HF := Lib.hid (show D.edited.namesC path = ((namesR E.tree (str path), 0), E) by rw [HS2.out, hd]; rfl); clear hd HDI HS2
        go_wp2_with fail
        refine HDD.out.mono ?_
        rintro e wb ⟨rfl, hob⟩; have HOB := Lib.hid (HOO.out.trans_nil hob); clear hob HDD
        go_wp2_with fail
        refine (HTR.out _ HOB.out).mono ?_
        rintro e wc ⟨v, rfl, hrow, hoc⟩; have HOC := Lib.hid (HOB.out.trans_nil hoc); obtain ⟨m, hm⟩ : ∃ m, E.tree.length = m := ⟨_, rfl⟩
        obtain ⟨q, c, hv, hr, hc, -⟩ := own_row hrow; rw [hm] at hv hc; subst hv; have HNN := Lib.hid (HNM.out wc HOC.out q m c hm hc (by have := HTL.out; unfold maxLen; omega) hr); clear hrow hoc hr HNM HTR hm
        go_wp2_with fail
        refine HNN.out.mono ?_
        rintro e wd ⟨u, rfl, hown, hod⟩; have HOW := Lib.hid hown; have HOD := Lib.hid hod; clear hown hod HNN
        go_wp2_with fail
        refine bodyPost_ret (v := .tuple #[u, .int .i64 0]) ?_ rfl ?_
        · simp only [results, hres]
          go_simp
        rw [HF.out]; exact ⟨u, wc, rfl, HOW.out, HT.out.off HOC.out, HOD.out⟩
      have hd : E.dir path = false := by simpa using hd
      have HDD := Lib.hid (HDI.out _ HOO.out false hd); have HF := Lib.hid (show D.edited.namesC path = (([], 73), E) by rw [HS2.out, hd]; rfl); clear hd HDI HS2
      go_wp2_with fail
      refine HDD.out.mono ?_
      rintro e wb ⟨rfl, hob⟩; have HOB := Lib.hid (HOO.out.trans_nil hob); clear hob HDD
      go_wp2_with fail
      refine bodyPost_ret (v := .tuple #[.slice none 0 0, .int .i64 73]) ?_ rfl ?_
      · simp only [results, hres]
        go_simp
      rw [HF.out]; exact ⟨_, wb, rfl, ⟨rfl, .inl ⟨rfl, rfl⟩⟩, HT.out.off HOB.out, Off.refl _ _⟩
    obtain ⟨hpe1, hpe2⟩ := emp_ne hp; obtain ⟨x1, hx1⟩ : ∃ x, PDisk.no path = x := ⟨_, rfl⟩
    obtain ⟨x2, hx2⟩ : ∃ x, E.gone path = x := ⟨_, rfl⟩
    have hno := dno_any path w1 h1.tabs.tabs; have hgo := fun (W : World) (ho : Off [] w1 W) => dgone_any p G1 E path W (h1.m.off ho (by simp) (by simp)) (by unfold maxLen; omega) (h1.ok.look (by omega) path)
    rw [hx1] at hno; rw [hx2] at hgo; unfold rsn at hno hgo; have HNO := Lib.hid hno; have HGO := Lib.hid hgo; have HS2 := Lib.hid (show D.edited.namesC path = (if firstE [x1, x2] ≠ 0 then ([], firstE [x1, x2]) else if E.dir path then (namesR E.tree (str path), 0) else ([], 73), E) by
      rw [HS.out]; unfold PDisk.namesOn; rw [if_neg hp, hx1, hx2]; simp)
    clear HS h1 ho1 hp1 hx1 hx2 hno hgo hp
    go_wp2_with fail
    refine HNO.out.mono ?_
    rintro e w2 ⟨rfl, ho2⟩; have HO2 := Lib.hid ho2; clear ho2 HNO
    go_wp2_with fail
    refine (HGO.out _ HO2.out).mono ?_
    rintro e w3 ⟨rfl, ho3⟩; have HO3 := Lib.hid ((HO2.out.trans_nil ho3).alloc (.cells (rsnCells [x1, x2]).toArray 156)); clear ho3 HGO HO2
    go_wp2_with fail
    refine (dfirst_any w3.heap.size 2 2 [x1, x2] _ (rsns_new w3 [x1, x2] _ rfl) rfl (by omega)).mono ?_
    rintro e w4 ⟨rfl, ho4⟩; have HOO := Lib.hid (HO3.out.trans_nil ho4); clear ho4 HO3
    by_cases hv0 : firstE [x1, x2] = 0
    · have HS3 := Lib.hid (show D.edited.namesC path = (if E.dir path then (namesR E.tree (str path), 0) else ([], 73), E) by rw [HS2.out, hv0]; simp)
      have HS2 := HS3; rw [hv0]; clear hv0 HS3
      go_upto_region 8 with fail
      by_cases hd : E.dir path = true
      · have HDD := Lib.hid (HDI.out _ HOO.out true hd)
        have HF := Lib.hid (show D.edited.namesC path = ((namesR E.tree (str path), 0), E) by rw [HS2.out, hd]; rfl); clear hd HDI HS2
        go_wp2_with fail
        refine HDD.out.mono ?_
        rintro e wb ⟨rfl, hob⟩; have HOB := Lib.hid (HOO.out.trans_nil hob); clear hob HDD
        go_wp2_with fail
        refine (HTR.out _ HOB.out).mono ?_
        rintro e wc ⟨v, rfl, hrow, hoc⟩; have HOC := Lib.hid (HOB.out.trans_nil hoc); obtain ⟨m, hm⟩ : ∃ m, E.tree.length = m := ⟨_, rfl⟩
        obtain ⟨q, c, hv, hr, hc, -⟩ := own_row hrow; rw [hm] at hv hc; subst hv; have HNN := Lib.hid (HNM.out wc HOC.out q m c hm hc (by have := HTL.out; unfold maxLen; omega) hr); clear hrow hoc hr HNM HTR hm
        go_wp2_with fail
        refine HNN.out.mono ?_
        rintro e wd ⟨u, rfl, hown, hod⟩; have HOW := Lib.hid hown; have HOD := Lib.hid hod; clear hown hod HNN
        go_wp2_with fail
        refine bodyPost_ret (v := .tuple #[u, .int .i64 0]) ?_ rfl ?_
        · simp only [results, hres]
          go_simp
        rw [HF.out]; exact ⟨u, wc, rfl, HOW.out, HT.out.off HOC.out, HOD.out⟩
      have hd : E.dir path = false := by simpa using hd
      have HDD := Lib.hid (HDI.out _ HOO.out false hd); have HF := Lib.hid (show D.edited.namesC path = (([], 73), E) by rw [HS2.out, hd]; rfl); clear hd HDI HS2
      go_wp2_with fail
      refine HDD.out.mono ?_
      rintro e wb ⟨rfl, hob⟩; have HOB := Lib.hid (HOO.out.trans_nil hob); clear hob HDD
      go_wp2_with fail
      refine bodyPost_ret (v := .tuple #[.slice none 0 0, .int .i64 73]) ?_ rfl ?_
      · simp only [results, hres]
        go_simp
      rw [HF.out]; exact ⟨_, wb, rfl, ⟨rfl, .inl ⟨rfl, rfl⟩⟩, HT.out.off HOB.out, Off.refl _ _⟩
    obtain ⟨ee, hee⟩ : ∃ ee, firstE [x1, x2] = ee := ⟨_, rfl⟩
    have HF := Lib.hid (show D.edited.namesC path = (([], ee), E) by rw [HS2.out, if_pos hv0, hee]); rw [hee]; have hne : (ee == 0) = false := beq_eq_false_iff_ne.2 (by rw [← hee]; exact hv0)
    clear hv0 hee HS2
    go_wp2_with fail
    refine bodyPost_ret (v := .tuple #[.slice none 0 0, .int .i64 ee]) ?_ rfl ?_
    · simp only [results, hres]
      go_simp
    rw [HF.out]; exact ⟨_, w4, rfl, ⟨rfl, .inl ⟨rfl, rfl⟩⟩, HT.out.off HOO.out, Off.refl _ _⟩
  have HS2 := Lib.hid (show D.edited.namesC path = (([], er), E) by rw [HS.out, if_pos h0]); have hne : (er == 0) = false := beq_eq_false_iff_ne.2 h0
  clear h0
  go_wp2_with fail
  refine bodyPost_ret (v := .tuple #[.slice none 0 0, .int .i64 er]) ?_ rfl ?_
  · simp only [results, hres]
    go_simp
  rw [HS2.out]; exact ⟨_, w1, rfl, ⟨rfl, .inl ⟨rfl, rfl⟩⟩, HT.out, Off.refl _ _⟩
end
section
open Go.RowKit Go.Op Go.Maps
def mvP (p q x : ByteArray) : ByteArray := q ++ x.extract p.size x.size
def mvN (p q : ByteArray) (x : ByteArray × Nat) : ByteArray × Nat := if within (str x.1) (str p) then (mvP p q x.1, x.2) else x
def Free (p q : ByteArray) (l : NameL) : Prop := ∀ x ∈ l, within (str x.1) (str p) = true → hasN l (mvP p q x.1) = false
theorem mvP_inj {p q x y : ByteArray} (hp : okPath (str p) = true) (hx : within (str x) (str p) = true) (hy : within (str y) (str p) = true) (h : mvP p q x = mvP p q y) : x = y := by
  have key : ∀ z : ByteArray, within (str z) (str p) = true → str z = str p ++ str (z.extract p.size z.size) := fun z hz => by
    have hzk : okPath (str z) = true := by
      unfold within at hz; simp only [Bool.and_eq_true] at hz; exact hz.1
    have e : str (z.extract p.size z.size) = (str z).drop (str p).length := by
      rw [str_extract, str_size, ← str_size z]; exact List.take_of_length_le (by rw [List.length_drop]; exact Nat.le_refl _)
    rw [e]
    rcases (within_iff hzk hp).1 hz with h | ⟨s, h⟩
    · rw [h]; simp
    rw [h]; simp
  apply str_inj
  rw [key x hx, key y hy]; have h2 : str q ++ str (x.extract p.size x.size) = str q ++ str (y.extract p.size y.size) := by
    rw [← str_append, ← str_append]; exact congrArg str h
  rw [List.append_cancel_left h2]
end
section
open Go.RowKit Go.Op Go.Maps
end
section
open Go.RowKit Go.Op Go.Maps
def badP (p q x : ByteArray) : Bool := within (str x) (str p) && !okPath (str (mvP p q x))
def PDisk.badMv (D : PDisk) (p q : ByteArray) : Bool := D.names.any fun x => badP p q x.1
def PDisk.mvE (D : PDisk) (p q : ByteArray) : List (Bool × Int) := [PDisk.no p, PDisk.no q, (within (str q) (str p), 2), D.gone p, D.there q, D.parentE q]
def PDisk.move_ (D : PDisk) (p q : ByteArray) : Int × PDisk :=
  let e := firstE (D.mvE p q)
  if e ≠ 0 then (e, D) else if D.badMv p q then (11, D) else (0, D.change (D.names.map (mvN p q)))
def PDisk.move (D : PDisk) (p q : ByteArray) : Int × PDisk := D.call ⟨#[77, 111, 118, 101]⟩ p q fun E _ => E.move_ p q
end
section
open Go.RowKit Go.Op Go.Maps
def nmOf : List Node → Nat → NameL
  | [], _ => []
  | n :: t, i => (n.path, i + 1) :: nmOf t (i + 1)
theorem nmOf_append : ∀ (a b : List Node) (i : Nat), nmOf (a ++ b) i = nmOf a i ++ nmOf b (i + a.length)
  | [], b, i => by simp [nmOf]
  | n :: a, b, i => by
    rw [List.cons_append, nmOf, nmOf, nmOf_append a b (i + 1), List.cons_append, List.length_cons, show i + 1 + a.length = i + (a.length + 1) by omega]
theorem nmOf_has : ∀ (a : List Node) (i : Nat) (p : ByteArray), hasN (nmOf a i) p = true ↔ ∃ n ∈ a, n.path = p
  | [], i, p => by simp [nmOf, hasN]
  | n :: a, i, p => by simp [nmOf, hasN, nmOf_has a (i + 1) p]
theorem nmOf_len : ∀ (a : List Node) (i : Nat), (nmOf a i).length = a.length
  | [], _ => rfl
  | n :: a, i => by simp [nmOf, nmOf_len a (i + 1)]
def newD' (t : List Node) : PDisk := ⟨nmOf t 0, [], [], t.map fun n => ⟨n, 0, false⟩, false, 0, [], [], [], .slice none 0 0⟩
def newD (t : List Node) : PDisk := { newD' t with safe := nmOf t 0 }
theorem newD_step {t : List Node} (hs : Sorted t) {i : Nat} (hi : i < t.length) :
    { ((newD' (t.take i)).make t[i] 0 false) with names := putN (newD' (t.take i)).names t[i].path ((newD' (t.take i)).inos.length + 1) } = newD' (t.take (i + 1)) := by
  have ht : t.take (i + 1) = t.take i ++ [t[i]] := by rw [List.take_add_one, List.getElem?_eq_getElem hi]; rfl
  have hno : hasN (nmOf (t.take i) 0) t[i].path = false := by
    cases hh : hasN (nmOf (t.take i) 0) t[i].path
    · rfl
    obtain ⟨n, hn, e⟩ := (nmOf_has _ _ _).1 hh; obtain ⟨j, hj, rfl⟩ := List.getElem_of_mem hn; have hji : j < i := by rw [List.length_take] at hj; omega
    have h1 := List.pairwise_iff_getElem.1 hs j i (by omega) hi hji; rw [List.getElem_take] at e; have h2 : t[j].p = t[i].p := by show str _ = str _; rw [e]
    rw [h2, order_self] at h1; omega
  unfold newD' PDisk.make; dsimp only; rw [ht, nmOf_append, List.map_append]; unfold putN; rw [if_neg (by rw [hno]; decide)]; have hl : (t.take i).length = i := by rw [List.length_take]; omega
  simp [nmOf]
theorem newD_zero {w : World} {gd nb ib : Nat} (hB : Blk w gd 115 #[.map (some nb), .map none, .slice none 0 0, .map (some ib), .int .i64 1, .bool false, .int .i64 0, .slice none 0 0, .slice none 0 0, .slice none 0 0])
    (hN : w.ownsMap Tryz.prog 9 (plainElem Tryz.prog 3) nb 0 (.map [] : DataW Unit)) (hI : w.ownsMap Tryz.prog 3 ptrElem ib 0 (.map [] : DataW Unit)) (hne : ib ≠ nb) :
    DiskM w gd ⟨nb, none, ib, .slice none 0 0, .slice none 0 0, .slice none 0 0, [], [], []⟩ (newD' []) where
  blk := hB
  parts := {
    names := ⟨List.Pairwise.nil, _, hN, rfl, fun p => ⟨rfl, rfl⟩⟩
    safe := rfl
    later := World.ownsRow_nil w 0 _ 1
    lbl := rfl
    laters := fun i b l h1 _ => by simp at h1
    ino := ⟨_, hI, rfl, fun k q h => by simp at h, fun i _ => rfl⟩
    qsl := rfl
    inos := fun i q n h1 _ => by simp at h1
    nodup := List.nodup_nil
    trace := World.ownsRow_nil w 0 _ 3
    fates := ⟨⟨none, 0, rfl, Nat.le_refl _, fun h => absurd rfl h⟩, EditsAt.nil w _⟩
    fbl := fun g hg => by cases hg
    apart := ⟨hne, by simp, by simp⟩ }
def NewMid (w : World) (gd nb : Nat) (D : PDisk) (wr : World) : Prop :=
  ∃ G, DiskM wr gd G D ∧ G.nb = nb ∧ nb ∉ G.rest ∧ G.sb = none ∧ (∀ b ∈ G.parts, w.heap.size ≤ b) ∧ Off [] w wr
theorem NewMid.turned {w wr wU : World} {gd nb : Nat} {D D1 : PDisk} {G : Geo} {e : Ending} (h1 : DiskM wr gd G D) (hnb : G.nb = nb) (h4 : G.sb = none) (h5 : ∀ b ∈ G.parts, w.heap.size ≤ b) (h6 : Off [] w wr) (hgd : w.heap.size ≤ gd) (ht : TurnP gd nb G D1 wr e wU) : NewMid w gd nb D1 wU := by
  obtain ⟨-, G', a1, a2, a3, a4, a5, a6⟩ := ht; refine ⟨G', a3, a1, a4, a2.trans h4, fun b hb => ?_, h6.trans a5 (fun x hx hm => ?_)⟩
  · rcases List.mem_cons.1 hb with rfl | hb
    · rw [a1, ← hnb]; exact h5 _ (List.mem_cons_self ..)
    rcases a6 b hb with h | h
    · exact h5 b (List.mem_cons_of_mem _ h)
    exact Nat.le_trans h6.size h
  exfalso
  rcases List.mem_cons.1 hm with rfl | hm
  · omega
  rcases List.mem_cons.1 hm with rfl | hm
  · have := h5 G.nb (List.mem_cons_self ..); omega
  have := h5 x (List.mem_cons_of_mem _ hm); omega
set_option maxRecDepth 100000 in
set_option maxHeartbeats 8000000 in
theorem dnew_ok (fp : Option Addr) (t : List Node) (n c : Nat) (w : World) (hR : Row w fp t) (hn : t.length = n) (hc : n ≤ c) (hok : okTree t = true) (hF : Fits t) (hT : Tabs w) :
    Calls Tryz.prog 12 #[.slice fp n c] w fun e w' => ∃ gd G, e = .returned (.tuple #[.pointer (some ⟨gd, 0, none⟩), .int .i64 0]) ∧ DiskM w' gd G (newD t) ∧ w.heap.size ≤ gd ∧ (∀ b ∈ G.parts, w.heap.size ≤ b) ∧ G.sb.isSome = true ∧ Off [] w w' := by
  have hbig : n ≤ 1000 := by rw [← hn]; exact okTree_len hok
  have HCK := Lib.hid (check_any fp t n c w hR hn hc (by unfold maxLen; omega) hF hT); have hck : chkV t = 0 := by unfold chkV; rw [hok]; rfl
  rw [hck] at HCK; have HR := Lib.hid hR; have HN := Lib.hid hn; have HS := Lib.hid (okTree_sorted hok); have HSM := Lib.hid (fun (x : Node) (hx : x ∈ t) => okTree_small hok hx); clear hR hn hok hF hT hck
  go_enter Tryz.func12, Tryz.ntmps12
  go_wp2_with fail
  refine HCK.out.mono ?_
  rintro e w1 ⟨rfl, ho1⟩; have HO1 := Lib.hid ho1; clear HCK ho1
  go_wp2_with fail
  rw [run_makeMap]; simp only [Result.andThen]; rw [Oper.upon_value]
  go_wp2_with fail
  rw [run_makeMap]; simp only [Result.andThen]; rw [Oper.upon_value]
  go_upto_region 4 with fail
  obtain ⟨gd, hgd⟩ : ∃ gd, w1.heap.size + 1 + 1 = gd := ⟨_, rfl⟩
  obtain ⟨nb, hnb⟩ : ∃ nb, w1.heap.size = nb := ⟨_, rfl⟩
  have hm0 : NewMid w gd nb (newD' []) (((w1.alloc (Obj.map #[] 0)).alloc (Obj.map #[] 0)).alloc (.cells #[.map (some w1.heap.size), .map none, .slice none 0 0, .map (some (w1.heap.size + 1)), .int .i64 1, .bool false, .int .i64 0, .slice none 0 0, .slice none 0 0, .slice none 0 0] 115)) := by
    have hsz := HO1.out.size; refine ⟨⟨w1.heap.size, none, w1.heap.size + 1, .slice none 0 0, .slice none 0 0, .slice none 0 0, [], [], []⟩, newD_zero ?_ ?_ ?_ (by omega), hnb, ?_, rfl, ?_, (((HO1.out.alloc _).alloc _).alloc _)⟩
    · rw [← hgd]; exact Blk.new2 w1 _ _ _ _
    · exact ownsMap_off (World.ownsMap_made w1 Tryz.prog _ _) ((((Off.refl [] _).alloc _)).alloc _) (by simp)
    · have := ownsMap_off (World.ownsMap_made (w1.alloc (Obj.map #[] 0)) Tryz.prog 3 ptrElem (H := Unit)) ((Off.refl [] _).alloc (.cells #[.map (some w1.heap.size), .map none, .slice none 0 0, .map (some (w1.heap.size + 1)), .int .i64 1, .bool false, .int .i64 0, .slice none 0 0, .slice none 0 0, .slice none 0 0] 115)) (by simp)
      simpa using this
    · rw [← hnb]
      intro h
      simp [Geo.rest, Value.ownBlock] at h
    intro b hb
    simp [Geo.parts, Geo.rest, Value.ownBlock] at hb
    omega
  have hgn : w.heap.size ≤ gd := by have := HO1.out.size; omega
  refine code_gen (fun W => NewMid w gd nb (newD' []) W) hm0 ?_
  rw [hgd, hnb]; have HGN := Lib.hid hgn; clear hm0 hgd hnb hgn; rintro W0 hm0
  go_wp2_with fail
  go_loopw [16] (fun x wr => ∃ i : Nat, x = .int .i64 i ∧ i ≤ n ∧ NewMid w gd nb (newD' (t.take i)) wr) (fun x _ => n - (intOf x).toNat)
  case atStart => exact ⟨0, rfl, by omega, by rw [List.take_zero]; exact hm0⟩
  case round =>
    clear hm0; obtain ⟨i, rfl, hi, hmid⟩ := hrel; have HMID := Lib.hid hmid; obtain ⟨G, hM, hnb, hnr, hsb, hpl, hof⟩ := hmid
    by_cases hlt : i < n
    · have hil : i < t.length := by rw [HN.out]; exact hlt
      obtain ⟨a, rfl, hna, hab⟩ := (HR.out.off hof).get i hil; have HSTEP := Lib.hid (newD_step HS.out hil); have hps := HSM.out _ (List.getElem_mem hil); generalize t[i] = x at *; obtain ⟨D, hD⟩ : ∃ D, newD' (t.take i) = D := ⟨_, rfl⟩
      have HIL := Lib.hid (show D.inos.length ≤ 1000 from by rw [← hD]; simp [newD']; omega); have HNL := Lib.hid (show D.names.length ≤ 1000 from by rw [← hD]; simp [newD', nmOf_len]; omega); rw [hD] at hM HSTEP; have c0 := hna.path; have c1 := hna.kind; have c2 := hna.data; have c3 := hna.mode; have hilt : (i : Int) < n := by omega
      have HM := Lib.hid hM; have HX := Lib.hid (show G.nb = nb ∧ nb ∉ G.rest ∧ G.sb = none ∧ (∀ b ∈ G.parts, w.heap.size ≤ b) ∧ Off [] w wr from ⟨hnb, hnr, hsb, hpl, hof⟩); have HPS := Lib.hid hps; clear hM hnb hnr hsb hpl hof hna hil hD hps
      go_upto_region 7 with fail
      refine code_gen (fun W => Blk W wr.heap.size 30 #[.string x.path, .int .i64 x.kind, .string x.data, .int .i64 x.mode] ∧ Off [] wr W) ⟨Blk.new wr _ _, (Off.refl _ _).alloc _⟩ ?_
      rintro W ⟨hbn, hoW⟩; have HBN := Lib.hid hbn.drew; have HOW := Lib.hid hoW; have HMW := Lib.hid ((HM.out.off hoW (by simp) (by simp)).drew); have hS : (∀ i, W.drew.cell? ⟨wr.heap.size, i, none⟩ = (#[.string x.path, .int .i64 x.kind, .string x.data, .int .i64 x.mode] : Array Value)[i]?) ∧ W.drew.cell? ⟨gd, 0, none⟩ = some (.map (some nb)) :=
        ⟨hbn.drew.cell, by have := HMW.out.blk.cell 0; rw [show (diskCells G D)[0]? = some (.map (some G.nb)) from rfl, HX.out.1] at this; exact this⟩
      have KEEP := Lib.hid (show ∀ (wA wU : World) (q : Nat), DiskM wA gd { G with qs := G.qs ++ [q] } (D.make x 0 false) → Off [gd, G.ib] W.drew wA → wA.grownBy wU (some G.nb) →
          ((∀ i, wA.cell? ⟨wr.heap.size, i, none⟩ = (#[.string x.path, .int .i64 x.kind, .string x.data, .int .i64 x.mode] : Array Value)[i]?) ∧ wA.cell? ⟨gd, 0, none⟩ = some (.map (some nb))) ∧
          (∀ i, wU.cell? ⟨wr.heap.size, i, none⟩ = (#[.string x.path, .int .i64 x.kind, .string x.data, .int .i64 x.mode] : Array Value)[i]?) ∧ wU.cell? ⟨gd, 0, none⟩ = some (.map (some nb)) from
        fun wA wU q hMA hoA hgU => by
          have hib := HMW.out.parts.ino.isMap; have hmb := HMW.out.parts.names.isMap; have h1 := HBN.out.off hoA (fun h => by
            simp at h
            rcases h with h | h
            · exact HBN.out.ne_ HMW.out.blk (by decide) h
            exact hib.ne HBN.out h.symm)
          have h3 : some wr.heap.size ≠ some G.nb := fun e => hmb.ne HBN.out (by injection e with e; exact e.symm)
          have h4 : some gd ≠ some G.nb := fun e => hmb.ne HMW.out.blk (by injection e with e; exact e.symm)
          have h5 := hMA.blk.grown hgU h4; refine ⟨⟨h1.cell, ?_⟩, (h1.grown hgU h3).cell, ?_⟩
          · have := hMA.blk.cell 0
            rw [show (diskCells { G with qs := G.qs ++ [q] } (D.make x 0 false))[0]? = some (.map (some G.nb)) from rfl, HX.out.1] at this; exact this
          have := h5.cell 0; rw [show (diskCells { G with qs := G.qs ++ [q] } (D.make x 0 false))[0]? = some (.map (some G.nb)) from rfl, HX.out.1] at this; exact this)
      clear c0 c1 c2 c3 hbn hoW hab
      go_region_held3 (fun w' => (∀ i, w'.cell? ⟨wr.heap.size, i, none⟩ = (#[.string x.path, .int .i64 x.kind, .string x.data, .int .i64 x.mode] : Array Value)[i]?) ∧ w'.cell? ⟨gd, 0, none⟩ = some (.map (some nb))) (first | assumption) ((go_at_call 51; refine (dmake_any gd G D x 0 false _ HMW.out (by have := HIL.out; omega)).mono ?_; rintro e wA ⟨rfl, q, hMA, hoA, hq⟩; obtain ⟨wU, hrunU, hNU, hgU⟩ := hMA.parts.names.add (by show D.names.length ≤ _; have := HNL.out; omega) x.path (by have := HPS.out; unfold maxLen; omega) (D.inos.length + 1) (D.inos.length + 1) (by simp) (by have := HIL.out; omega); obtain ⟨hSA, hSU⟩ := KEEP.out wA wU q hMA hoA hgU; rw [show ({ G with qs := G.qs ++ [q] } : Geo).nb = nb from HX.out.1] at hrunU))
      have HEND := Lib.hid (show NewMid w gd nb (newD' (t.take (i + 1))) wU from by
        rw [← HSTEP.out]; have hMG : DiskM W.drew gd { G with nb := G.nb } D := HMW.out
        have htp := turn_end (path := x.path) (m := G.nb) hMG (by rw [HX.out.1]; exact HX.out.2.1) hMA hoA hq (by rw [show (D.make x 0 false).names = D.names from rfl] at hNU; exact hNU) hgU; rw [HX.out.1] at htp; exact NewMid.turned HMW.out HX.out.1 HX.out.2.2.1 HX.out.2.2.2.1 ((HX.out.2.2.2.2.trans_nil HOW.out).drew) HGN.out htp)
      clear hSA hSU hS hMA hoA hq hNU hgU hrunU
      go_wp2_with fail
      exact ⟨⟨i + 1, by congr 1, by omega, HEND.out⟩, by simp only [intOf]; omega⟩
    obtain rfl : i = n := by omega
    have ht : t.take i = t := List.take_of_length_le (by rw [HN.out]; exact Nat.le_refl _)
    rw [ht] at hM; have HCL := Lib.hid (mclone_any G.nb (nmOf t 0) wr hM.parts.names); have hc0 := hM.blk.cell; unfold diskCells at hc0; have HM := Lib.hid hM; have HX := Lib.hid (show G.nb = nb ∧ nb ∉ G.rest ∧ G.sb = none ∧ (∀ b ∈ G.parts, w.heap.size ≤ b) ∧ Off [] w wr from ⟨hnb, hnr, hsb, hpl, hof⟩); clear hM hnb hnr hsb hpl hof ht
    go_wp2_with fail
    refine HCL.out.mono ?_
    rintro e w3 ⟨rfl, hN3, ho3⟩; have hM3 := HM.out.off ho3 (by simp) (by simp); have HM3 := Lib.hid hM3; have HN3 := Lib.hid hN3; have HO3 := Lib.hid ho3; have hc3 := hM3.blk.cell; have hf3 := hM3.blk.frozen; have hl3 := hM3.blk.lt; unfold diskCells at hc3; clear hc0 hM3 hN3 ho3
    go_wp2_with fail
    go_ret2
    have hwg : wr.heap.size ∉ G.parts := fun h => Nat.lt_irrefl _ (HM.out.parts.lt h)
    refine ⟨gd, { G with sb := some wr.heap.size }, rfl, ⟨?_, ?_⟩, HGN.out, ?_, rfl, ?_⟩
    · have := HM3.out.blk.set_ 1 (.map (some wr.heap.size))
      unfold diskCells at this ⊢
      simpa [newD] using this
    · have hS : Off [gd] w3 (w3.setCell ⟨gd, 1, none⟩ (.map (some wr.heap.size))) := (Off.refl [gd] w3).setCell (.inr (by simp)) _
      have hPP := HM3.out.parts.off (k := [gd]) hS (fun b hb h => by simp at h; subst h; exact HM3.out.far hb); exact {
        names := hPP.names
        safe := HN3.out.off hS (by have := HM.out.blk.lt; simp; omega)
        later := hPP.later
        lbl := hPP.lbl
        laters := hPP.laters
        ino := hPP.ino
        qsl := hPP.qsl
        inos := hPP.inos
        nodup := hPP.nodup
        trace := hPP.trace
        fates := hPP.fates
        fbl := hPP.fbl
        apart := ⟨hPP.apart.1, fun e => hwg (by injection e with e; rw [e]; exact List.mem_cons_of_mem _ (mem_rest.2 (.inr (.inl rfl)))), hPP.apart.2.2⟩ }
    · intro b hb
      rcases List.mem_cons.1 hb with rfl | hb
      · exact HX.out.2.2.2.1 _ (List.mem_cons_self ..)
      rcases mem_rest.1 hb with h | h
      · simp at h; subst h; exact HX.out.2.2.2.2.size
      exact HX.out.2.2.2.1 b (List.mem_cons_of_mem _ (mem_rest.2 (.inr h)))
    exact (HX.out.2.2.2.2.trans_nil HO3.out).setCell (.inl HGN.out) _
end
end Go.Proofs.YtoicjadioiomkaaGreatDoor
