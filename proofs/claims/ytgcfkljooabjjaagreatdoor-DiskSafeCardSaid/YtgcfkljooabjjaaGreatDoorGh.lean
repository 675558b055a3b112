/- Texts of this claim, one behind the other: DMk DLk DNm MvLaw MvC DMv AskOn Light TreeInv TreeKeep TreeKeep2 TreeMove Good. Conditions: what each lemma states. -/
import Derived.Test.YtgcfkljooabjjaaGreatDoorGd
import Derived.Test.YtgcfkljooabjjaaGreatDoorGe
import Derived.Test.YtgcfkljooabjjaaGreatDoorGf
import Derived.Test.YtgcfkljooabjjaaGreatDoorGg
/- A disk's Mkdir: the walk. Conditions: what the contract states. -/
namespace Go.Proofs.YtgcfkljooabjjaaGreatDoor
open Go.RowKit Go.Op Go.Maps

def PDisk.mkdir_ (D : PDisk) (full : Bool) (p : ByteArray) : Int × PDisk := D.lay p ⟨⟨#[]⟩, 2, ⟨#[]⟩, 0⟩ full [PDisk.no p, D.parentE p, D.there p]
def PDisk.mkdir (D : PDisk) (p : ByteArray) : Int × PDisk := D.call ⟨#[77, 107, 100, 105, 114]⟩ p ⟨#[]⟩ fun E full => E.mkdir_ full p
theorem PDisk.mkdir__ok {D : PDisk} {n : Nat} (h : Ok D n) (full : Bool) (p : ByteArray) : Ok (D.mkdir_ full p).2 (n + 1) :=
  PDisk.lay_ok h _ _ _ _ (by intro x hx; simp only [List.mem_cons, List.not_mem_nil, or_false] at hx; rcases hx with rfl | rfl | rfl <;> simp [PDisk.no, PDisk.parentE, PDisk.there]) (by simp)
set_option maxRecDepth 100000 in
set_option maxHeartbeats 16000000 in
theorem dmkdir_call (p n : Nat) (G : Geo) (D : PDisk) (path : ByteArray) (w : World) (h : DS w p G D n) (hn : n ≤ 1000000) (hs : path.size ≤ 9223372036854775807) :
    Calls Tryz.prog 72 #[.pointer (some ⟨p, 0, none⟩), .string path] w fun e w' => e = .returned (.int .i64 (D.mkdir path).1) ∧ DSTo w p G.parts w' (D.mkdir path).2 (n + 2) := by
  have HST := Lib.hid (dstep_one p n G D ⟨#[77, 107, 100, 105, 114]⟩ path w h hn)
  have HS := Lib.hid (show D.mkdir path = match D.step ⟨#[77, 107, 100, 105, 114]⟩ path ⟨#[]⟩ with | (full, e, E) => if e ≠ 0 then (e, E) else E.mkdir_ full path from rfl)
  clear h
  generalize D.step ⟨#[77, 107, 100, 105, 114]⟩ path ⟨#[]⟩ = st at HST HS
  obtain ⟨full, er, E⟩ := st
  have HS := Lib.hid (show D.mkdir path = if er ≠ 0 then (er, E) else E.mkdir_ full path from HS.out)
  go_enter Tryz.func72, Tryz.ntmps72
  go_wp2_with fail
  refine HST.out.mono ?_
  rintro e w1 ⟨rfl, hT⟩
  have HT := Lib.hid hT
  clear hT HST
  by_cases h0 : er = 0
  · subst h0
    have HS2 := Lib.hid (show D.mkdir path = E.mkdir_ full path by rw [HS.out]; simp)
    obtain ⟨G1, h1, ho1, hp1⟩ := HT.out
    have HOP := Lib.hid (And.intro ho1 hp1)
    have H1 := Lib.hid h1
    obtain ⟨x1, hx1⟩ : ∃ x, PDisk.no path = x := ⟨_, rfl⟩
    obtain ⟨x2, hx2⟩ : ∃ x, E.parentE path = x := ⟨_, rfl⟩
    obtain ⟨x3, hx3⟩ : ∃ x, E.there path = x := ⟨_, rfl⟩
    have HNO := Lib.hid (dno_any path w1 h1.tabs.tabs)
    have HPA := Lib.hid (fun (W : World) (ho : Off [] w1 W) => dparent_big p G1 E path W (h1.m.off ho (by simp) (by simp)) hs (fun x => h1.ok.look (by omega) x) (h1.tabs.off ho))
    have HTH := Lib.hid (fun (W : World) (ho : Off [] w1 W) => dthere_any p G1 E path W (h1.m.off ho (by simp) (by simp)) (by unfold maxLen; omega) (h1.ok.look (by omega) path))
    have HX := Lib.hid (show E.mkdir_ full path = E.lay path ⟨⟨#[]⟩, 2, ⟨#[]⟩, 0⟩ full [x1, x2, x3] by unfold PDisk.mkdir_; rw [hx1, hx2, hx3])
    rw [hx1] at HNO
    rw [hx2] at HPA
    rw [hx3] at HTH
    unfold rsn at HNO HPA HTH
    clear HS hx1 hx2 hx3 h1 ho1 hp1
    go_wp2_with fail
    refine HNO.out.mono ?_
    rintro e wa ⟨rfl, hoa⟩
    have HOA := Lib.hid hoa
    clear hoa HNO
    go_wp2_with fail
    refine (HPA.out _ HOA.out).mono ?_
    rintro e wb ⟨rfl, hob⟩
    have HOB := Lib.hid (HOA.out.trans_nil hob)
    clear hob HPA HOA
    go_wp2_with fail
    refine (HTH.out _ HOB.out).mono ?_
    rintro e wc ⟨rfl, hoc⟩
    have HOC := Lib.hid (HOB.out.trans_nil hoc)
    have HOD := Lib.hid ((HOB.out.trans_nil hoc).alloc (.cells (rsnCells [x1, x2, x3]).toArray 111))
    have HD := Lib.hid (H1.out.off HOD.out)
    clear hoc HTH HOB
    go_wp2_with fail
    refine (dlay_any p wc.heap.size 3 G1 E path ⟨⟨#[]⟩, 2, ⟨#[]⟩, 0⟩ full [x1, x2, x3] _ HD.out.m HD.out.sb (rsns_blk wc [x1, x2, x3] _ rfl) rfl (by omega) (by have := HD.out.ok.inos; omega) (by have := HD.out.ok.nlen; omega) (by have := HD.out.ok.llen; omega) (by unfold maxLen; omega)).mono ?_
    rintro e w5 ⟨rfl, hL⟩
    have HL := Lib.hid hL
    clear hL
    go_wp2_with fail
    go_ret
    rw [HS2.out, HX.out]
    refine ⟨rfl, DSTo.step (HOP.out.1.trans_nil HOD.out) HOP.out.2 (HD.out.to (Off.refl _ _) HL.out ?_)⟩
    rw [← HX.out]
    exact PDisk.mkdir__ok HD.out.ok _ _
  · have HS2 := Lib.hid (show D.mkdir path = (er, E) by rw [HS.out, if_pos h0])
    have hne : (er == 0) = false := beq_eq_false_iff_ne.2 h0
    clear h0
    go_wp2_with fail
    go_ret
    rw [HS2.out]
    exact ⟨rfl, HT.out.le (by omega)⟩
end Go.Proofs.YtgcfkljooabjjaaGreatDoor

/- A disk's Link: the walk. Conditions: what the contract states. -/
namespace Go.Proofs.YtgcfkljooabjjaaGreatDoor
open Go.RowKit Go.Op Go.Maps

def linkBad (q : ByteArray) : Bool := decide (q = ⟨#[]⟩) || decide (400 < q.size) || (str q).contains 0
def PDisk.link_ (D : PDisk) (full : Bool) (p q : ByteArray) : Int × PDisk := D.lay p ⟨⟨#[]⟩, 3, q, 0⟩ full [PDisk.no p, (linkBad q, 2), D.parentE p, D.there p]
def PDisk.link (D : PDisk) (p q : ByteArray) : Int × PDisk := D.call ⟨#[76, 105, 110, 107]⟩ p q fun E full => E.link_ full p q
theorem PDisk.link__ok {D : PDisk} {n : Nat} (h : Ok D n) (full : Bool) (p q : ByteArray) : Ok (D.link_ full p q).2 (n + 1) :=
  PDisk.lay_ok h _ _ _ _ (by intro x hx; simp only [List.mem_cons, List.not_mem_nil, or_false] at hx; rcases hx with rfl | rfl | rfl | rfl <;> simp [PDisk.no, PDisk.parentE, PDisk.there]) (by simp)
set_option maxRecDepth 100000 in
set_option maxHeartbeats 16000000 in
theorem dlink_call (p n : Nat) (G : Geo) (D : PDisk) (path q : ByteArray) (w : World) (h : DS w p G D n) (hn : n ≤ 1000000) (hs : path.size ≤ 9223372036854775807) :
    Calls Tryz.prog 73 #[.pointer (some ⟨p, 0, none⟩), .string path, .string q] w fun e w' => e = .returned (.int .i64 (D.link path q).1) ∧ DSTo w p G.parts w' (D.link path q).2 (n + 2) := by
  have HST := Lib.hid (dstep_two p n G D ⟨#[76, 105, 110, 107]⟩ path q w h hn)
  have HS := Lib.hid (show D.link path q = match D.step ⟨#[76, 105, 110, 107]⟩ path q with | (full, e, E) => if e ≠ 0 then (e, E) else E.link_ full path q from rfl)
  clear h
  generalize D.step ⟨#[76, 105, 110, 107]⟩ path q = st at HST HS
  obtain ⟨full, er, E⟩ := st
  have HS := Lib.hid (show D.link path q = if er ≠ 0 then (er, E) else E.link_ full path q from HS.out)
  go_enter Tryz.func73, Tryz.ntmps73
  go_wp2_with fail
  refine HST.out.mono ?_
  rintro e w1 ⟨rfl, hT⟩
  have HT := Lib.hid hT
  clear hT HST
  by_cases h0 : er = 0
  · subst h0
    have HS2 := Lib.hid (show D.link path q = E.link_ full path q by rw [HS.out]; simp)
    obtain ⟨G1, h1, ho1, hp1⟩ := HT.out
    have HOP := Lib.hid (And.intro ho1 hp1)
    have H1 := Lib.hid h1
    obtain ⟨x1, hx1⟩ : ∃ x, PDisk.no path = x := ⟨_, rfl⟩
    obtain ⟨x2, hx2⟩ : ∃ x, E.parentE path = x := ⟨_, rfl⟩
    obtain ⟨x3, hx3⟩ : ∃ x, E.there path = x := ⟨_, rfl⟩
    obtain ⟨b, hb⟩ : ∃ b, linkBad q = b := ⟨_, rfl⟩
    have HB := Lib.hid hb
    have HNO := Lib.hid (dno_any path w1 h1.tabs.tabs)
    have HPA := Lib.hid (fun (W : World) (ho : Off [] w1 W) => dparent_big p G1 E path W (h1.m.off ho (by simp) (by simp)) hs (fun x => h1.ok.look (by omega) x) (h1.tabs.off ho))
    have HTH := Lib.hid (fun (W : World) (ho : Off [] w1 W) => dthere_any p G1 E path W (h1.m.off ho (by simp) (by simp)) (by unfold maxLen; omega) (h1.ok.look (by omega) path))
    have HX := Lib.hid (show E.link_ full path q = E.lay path ⟨⟨#[]⟩, 3, q, 0⟩ full [x1, (b, 2), x2, x3] by unfold PDisk.link_; rw [hx1, hx2, hx3, hb])
    rw [hx1] at HNO
    rw [hx2] at HPA
    rw [hx3] at HTH
    unfold rsn at HNO HPA HTH
    clear HS hx1 hx2 hx3 h1 ho1 hp1 hb
    go_upto_region 4 with fail
    go_cut [9] from 18 to 31 (fun s wx => s = .bool b ∧ wx = w1)
    case first =>
      by_cases hA : q = ⟨#[]⟩
      · have hb2 : b = true := by rw [← HB.out, hA]; rfl
        subst hA
        subst hb2
        clear HB
        go_wp2_with fail
        go_meet
        exact ⟨rfl, rfl⟩
      · obtain ⟨he1, he2⟩ := emp_ne hA
        by_cases hC : 400 < q.size
        · have hb2 : b = true := by rw [← HB.out]; unfold linkBad; rw [decide_eq_true hC]; simp
          have hC1 : (400 : Int) < q.size := by omega
          subst hb2
          clear HB hA hC
          go_wp2_with fail
          go_meet
          exact ⟨rfl, rfl⟩
        · have hb2 : b = (str q).contains 0 := by rw [← HB.out]; unfold linkBad; rw [decide_eq_false hC, decide_eq_false hA]; rfl
          have hC1 : ¬ (400 : Int) < q.size := by omega
          have HCT := Lib.hid (contains0_any q w1)
          rw [← hb2] at HCT
          clear HB hA hC hb2
          go_wp2_with fail
          refine HCT.out.mono ?_
          rintro e w2 ⟨rfl, rfl⟩
          go_wp2_with fail
          go_meet
          exact ⟨rfl, rfl⟩
    case rest =>
    obtain ⟨rfl, rfl⟩ := hcut
    go_wp2_with fail
    refine HNO.out.mono ?_
    rintro e wa ⟨rfl, hoa⟩
    have HOA := Lib.hid hoa
    clear hoa HNO
    go_wp2_with fail
    refine (HPA.out _ HOA.out).mono ?_
    rintro e wb ⟨rfl, hob⟩
    have HOB := Lib.hid (HOA.out.trans_nil hob)
    clear hob HPA HOA
    go_wp2_with fail
    refine (HTH.out _ HOB.out).mono ?_
    rintro e wc ⟨rfl, hoc⟩
    have HOC := Lib.hid (HOB.out.trans_nil hoc)
    have HOD := Lib.hid ((HOB.out.trans_nil hoc).alloc (.cells (rsnCells [x1, (b, 2), x2, x3]).toArray 111))
    have HD := Lib.hid (H1.out.off HOD.out)
    clear hoc HTH HOB
    go_wp2_with fail
    refine (dlay_any p wc.heap.size 4 G1 E path ⟨⟨#[]⟩, 3, q, 0⟩ full [x1, (b, 2), x2, x3] _ HD.out.m HD.out.sb (rsns_blk wc [x1, (b, 2), x2, x3] _ rfl) rfl (by omega) (by have := HD.out.ok.inos; omega) (by have := HD.out.ok.nlen; omega) (by have := HD.out.ok.llen; omega) (by unfold maxLen; omega)).mono ?_
    rintro e w5 ⟨rfl, hL⟩
    have HL := Lib.hid hL
    clear hL
    go_wp2_with fail
    go_ret
    rw [HS2.out, HX.out]
    refine ⟨rfl, DSTo.step (HOP.out.1.trans_nil HOD.out) HOP.out.2 (HD.out.to (Off.refl _ _) HL.out ?_)⟩
    rw [← HX.out]
    exact PDisk.link__ok HD.out.ok _ _ _
  · have HS2 := Lib.hid (show D.link path q = (er, E) by rw [HS.out, if_pos h0])
    have hne : (er == 0) = false := beq_eq_false_iff_ne.2 h0
    clear h0
    go_wp2_with fail
    go_ret
    rw [HS2.out]
    exact ⟨rfl, HT.out.le (by omega)⟩
end Go.Proofs.YtgcfkljooabjjaaGreatDoor

/- A disk's Names: the walk. Conditions: what the contract states. -/
namespace Go.Proofs.YtgcfkljooabjjaaGreatDoor
open Go.RowKit Go.Op Go.Maps

def PDisk.namesOn (D : PDisk) (p : ByteArray) : List ByteArray × Int :=
  let e := if p = ⟨#[]⟩ then 0 else firstE [PDisk.no p, D.gone p]
  if e ≠ 0 then ([], e) else if D.dir p then (namesR D.tree (str p), 0) else ([], 73)
def PDisk.namesC (D : PDisk) (p : ByteArray) : (List ByteArray × Int) × PDisk :=
  match D.step ⟨#[78, 97, 109, 101, 115]⟩ p ⟨#[]⟩ with
  | (_, e, E) => if e ≠ 0 then (([], e), E) else (E.namesOn p, E)
/-- no inode's data is greater than Go's strings are -/
def Light (D : PDisk) : Prop := ∀ m ∈ D.inos, m.node.data.size ≤ maxLen
theorem Light.crash {D : PDisk} (h : Light D) (f : FateP) : Light (D.crash f) := fun m hm => by
  obtain ⟨x, hx, rfl⟩ := List.mem_map.1 (show m ∈ D.inos.map (PDisk.tear f.torn) from hm)
  have := h x hx
  unfold PDisk.tear
  split
  · show (x.node.data.extract 0 _).size ≤ maxLen
    rw [ByteArray.size_extract]
    omega
  · exact this
theorem Light.step {D : PDisk} (h : Light D) (c p q : ByteArray) : Light (D.step c p q).2.2 := by
  unfold PDisk.step
  split
  · exact h
  · dsimp only
    split
    · exact h
    · split
      · exact Light.crash (D := { D with clock := D.clock + 1, trace := D.trace ++ [⟨c, p, q⟩] }) h _
      · split <;> exact h
theorem Light.fits {D : PDisk} {n : Nat} (h : Light D) (hk : Ok D n) : Fits D.tree := fun x hx => by
  unfold PDisk.tree at hx
  obtain ⟨y, hy, hyx⟩ := List.mem_filterMap.1 hx
  obtain ⟨m, hm, rfl⟩ := Option.map_eq_some_iff.1 hyx
  have hy' := sortN_mem.1 hy
  have hin : m ∈ D.inos := by
    unfold PDisk.inode at hm
    split at hm
    · cases hm
    · exact List.mem_of_getElem? hm
  refine ⟨?_, h m hin⟩
  have hh : ∀ l : NameL, y ∈ l → hasN l y.1 = true := fun l => by
    induction l with
    | nil => intro e; cases e
    | cons z l ih =>
      intro e
      rcases List.mem_cons.1 e with rfl | e
      · simp [hasN]
      · simp [hasN, ih e]
  have := ((hk.names y.1).2 (hh _ hy')).2
  show y.1.size ≤ maxLen
  unfold maxLen
  omega
set_option maxRecDepth 100000 in
set_option maxHeartbeats 16000000 in
theorem dnames_call (p n : Nat) (G : Geo) (D : PDisk) (path : ByteArray) (w : World) (h : DS w p G D n) (hn : n ≤ 90000) (hs : path.size ≤ 9223372036854775807) (hF : Light D) :
    Calls Tryz.prog 37 #[.pointer (some ⟨p, 0, none⟩), .string path] w fun e w' => ∃ v wm, e = .returned (.tuple #[v, .int .i64 (D.namesC path).1.2]) ∧ w'.ownsRow wm.heap.size 9 1 v (D.namesC path).1.1.length ((D.namesC path).1.1.map Value.string) ∧ DSTo w p G.parts wm (D.namesC path).2 (n + 1) ∧ Off [] wm w' := by
  have HST := Lib.hid (dstep_one p n G D ⟨#[78, 97, 109, 101, 115]⟩ path w h (by omega))
  have HLI := Lib.hid (hF.step ⟨#[78, 97, 109, 101, 115]⟩ path ⟨#[]⟩)
  have HS := Lib.hid (show D.namesC path = match D.step ⟨#[78, 97, 109, 101, 115]⟩ path ⟨#[]⟩ with | (_, e, E) => if e ≠ 0 then (([], e), E) else (E.namesOn path, E) from rfl)
  clear h hF
  generalize D.step ⟨#[78, 97, 109, 101, 115]⟩ path ⟨#[]⟩ = st at HST HS HLI
  obtain ⟨full, er, E⟩ := st
  have HS := Lib.hid (show D.namesC path = if er ≠ 0 then (([], er), E) else (E.namesOn path, E) from HS.out)
  have HLI := Lib.hid (show Light E from HLI.out)
  have hres : Tryz.f37.results = #[.tmp 4, .tmp 5] := rfl
  go_enter Tryz.func37, Tryz.ntmps37
  go_wp2_with fail
  refine HST.out.mono ?_
  rintro e w1 ⟨rfl, hT⟩
  have HT := Lib.hid hT
  clear hT HST
  by_cases h0 : er = 0
  · subst h0
    obtain ⟨G1, h1, ho1, hp1⟩ := HT.out
    have H1 := Lib.hid h1
    have HDI := Lib.hid (fun (W : World) (ho : Off [] w1 W) (v : Bool) (hv : E.dir path = v) => ddir_v p G1 E path W (h1.m.off ho (by simp) (by simp)) (by unfold maxLen; omega) (h1.ok.look (by omega) path) v hv)
    have HTR := Lib.hid (fun (W : World) (ho : Off [] w1 W) => dtree_call p (n + 1) G1 E W (h1.off ho) (by omega))
    have HFI := Lib.hid (HLI.out.fits h1.ok)
    have HNM := Lib.hid (fun (W : World) (ho : Off [] w1 W) (q : Option Addr) (m c : Nat) (hm : E.tree.length = m) (hmc : m ≤ c) (hb : m ≤ maxLen) (hr : Row W q E.tree) => names_any q E.tree m c path W hr hm hmc hb HFI.out (by unfold maxLen; omega) (h1.tabs.off ho))
    have HTL := Lib.hid (show E.tree.length ≤ 1000000 by
      have h5 := h1.ok.tree h1.m.parts.names.1
      rw [h5, List.length_map, sortN_len]
      have := h1.ok.nlen
      omega)
    by_cases hp : path = ⟨#[]⟩
    · have HS2 := Lib.hid (show D.namesC path = (if E.dir path then (namesR E.tree (str path), 0) else ([], 73), E) by
        rw [HS.out]; unfold PDisk.namesOn; rw [if_pos hp]; simp)
      have hoo : Off [] w1 w1 := Off.refl _ _
      have HOO := Lib.hid hoo
      clear HS h1 ho1 hp1 hoo
      have hpe : path.toList.isEmpty = true := by rw [hp, Lib.toList_data]; rfl
      have hpe2 : path.toList = [] := by rw [hp, Lib.toList_data]
      clear hp
      go_upto_region 8 with fail
      by_cases hd : E.dir path = true
      · have HDD := Lib.hid (HDI.out _ HOO.out true hd)
        have HF := Lib.hid (show D.namesC path = ((namesR E.tree (str path), 0), E) by rw [HS2.out, hd]; rfl)
        clear hd HDI HS2
        go_wp2_with fail
        refine HDD.out.mono ?_
        rintro e wb ⟨rfl, hob⟩
        have HOB := Lib.hid (HOO.out.trans_nil hob)
        clear hob HDD
        go_wp2_with fail
        refine (HTR.out _ HOB.out).mono ?_
        rintro e wc ⟨v, rfl, hrow, hoc⟩
        have HOC := Lib.hid (HOB.out.trans_nil hoc)
        obtain ⟨m, hm⟩ : ∃ m, E.tree.length = m := ⟨_, rfl⟩
        obtain ⟨q, c, hv, hr, hc, -⟩ := own_row hrow
        rw [hm] at hv hc
        subst hv
        have HNN := Lib.hid (HNM.out wc HOC.out q m c hm hc (by have := HTL.out; unfold maxLen; omega) hr)
        clear hrow hoc hr HNM HTR hm
        go_wp2_with fail
        refine HNN.out.mono ?_
        rintro e wd ⟨u, rfl, hown, hod⟩
        have HOW := Lib.hid hown
        have HOD := Lib.hid hod
        clear hown hod HNN
        go_wp2_with fail
        refine bodyPost_ret (v := .tuple #[u, .int .i64 0]) ?_ rfl ?_
        · simp only [results, hres]
          go_simp
        · rw [HF.out]
          exact ⟨u, wc, rfl, HOW.out, HT.out.off HOC.out, HOD.out⟩
      · have hd : E.dir path = false := by simpa using hd
        have HDD := Lib.hid (HDI.out _ HOO.out false hd)
        have HF := Lib.hid (show D.namesC path = (([], 73), E) by rw [HS2.out, hd]; rfl)
        clear hd HDI HS2
        go_wp2_with fail
        refine HDD.out.mono ?_
        rintro e wb ⟨rfl, hob⟩
        have HOB := Lib.hid (HOO.out.trans_nil hob)
        clear hob HDD
        go_wp2_with fail
        refine bodyPost_ret (v := .tuple #[.slice none 0 0, .int .i64 73]) ?_ rfl ?_
        · simp only [results, hres]
          go_simp
        · rw [HF.out]
          exact ⟨_, wb, rfl, ⟨rfl, .inl ⟨rfl, rfl⟩⟩, HT.out.off HOB.out, Off.refl _ _⟩
    · obtain ⟨hpe1, hpe2⟩ := emp_ne hp
      obtain ⟨x1, hx1⟩ : ∃ x, PDisk.no path = x := ⟨_, rfl⟩
      obtain ⟨x2, hx2⟩ : ∃ x, E.gone path = x := ⟨_, rfl⟩
      have hno := dno_any path w1 h1.tabs.tabs
      have hgo := fun (W : World) (ho : Off [] w1 W) => dgone_any p G1 E path W (h1.m.off ho (by simp) (by simp)) (by unfold maxLen; omega) (h1.ok.look (by omega) path)
      rw [hx1] at hno
      rw [hx2] at hgo
      unfold rsn at hno hgo
      have HNO := Lib.hid hno
      have HGO := Lib.hid hgo
      have HS2 := Lib.hid (show D.namesC path = (if firstE [x1, x2] ≠ 0 then ([], firstE [x1, x2]) else if E.dir path then (namesR E.tree (str path), 0) else ([], 73), E) by
        rw [HS.out]; unfold PDisk.namesOn; rw [if_neg hp, hx1, hx2]; simp)
      clear HS h1 ho1 hp1 hx1 hx2 hno hgo hp
      go_wp2_with fail
      refine HNO.out.mono ?_
      rintro e w2 ⟨rfl, ho2⟩
      have HO2 := Lib.hid ho2
      clear ho2 HNO
      go_wp2_with fail
      refine (HGO.out _ HO2.out).mono ?_
      rintro e w3 ⟨rfl, ho3⟩
      have HO3 := Lib.hid ((HO2.out.trans_nil ho3).alloc (.cells (rsnCells [x1, x2]).toArray 111))
      clear ho3 HGO HO2
      go_wp2_with fail
      refine (dfirst_any w3.heap.size 2 2 [x1, x2] _ (rsns_new w3 [x1, x2] _ rfl) rfl (by omega)).mono ?_
      rintro e w4 ⟨rfl, ho4⟩
      have HOO := Lib.hid (HO3.out.trans_nil ho4)
      clear ho4 HO3
      by_cases hv0 : firstE [x1, x2] = 0
      · have HS3 := Lib.hid (show D.namesC path = (if E.dir path then (namesR E.tree (str path), 0) else ([], 73), E) by rw [HS2.out, hv0]; simp)
        have HS2 := HS3
        rw [hv0]
        clear hv0 HS3
        go_upto_region 8 with fail
        by_cases hd : E.dir path = true
        · have HDD := Lib.hid (HDI.out _ HOO.out true hd)
          have HF := Lib.hid (show D.namesC path = ((namesR E.tree (str path), 0), E) by rw [HS2.out, hd]; rfl)
          clear hd HDI HS2
          go_wp2_with fail
          refine HDD.out.mono ?_
          rintro e wb ⟨rfl, hob⟩
          have HOB := Lib.hid (HOO.out.trans_nil hob)
          clear hob HDD
          go_wp2_with fail
          refine (HTR.out _ HOB.out).mono ?_
          rintro e wc ⟨v, rfl, hrow, hoc⟩
          have HOC := Lib.hid (HOB.out.trans_nil hoc)
          obtain ⟨m, hm⟩ : ∃ m, E.tree.length = m := ⟨_, rfl⟩
          obtain ⟨q, c, hv, hr, hc, -⟩ := own_row hrow
          rw [hm] at hv hc
          subst hv
          have HNN := Lib.hid (HNM.out wc HOC.out q m c hm hc (by have := HTL.out; unfold maxLen; omega) hr)
          clear hrow hoc hr HNM HTR hm
          go_wp2_with fail
          refine HNN.out.mono ?_
          rintro e wd ⟨u, rfl, hown, hod⟩
          have HOW := Lib.hid hown
          have HOD := Lib.hid hod
          clear hown hod HNN
          go_wp2_with fail
          refine bodyPost_ret (v := .tuple #[u, .int .i64 0]) ?_ rfl ?_
          · simp only [results, hres]
            go_simp
          · rw [HF.out]
            exact ⟨u, wc, rfl, HOW.out, HT.out.off HOC.out, HOD.out⟩
        · have hd : E.dir path = false := by simpa using hd
          have HDD := Lib.hid (HDI.out _ HOO.out false hd)
          have HF := Lib.hid (show D.namesC path = (([], 73), E) by rw [HS2.out, hd]; rfl)
          clear hd HDI HS2
          go_wp2_with fail
          refine HDD.out.mono ?_
          rintro e wb ⟨rfl, hob⟩
          have HOB := Lib.hid (HOO.out.trans_nil hob)
          clear hob HDD
          go_wp2_with fail
          refine bodyPost_ret (v := .tuple #[.slice none 0 0, .int .i64 73]) ?_ rfl ?_
          · simp only [results, hres]
            go_simp
          · rw [HF.out]
            exact ⟨_, wb, rfl, ⟨rfl, .inl ⟨rfl, rfl⟩⟩, HT.out.off HOB.out, Off.refl _ _⟩
      · obtain ⟨ee, hee⟩ : ∃ ee, firstE [x1, x2] = ee := ⟨_, rfl⟩
        have HF := Lib.hid (show D.namesC path = (([], ee), E) by rw [HS2.out, if_pos hv0, hee])
        rw [hee]
        have hne : (ee == 0) = false := beq_eq_false_iff_ne.2 (by rw [← hee]; exact hv0)
        clear hv0 hee HS2
        go_wp2_with fail
        refine bodyPost_ret (v := .tuple #[.slice none 0 0, .int .i64 ee]) ?_ rfl ?_
        · simp only [results, hres]
          go_simp
        · rw [HF.out]
          exact ⟨_, w4, rfl, ⟨rfl, .inl ⟨rfl, rfl⟩⟩, HT.out.off HOO.out, Off.refl _ _⟩
  · have HS2 := Lib.hid (show D.namesC path = (([], er), E) by rw [HS.out, if_pos h0])
    have hne : (er == 0) = false := beq_eq_false_iff_ne.2 h0
    clear h0
    go_wp2_with fail
    refine bodyPost_ret (v := .tuple #[.slice none 0 0, .int .i64 er]) ?_ rfl ?_
    · simp only [results, hres]
      go_simp
    · rw [HS2.out]
      exact ⟨_, w1, rfl, ⟨rfl, .inl ⟨rfl, rfl⟩⟩, HT.out, Off.refl _ _⟩
end Go.Proofs.YtgcfkljooabjjaaGreatDoor

/- Names that are moved: the plain law. Conditions: none beyond what each lemma states. -/
namespace Go.Proofs.YtgcfkljooabjjaaGreatDoor
open Go.RowKit Go.Op Go.Maps

def mvP (p q x : ByteArray) : ByteArray := q ++ x.extract p.size x.size
def mvN (p q : ByteArray) (x : ByteArray × Nat) : ByteArray × Nat := if within (str x.1) (str p) then (mvP p q x.1, x.2) else x
def mvF (p q : ByteArray) (left : Lit → Bool) (x : ByteArray × Nat) : ByteArray × Nat := if left (strL x.1) then x else mvN p q x
def mvL (p q : ByteArray) (l : NameL) (left : Lit → Bool) : NameL := l.map (mvF p q left)
/-- no name is there that a moved one would take -/
def Free (p q : ByteArray) (l : NameL) : Prop := ∀ x ∈ l, within (str x.1) (str p) = true → hasN l (mvP p q x.1) = false
theorem hasN_perm {l m : NameL} (h : l.Perm m) (z : ByteArray) : hasN l z = hasN m z := by
  rw [Bool.eq_iff_iff, hasN_iff, hasN_iff]
  exact ⟨fun ⟨x, hx, e⟩ => ⟨x, h.mem_iff.1 hx, e⟩, fun ⟨x, hx, e⟩ => ⟨x, h.mem_iff.2 hx, e⟩⟩
theorem Apart.perm {l m : NameL} (h : l.Perm m) (ha : Apart l) : Apart m := by
  rw [apart_iff] at ha ⊢
  exact (h.map _).nodup_iff.1 ha
theorem lookN_perm {l m : NameL} (h : l.Perm m) (ha : Apart l) (z : ByteArray) : lookN l z = lookN m z := by
  cases hz : hasN l z
  · rw [lookN_of_not hz, lookN_of_not (by rw [← hasN_perm h]; exact hz)]
  · obtain ⟨x, hx, rfl⟩ := (hasN_iff l z).1 hz
    rw [lookN_mem ha hx, lookN_mem (ha.perm h) (h.mem_iff.1 hx)]
theorem NMat.perm {w : World} {b : Nat} {l m : NameL} (h : NMat w b l) (hp : l.Perm m) : NMat w b m := by
  obtain ⟨ha, D, hD, hs, hr⟩ := h
  refine ⟨ha.perm hp, D, ?_, ?_, fun z => ?_⟩
  · rw [← hp.length_eq]; exact hD
  · rw [← hp.length_eq]; exact hs
  · rw [← hasN_perm hp, ← lookN_perm hp ha]; exact hr z
theorem mvP_inj {p q x y : ByteArray} (hp : okPath (str p) = true) (hx : within (str x) (str p) = true) (hy : within (str y) (str p) = true) (h : mvP p q x = mvP p q y) : x = y := by
  have key : ∀ z : ByteArray, within (str z) (str p) = true → str z = str p ++ str (z.extract p.size z.size) := fun z hz => by
    have hzk : okPath (str z) = true := by
      unfold within at hz
      simp only [Bool.and_eq_true] at hz
      exact hz.1
    have e : str (z.extract p.size z.size) = (str z).drop (str p).length := by
      rw [str_extract, str_size, ← str_size z]
      exact List.take_of_length_le (by rw [List.length_drop]; exact Nat.le_refl _)
    rw [e]
    rcases (within_iff hzk hp).1 hz with h | ⟨s, h⟩
    · rw [h]; simp
    · rw [h]; simp
  apply str_inj
  rw [key x hx, key y hy]
  have h2 : str q ++ str (x.extract p.size x.size) = str q ++ str (y.extract p.size y.size) := by
    rw [← str_append, ← str_append]
    exact congrArg str h
  rw [List.append_cancel_left h2]
/-- one name more is moved -/
theorem mv_step {p q : ByteArray} {l : NameL} {left : Lit → Bool} {x : ByteArray} {i : Nat} (ha : Apart l) (hp : okPath (str p) = true) (hf : Free p q l) (hx : (x, i) ∈ l) (hl : left (strL x) = true) (hw : within (str x) (str p) = true) :
    (putN (delN (mvL p q l left) x) (mvP p q x) i).Perm (mvL p q l fun z => left z && !z.sameKey (strL x)) := by
  obtain ⟨a, b, rfl⟩ := List.append_of_mem hx
  have hne : ∀ y ∈ a ++ b, y.1 ≠ x := by
    unfold Apart at ha
    rw [List.pairwise_append] at ha
    obtain ⟨_, h2, h3⟩ := ha
    intro y hy
    rcases List.mem_append.1 hy with hy | hy
    · exact h3 y hy (x, i) (List.mem_cons_self ..)
    · exact fun e => (List.pairwise_cons.1 h2).1 y hy e.symm
  have hmem : ∀ y ∈ a ++ b, y ∈ a ++ (x, i) :: b := fun y hy => by
    rcases List.mem_append.1 hy with hy | hy
    · exact List.mem_append_left _ hy
    · exact List.mem_append_right _ (List.mem_cons_of_mem _ hy)
  have hno : ∀ y z, y ∈ a ++ (x, i) :: b → within (str y.1) (str p) = true → z ∈ a ++ (x, i) :: b → mvP p q y.1 ≠ z.1 := fun y z hy hyw hz e => by
    have := hf y hy hyw
    rw [show hasN (a ++ (x, i) :: b) (mvP p q y.1) = true from (hasN_iff _ _).2 ⟨z, hz, e.symm⟩] at this
    cases this
  have hfst : ∀ y ∈ a ++ b, (mvF p q left y).1 ≠ x := fun y hy => by
    unfold mvF mvN
    split
    · exact hne y hy
    · split
      · rename_i h; exact hno y (x, i) (hmem y hy) h hx
      · exact hne y hy
  have hfst2 : ∀ y ∈ a ++ b, (mvF p q left y).1 ≠ mvP p q x := fun y hy => by
    unfold mvF mvN
    split
    · exact (hno (x, i) y hx hw (hmem y hy)).symm
    · split
      · rename_i h
        exact fun e => hne y hy (mvP_inj hp h hw e)
      · exact (hno (x, i) y hx hw (hmem y hy)).symm
  have hfx : mvF p q left (x, i) = (x, i) := by unfold mvF; rw [if_pos hl]
  have h1 : delN (mvL p q (a ++ (x, i) :: b) left) x = (a ++ b).map (mvF p q left) := by
    unfold mvL delN
    rw [List.map_append, List.map_cons, hfx, List.filter_append, List.filter_cons_of_neg (by simp), ← List.filter_append, ← List.map_append]
    refine List.filter_eq_self.2 fun y hy => ?_
    obtain ⟨z, hz, rfl⟩ := List.mem_map.1 hy
    simpa using hfst z hz
  have h2 : putN (delN (mvL p q (a ++ (x, i) :: b) left) x) (mvP p q x) i = (a ++ b).map (mvF p q left) ++ [(mvP p q x, i)] := by
    rw [h1]
    unfold putN
    rw [if_neg (fun h => by
      obtain ⟨y, hy, e⟩ := (hasN_iff _ _).1 h
      obtain ⟨z, hz, rfl⟩ := List.mem_map.1 hy
      exact hfst2 z hz e)]
  have h3 : ∀ y ∈ a ++ b, mvF p q (fun z => left z && !z.sameKey (strL x)) y = mvF p q left y := fun y hy => by
    have e1 : (left (strL y.1) && !(strL y.1).sameKey (strL x)) = left (strL y.1) := by
      rw [sameKey_ne (fun e => hne y hy (strL_inj e))]
      simp
    unfold mvF
    simp only [e1]
  have h4 : mvF p q (fun z => left z && !z.sameKey (strL x)) (x, i) = (mvP p q x, i) := by
    have e1 : (left (strL x) && !(strL x).sameKey (strL x)) = false := by
      rw [WideAt.sameKey_self (isKey_str x)]
      simp
    unfold mvF mvN
    simp only [e1, hw]
    rfl
  rw [h2]
  unfold mvL
  rw [List.map_append, List.map_append, List.map_cons, h4, List.map_congr_left (f := mvF p q fun z => left z && !z.sameKey (strL x)) (g := mvF p q left) (fun y hy => h3 y (List.mem_append_left _ hy)), List.map_congr_left (l := b) (f := mvF p q fun z => left z && !z.sameKey (strL x)) (g := mvF p q left) (fun y hy => h3 y (List.mem_append_right _ hy)), List.append_assoc]
  exact List.Perm.append_left _ (List.perm_append_comm (l₁ := b.map (mvF p q left)) (l₂ := [(mvP p q x, i)]))
/-- a name that stays -/
theorem mv_skip {p q : ByteArray} {l : NameL} {left : Lit → Bool} {x : ByteArray} (hw : within (str x) (str p) = false) : mvL p q l (fun z => left z && !z.sameKey (strL x)) = mvL p q l left := by
  unfold mvL
  refine List.map_congr_left fun y hy => ?_
  by_cases e : y.1 = x
  · unfold mvF mvN
    rw [e, hw]
    simp
  · have e1 : (left (strL y.1) && !(strL y.1).sameKey (strL x)) = left (strL y.1) := by
      rw [sameKey_ne (fun h => e (strL_inj h))]
      simp
    unfold mvF
    simp only [e1]
theorem mv_start {p q : ByteArray} {l : NameL} {left : Lit → Bool} (h : ∀ x ∈ l, left (strL x.1) = true) : mvL p q l left = l := by
  unfold mvL
  conv => rhs; rw [← List.map_id l]
  exact List.map_congr_left fun y hy => by unfold mvF; rw [if_pos (h y hy)]; rfl
theorem mv_done {p q : ByteArray} {l : NameL} {left : Lit → Bool} (h : ∀ z, left z = false) : mvL p q l left = l.map (mvN p q) := by
  unfold mvL
  exact List.map_congr_left fun y hy => by unfold mvF; rw [h]; rfl
end Go.Proofs.YtgcfkljooabjjaaGreatDoor

/- The closure of a disk's Move: the walk. Conditions: what the contract states. -/
namespace Go.Proofs.YtgcfkljooabjjaaGreatDoor
open Go.RowKit Go.Op Go.Maps

theorem MOVEN : ∀ args w, (callFunc 109 args).run Tryz.prog w = .ok (.enter 109 args) w := enters_of Tryz.func109 (by kernel_rfl) rfl
theorem within_size {x p : ByteArray} (h : within (str x) (str p) = true) (hp : okPath (str p) = true) : p.size ≤ x.size := by
  have hk : okPath (str x) = true := by
    unfold within at h
    simp only [Bool.and_eq_true] at h
    exact h.1
  rw [← str_size p, ← str_size x]
  rcases (within_iff hk hp).1 h with e | ⟨s, e⟩
  · rw [e]; exact Nat.le_refl _
  · rw [e, List.length_append]; omega
set_option maxRecDepth 100000 in
set_option maxHeartbeats 16000000 in
theorem movc_any (p m gp gq : Nat) (G : Geo) (D : PDisk) (path q : ByteArray) (W : World) (hM : DiskM W p { G with nb := m } D) (hm : m ∉ G.rest) (hn : D.names.length ≤ 1000000000) (hp : okPath (str path) = true) (hf : Free path q D.names) (hsz : ∀ x ∈ D.names, x.1.size ≤ 400 ∧ x.2 ≤ 4611686018427387904) (hq : q.size ≤ 400)
    (hbp : Blk W gp 9 #[.string path]) (hbq : Blk W gq 9 #[.string q]) (hT : ∀ W', Off [m] W W' → Tabs W') :
    Calls Tryz.prog 109 #[.map (some m), .pointer (some ⟨gp, 0, none⟩), .pointer (some ⟨gq, 0, none⟩)] W
      (TurnP p m G { D with names := D.names.map (mvN path q) } W) := by
  have HCL := Lib.hid (mclone_any m D.names W hM.parts.names)
  have HNM := Lib.hid hM.parts.names
  have ha := hM.parts.names.1
  have HA := Lib.hid ha
  have HM := Lib.hid hM
  have HMM := Lib.hid hm
  have HP := Lib.hid hp
  have HF := Lib.hid hf
  have HSZ := Lib.hid hsz
  have HT := Lib.hid hT
  have HBP := Lib.hid hbp
  have HBQ := Lib.hid hbq
  have hmb := hM.parts.names.isMap
  have HNE := Lib.hid (show gp ≠ m ∧ gq ≠ m ∧ m < W.heap.size from ⟨fun e => hmb.ne hbp e.symm, fun e => hmb.ne hbq e.symm, hM.parts.names.lt⟩)
  clear hM hm hp hf hsz hT hbp hbq hmb ha
  go_enter Tryz.func109, Tryz.ntmps109
  go_wp2_with fail
  refine HCL.out.mono ?_
  rintro e w1 ⟨rfl, hN1, ho1⟩
  have HO1 := Lib.hid ho1
  have HN0 := Lib.hid (HNM.out.off ho1 (by simp))
  have HLT := Lib.hid hN1.lt
  obtain ⟨-, Dm, hDm, hs, hr⟩ := hN1
  have HR := Lib.hid hr
  obtain ⟨cb, hcb⟩ : ∃ cb, W.heap.size = cb := ⟨_, rfl⟩
  obtain ⟨nl, hnl⟩ : ∃ nl, D.names.length = nl := ⟨_, rfl⟩
  rw [hcb] at hDm HLT ⊢
  rw [hnl] at hDm
  have HCB := Lib.hid (show m < cb by rw [← hcb]; exact HNE.out.2.2)
  clear hs hr ho1 HCL hnl hcb
  go_wp2_with (at_range; refine wpList_range_own _ rfl _ 95 rfl 9 3 strK Tryz.underlying95 (plainElem Tryz.prog 3) cb nl Dm rfl hDm ?_; intro w3 hrg hg3 hs3)
  have HO3 := Lib.hid (show Off [] w1 w3 from (Off.refl [] w1).grown hg3 (fun k hk => by cases hk))
  have hst : NMat w3 m (mvL path q D.names (has Dm)) := by
    rw [mv_start (fun x hx => by rw [(HR.out x.1).1]; exact (hasN_iff _ _).2 ⟨x, hx, rfl⟩)]
    exact HN0.out.off HO3.out (by simp)
  have HST := Lib.hid hst
  have HIT := Lib.hid (show cb < w1.heap.size from HLT.out)
  clear hg3 hs3 hDm hst
  go_frame
  go_loopw [4] (fun _ wr => ∃ left cnt, wr.ranges Tryz.prog 9 (plainElem Tryz.prog 3) cb w1.heap.size nl Dm left cnt ∧ Off [m, w1.heap.size] w3 wr ∧ Hid (NMat wr m (mvL path q D.names left))) (fun _ wr => wr.rangeLeft cb w1.heap.size)
  case atStart => exact ⟨_, _, hrg, Off.refl _ _, HST⟩
  case round =>
    clear hrg HST
    obtain ⟨left, cnt, hrel, ho, HI⟩ := hrel
    have HO := Lib.hid ho
    clear ho
    go_wp2_with (at_next; refine wpList_next_ranges _ rfl _ rfl 9 strK (plainElem Tryz.prog 3) Value.string (Value.int .i64) (fun _ _ h => name_shape h) (fun _ _ h => num_shape h) cb w1.heap.size nl Dm _ _ rfl hrel ?_ ?_)
    · intro hc0 hl0
      have hN := HI.out
      rw [mv_done hl0] at hN
      have HN := Lib.hid hN
      clear hN hl0 hc0 hrel HI
      go_wp2_with fail
      refine bodyPost_end (results_none rfl _ _ _) rfl ?_
      refine turn_names HM.out HMM.out HN.out ?_
      have h1 := HO1.out.trans_nil HO3.out
      refine (h1.mono (fun _ _ h => by simp at h)).trans HO.out (fun x hx hm => ?_)
      simp at hm ⊢
      rcases hm with h | h
      · exact h
      · have := HO1.out.size; omega
    · intro x c kl yd yp w4 cnt1 hkey hlk hy hat hrg1 hlt1 hg1 hs1 hen
      obtain ⟨rfl, hhas⟩ := name_came (fun p => (HR.out p).1) hkey hat
      obtain ⟨c', e1, e2, -⟩ := plainElem_int_inv Tryz.underlying3 hy
      have hcl : c = (lookN D.names x : Int) := by
        have h1 := hat (.lit (.int .i64 0))
        rw [(HR.out x).2] at h1
        cases e1
        cases e2
        cases h1
        rfl
      clear e1 e2
      subst hcl
      obtain ⟨⟨x0, i⟩, hxi, rfl⟩ := (hasN_iff _ _).1 hhas
      have hlook : lookN D.names x0 = i := lookN_mem HA.out hxi
      change (Instr.entry (.pointer (some ⟨w1.heap.size, 0, none⟩))).run Tryz.prog w4 = .ok (.tuple #[.string x0, .int .i64 (lookN D.names x0)]) w4 at hen
      rw [hlook] at hen
      replace hlk : left (strL x0) = true := hlk
      replace hrg1 : w4.ranges Tryz.prog 9 (plainElem Tryz.prog 3) cb w1.heap.size nl Dm (fun z => left z && !z.sameKey (strL x0)) cnt1 := hrg1
      have HOW := Lib.hid (show Off [] W w3 from HO1.out.trans_nil HO3.out)
      have HWS := Lib.hid (show W.heap.size ≤ w1.heap.size from HO1.out.size)
      have ho4 : Off [m, w1.heap.size] w3 w4 := HO.out.grown hg1 (fun k hk => by cases hk; exact .inr (by simp))
      have HO4 := Lib.hid ho4
      have HK := Lib.hid (show ∀ w', Off [m, w1.heap.size] w3 w' → Off [m] W w' from fun w' h => (HOW.out.mono (fun _ _ h => by simp at h)).trans h (fun x hx hm => by
        simp at hm ⊢
        rcases hm with h | h
        · exact h
        · have := HWS.out; omega))
      have HN4 := Lib.hid (HI.out.kept hg1 (by
        intro e
        injection e with e
        have := HCB.out
        have := HIT.out
        omega))
      have HLE := Lib.hid (show w4.rangeLeft cb w1.heap.size < wr.rangeLeft cb w1.heap.size by rw [hrg1.left_eq, hrel.left_eq]; exact hlt1)
      have HRG := Lib.hid hrg1
      have HX := Lib.hid hxi
      have HLK := Lib.hid hlk
      have HBP4 := Lib.hid (HBP.out.off (HK.out _ ho4) (by have := HNE.out.1; simpa using this))
      have HBQ4 := Lib.hid (HBQ.out.off (HK.out _ ho4) (by have := HNE.out.2.1; simpa using this))
      have hcp := HBP4.out.cell
      have HWI := Lib.hid (nwithin_any x0 path w4 (HT.out _ (HK.out _ ho4)))
      have FIN := Lib.hid (show ∀ w5, Off [m] w4 w5 → Hid (NMat w5 m (mvL path q D.names fun z => left z && !z.sameKey (strL x0))) → (∃ left cnt, w5.ranges Tryz.prog 9 (plainElem Tryz.prog 3) cb w1.heap.size nl Dm left cnt ∧ Off [m, w1.heap.size] w3 w5 ∧ Hid (NMat w5 m (mvL path q D.names left))) ∧ w5.rangeLeft cb w1.heap.size < wr.rangeLeft cb w1.heap.size from fun w5 ho5 hN5 => by
        have hg5 : w4.grownBy w5 (some m) := ⟨ho5.os, ho5.tape, ho5.output, ho5.size, fun i hi hne => ho5.block i hi (by simp; intro e; exact hne (by rw [e]))⟩
        have hr5 := HRG.out.kept hg5 (by intro e; injection e with e; have := HCB.out; omega) (by intro e; injection e with e; have := HCB.out; have := HIT.out; omega)
        refine ⟨⟨_, _, hr5, HO4.out.trans ho5 (fun x hx hm => by simp at hm ⊢; exact .inl hm), hN5⟩, ?_⟩
        have := HLE.out
        rw [HRG.out.left_eq] at this
        rw [hr5.left_eq]
        exact this)
      clear hkey hlk hy hat hrg1 hlt1 hg1 hs1 hrel ho4 hhas hxi hlook HI HO
      obtain ⟨v, hv⟩ : ∃ v, within (str x0) (str path) = v := ⟨_, rfl⟩
      rw [hv] at HWI
      cases v
      · have HV := Lib.hid hv
        clear hv
        go_wp2_with fail
        refine HWI.out.mono ?_
        rintro e w5 ⟨rfl, ho5⟩
        have HO5 := Lib.hid ho5
        clear ho5 hen
        go_wp2_with fail
        exact FIN.out w5 (HO5.out.mono (fun _ _ h => by simp at h)) (Lib.hid (by rw [mv_skip HV.out]; exact HN4.out.off HO5.out (by simp)))
      · have HV := Lib.hid hv
        have hxs : path.size ≤ x0.size := within_size hv HP.out
        clear hv
        go_wp2_with fail
        refine HWI.out.mono ?_
        rintro e w5 ⟨rfl, ho5⟩
        have HO5 := Lib.hid ho5
        obtain ⟨w6, h6, hN6, hg6⟩ := (HN4.out.off ho5 (by simp)).rem x0 (by have := (HSZ.out _ HX.out).1; unfold maxLen; dsimp only at this; omega) 0
        have HN6 := Lib.hid hN6
        have HO6 := Lib.hid ((Off.refl [m] w5).grown hg6 (fun k hk => by cases hk; exact .inr (by simp)))
        clear ho5 hen hcp hN6 hg6
        go_upto_region 5 with fail
        obtain ⟨w7, h7, hN7, hg7⟩ := (show NMat w6.drew m _ from HN6.out.off ((Off.refl [] w6).drew) (by simp)).add (by
          have h1 := length_delN_le (mvL path q D.names left) x0
          have h2 : (mvL path q D.names left).length = D.names.length := by unfold mvL; rw [List.length_map]
          omega) (q ++ x0.extract path.size x0.size) (by
          rw [ByteArray.size_append, ByteArray.size_extract]
          have := (HSZ.out _ HX.out).1
          dsimp only at this
          unfold maxLen
          omega) (i : Int) i rfl (HSZ.out _ HX.out).2
        have HN7 := Lib.hid hN7
        have HO7 := Lib.hid ((Off.refl [m] w6.drew).grown hg7 (fun k hk => by cases hk; exact .inr (by simp)))
        have HB6 := (HBP4.out.off HO5.out (by simp)).off HO6.out (by have := HNE.out.1; simpa using this)
        have HQ6 := (HBQ4.out.off HO5.out (by simp)).off HO6.out (by have := HNE.out.2.1; simpa using this)
        have hcp := HB6.cell
        have hcq := HQ6.cell
        have hxi1 : (path.size : Int) ≤ x0.size := by omega
        have hxi0 : (0 : Int) ≤ path.size := by omega
        have hx4 : ¬ 9223372036854775807 < q.size + (x0.size - path.size) := by
          have := (HSZ.out _ HX.out).1
          dsimp only at this
          omega
        clear HB6 HQ6 h6 hN7 hg7
        go_region
        clear h7 hcp hcq
        go_wp2_with fail
        refine FIN.out w7 (((HO5.out.mono (fun _ _ h => by simp at h)).trans HO6.out (fun _ _ h => h)).trans ((Off.refl [m] w6).drew.trans HO7.out (fun _ _ h => h)) (fun _ _ h => h)) (Lib.hid (HN7.out.perm ?_))
        exact mv_step HA.out HP.out HF.out HX.out HLK.out HV.out
end Go.Proofs.YtgcfkljooabjjaaGreatDoor

/- A disk's Move: the walk. Conditions: what the contract states. -/
namespace Go.Proofs.YtgcfkljooabjjaaGreatDoor
open Go.RowKit Go.Op Go.Maps

/-- a name that would be no path -/
def badP (p q x : ByteArray) : Bool := within (str x) (str p) && !okPath (str (mvP p q x))
def PDisk.badMv (D : PDisk) (p q : ByteArray) : Bool := D.names.any fun x => badP p q x.1
def PDisk.mvE (D : PDisk) (p q : ByteArray) : List (Bool × Int) := [PDisk.no p, PDisk.no q, (within (str q) (str p), 2), D.gone p, D.there q, D.parentE q]
def PDisk.move_ (D : PDisk) (p q : ByteArray) : Int × PDisk :=
  let e := firstE (D.mvE p q)
  if e ≠ 0 then (e, D) else if D.badMv p q then (11, D) else (0, D.change (D.names.map (mvN p q)))
def PDisk.move (D : PDisk) (p q : ByteArray) : Int × PDisk := D.call ⟨#[77, 111, 118, 101]⟩ p q fun E _ => E.move_ p q
theorem lookN_some {l : NameL} {z : ByteArray} (h : hasN l z = true) : ∃ y ∈ l, y.1 = z ∧ lookN l z = y.2 := by
  induction l with
  | nil => simp [hasN] at h
  | cons x l ih =>
    unfold lookN
    by_cases e : x.1 = z
    · exact ⟨x, List.mem_cons_self .., e, by rw [if_pos e]⟩
    · obtain ⟨y, h1, h2, h3⟩ := ih (by simpa [hasN, e] using h)
      exact ⟨y, List.mem_cons_of_mem _ h1, h2, by rw [if_neg e]; exact h3⟩
theorem NOk.of_mem {n : Nat} {l : NameL} (h : NOk n l) (ha : Apart l) {x : ByteArray × Nat} (hx : x ∈ l) : 1 ≤ x.2 ∧ x.2 ≤ n ∧ x.1.size ≤ 400 := by
  have h1 := h x.1
  have h2 := lookN_mem ha hx
  have h3 := h1.2 ((hasN_iff _ _).2 ⟨x, hx, rfl⟩)
  rw [h2] at h1 h3
  exact ⟨h3.1, h1.1, h3.2⟩
theorem NOk.moved {n : Nat} {l : NameL} {p q : ByteArray} (h : NOk n l) (ha : Apart l) (hb : (l.any fun x => badP p q x.1) = false) : NOk n (l.map (mvN p q)) := fun z => by
  cases hz : hasN (l.map (mvN p q)) z
  · rw [lookN_of_not hz]
    exact ⟨Nat.zero_le _, fun e => by cases e⟩
  · obtain ⟨y, hy, h1, h2⟩ := lookN_some hz
    obtain ⟨x, hx, rfl⟩ := List.mem_map.1 hy
    obtain ⟨k1, k2, k3⟩ := h.of_mem ha hx
    have e2 : (mvN p q x).2 = x.2 := by unfold mvN; split <;> rfl
    rw [h2, e2]
    refine ⟨k2, fun _ => ⟨k1, ?_⟩⟩
    rw [← h1]
    unfold mvN
    split
    · rename_i hw
      have hb2 := List.any_eq_false.1 hb x hx
      have hk : okPath (str (mvP p q x.1)) = true := by
        unfold badP at hb2
        rw [hw] at hb2
        simpa using hb2
      show (mvP p q x.1).size ≤ 400
      rw [← str_size]
      exact okPath_size hk
    · exact k3
theorem PDisk.move__ok {D : PDisk} {n : Nat} (h : Ok D n) (ha : Apart D.names) (p q : ByteArray) : Ok (D.move_ p q).2 (n + 1) := by
  unfold PDisk.move_
  dsimp only
  split
  · exact PDisk.ok_mono h (Nat.le_succ n)
  · split
    · exact PDisk.ok_mono h (Nat.le_succ n)
    · rename_i hb
      refine PDisk.change_ok h (h.names.moved ha (by simpa [PDisk.badMv] using hb)) ?_
      have h3 := h.nlen
      rw [List.length_map]
      omega
set_option maxRecDepth 100000 in
set_option maxHeartbeats 16000000 in
theorem dmove_call (p n : Nat) (G : Geo) (D : PDisk) (path q : ByteArray) (w : World) (h : DS w p G D n) (hn : n ≤ 1000000) (hs : path.size ≤ 9223372036854775807) (hsq : q.size ≤ 9223372036854775807)
    (hfr : ∀ E, (D.step ⟨#[77, 111, 118, 101]⟩ path q).2.2 = E → firstE (E.mvE path q) = 0 → Free path q E.names) :
    Calls Tryz.prog 74 #[.pointer (some ⟨p, 0, none⟩), .string path, .string q] w fun e w' => e = .returned (.int .i64 (D.move path q).1) ∧ DSTo w p G.parts w' (D.move path q).2 (n + 2) := by
  have H := Lib.hid h
  have HST := Lib.hid (fun (W : World) (ho : Off [] w W) => dstep_two p n G D ⟨#[77, 111, 118, 101]⟩ path q W (h.off ho) hn)
  have HS := Lib.hid (show D.move path q = match D.step ⟨#[77, 111, 118, 101]⟩ path q with | (full, e, E) => if e ≠ 0 then (e, E) else E.move_ path q from rfl)
  have HFR := Lib.hid (hfr _ rfl)
  clear h hfr
  generalize D.step ⟨#[77, 111, 118, 101]⟩ path q = st at HST HS HFR
  obtain ⟨full, er, E⟩ := st
  have HS := Lib.hid (show D.move path q = if er ≠ 0 then (er, E) else E.move_ path q from HS.out)
  have HFR := Lib.hid (show firstE (E.mvE path q) = 0 → Free path q E.names from HFR.out)
  go_enter Tryz.func74, Tryz.ntmps74
  go_upto_region 1 with fail
  refine code_gen (fun W => Blk W w.heap.size 9 #[.string path] ∧ Blk W (w.heap.size + 1) 9 #[.string q] ∧ Off [] w W ∧ w.heap.size + 1 < W.heap.size)
    ⟨(Blk.new w _ _).alloc _, Blk.new1 w _ _ _, ((Off.refl _ _).alloc _).alloc _, by simp⟩ ?_
  rintro W ⟨hbp, hbq, hof, hsz⟩
  have HBP := Lib.hid hbp
  have HBQ := Lib.hid hbq
  have HOF := Lib.hid hof
  have HSZ := Lib.hid hsz
  have hcp := hbp.cell
  have hcq := hbq.cell
  clear hbp hbq hof hsz
  go_wp2_with fail
  refine (HST.out W HOF.out).mono ?_
  rintro e w1 ⟨rfl, hT⟩
  have HT := Lib.hid hT
  clear hT HST hcp hcq
  by_cases h0 : er = 0
  · subst h0
    have HS2 := Lib.hid (show D.move path q = E.move_ path q by rw [HS.out]; simp)
    obtain ⟨G1, h1, ho1, hp1⟩ := HT.out
    have hno : ∀ b, w.heap.size ≤ b → b < W.heap.size → b ∉ p :: G.parts := fun b hb _ hm => by
      rcases List.mem_cons.1 hm with rfl | hm
      · have := H.out.m.blk.lt; omega
      · have := H.out.m.parts.lt hm; omega
    have hbp1 := HBP.out.off ho1 (hno _ (Nat.le_refl _) (by have := HSZ.out; omega))
    have hbq1 := HBQ.out.off ho1 (hno _ (by omega) HSZ.out)
    have HBP1 := Lib.hid hbp1
    have HBQ1 := Lib.hid hbq1
    have HOP := Lib.hid (And.intro (show Off (p :: G.parts) w w1 from (HOF.out.mono (fun _ _ h => by simp at h)).trans ho1 (fun _ _ h => h)) (show ∀ b ∈ G1.parts, b ∈ G.parts ∨ w.heap.size ≤ b from fun b hb => by
      rcases hp1 b hb with h | h
      · exact .inl h
      · exact .inr (Nat.le_trans HOF.out.size h)))
    obtain ⟨x1, hx1⟩ : ∃ x, PDisk.no path = x := ⟨_, rfl⟩
    obtain ⟨x2, hx2⟩ : ∃ x, PDisk.no q = x := ⟨_, rfl⟩
    obtain ⟨b, hb⟩ : ∃ b, within (str q) (str path) = b := ⟨_, rfl⟩
    obtain ⟨x3, hx3⟩ : ∃ x, E.gone path = x := ⟨_, rfl⟩
    obtain ⟨x4, hx4⟩ : ∃ x, E.there q = x := ⟨_, rfl⟩
    obtain ⟨x5, hx5⟩ : ∃ x, E.parentE q = x := ⟨_, rfl⟩
    have HME := Lib.hid (show E.mvE path q = [x1, x2, (b, 2), x3, x4, x5] by unfold PDisk.mvE; rw [hx1, hx2, hb, hx3, hx4, hx5])
    have HX1 := Lib.hid hx1
    have hdr : ∀ W, Off [] w1.drew W → Off [] w1 W := fun W ho => (Off.refl [] w1).drew.trans_nil ho
    have HN1 := Lib.hid (show Tells 49 #[.string path] w1.drew (.agg #[.bool x1.1, .int .i64 x1.2]) from ⟨fun W ho => by
      have := dno_any path W (h1.tabs.off (hdr W ho))
      rw [hx1] at this; exact this⟩)
    have HN2 := Lib.hid (show Tells 49 #[.string q] w1.drew (.agg #[.bool x2.1, .int .i64 x2.2]) from ⟨fun W ho => by
      have := dno_any q W (h1.tabs.off (hdr W ho))
      rw [hx2] at this; exact this⟩)
    have HWQ := Lib.hid (show Tells 98 #[.string q, .string path] w1.drew (.bool b) from ⟨fun W ho => by
      have := nwithin_any q path W (h1.tabs.off (hdr W ho))
      rw [hb] at this; exact this⟩)
    have HGO := Lib.hid (show Tells 53 #[.pointer (some ⟨p, 0, none⟩), .string path] w1.drew (.agg #[.bool x3.1, .int .i64 x3.2]) from ⟨fun W ho => by
      have := dgone_any p G1 E path W (h1.m.off (hdr W ho) (by simp) (by simp)) (by unfold maxLen; omega) (h1.ok.look (by omega) path)
      rw [hx3] at this; exact this⟩)
    have HTH := Lib.hid (show Tells 107 #[.pointer (some ⟨p, 0, none⟩), .string q] w1.drew (.agg #[.bool x4.1, .int .i64 x4.2]) from ⟨fun W ho => by
      have := dthere_any p G1 E q W (h1.m.off (hdr W ho) (by simp) (by simp)) (by unfold maxLen; omega) (h1.ok.look (by omega) q)
      rw [hx4] at this; exact this⟩)
    have HPA := Lib.hid (show Tells 50 #[.pointer (some ⟨p, 0, none⟩), .string q] w1.drew (.agg #[.bool x5.1, .int .i64 x5.2]) from ⟨fun W ho => by
      have := dparent_big p G1 E q W (h1.m.off (hdr W ho) (by simp) (by simp)) hsq (fun x => h1.ok.look (by omega) x) (h1.tabs.off (hdr W ho))
      rw [hx5] at this; exact this⟩)
    have H1 := Lib.hid h1
    have HMV := Lib.hid (show E.move_ path q = if firstE [x1, x2, (b, 2), x3, x4, x5] ≠ 0 then (firstE [x1, x2, (b, 2), x3, x4, x5], E) else if E.badMv path q then (11, E) else (0, E.change (E.names.map (mvN path q))) by
      unfold PDisk.move_
      rw [HME.out])
    have HZ := Lib.hid (show firstE [x1, x2, (b, 2), x3, x4, x5] = 0 → x1.1 = false ∧ x2.1 = false from fun e => by
      have h5 : ∀ y ∈ [x1, x2, (b, 2), x3, x4, x5], y.2 ≠ 0 := by
        intro y hy
        simp only [List.mem_cons, List.not_mem_nil, or_false] at hy
        rcases hy with rfl | rfl | rfl | rfl | rfl | rfl
        · rw [← hx1]; simp [PDisk.no]
        · rw [← hx2]; simp [PDisk.no]
        · simp
        · rw [← hx3]; simp [PDisk.gone]
        · rw [← hx4]; simp [PDisk.there]
        · rw [← hx5]; simp [PDisk.parentE]
      exact ⟨firstE_zero h5 e _ (by simp), firstE_zero h5 e _ (by simp)⟩)
    have HOKP := Lib.hid (show (x1.1 = false → okPath (str path) = true) ∧ (x2.1 = false → q.size ≤ 400) from ⟨fun e => by
      rw [← hx1] at e
      simpa [PDisk.no] using e, fun e => no_size (by rw [hx2]; exact e)⟩)
    clear HS hx1 hx2 hx3 hx4 hx5 hb h1 ho1 hp1 hno hbp1 hbq1 hdr
    go_wp2_with fail
    go_cut [9] from 22 to 40 (fun s wx => s = .int .i64 (firstE [x1, x2, (b, 2), x3, x4, x5]) ∧ Off [] w1 wx)
    case first =>
      have hch := Off.refl [] w1.drew
      have hB := HBP1.out.drew
      have hC := HBQ1.out.drew
      go_region_held3 (fun w' => (∀ i, w'.cell? ⟨w.heap.size, i, none⟩ = (#[.string path] : Array Value)[i]?) ∧ (∀ i, w'.cell? ⟨w.heap.size + 1, i, none⟩ = (#[.string q] : Array Value)[i]?)) (first | assumption | exact ⟨hB.cell, hC.cell⟩ | exact ⟨(hB.alloc _).cell, (hC.alloc _).cell⟩) (first
        | (go_at_call 49; refine (tells_use (by exact HN1.out) hch).mono ?_; rintro e wA ⟨rfl, hoA⟩; have hch := hch.trans_nil hoA; have hB := hB.off hoA (by simp); have hC := hC.off hoA (by simp))
        | (go_at_call 49; refine (tells_use (by exact HN2.out) hch).mono ?_; rintro e wB ⟨rfl, hoB⟩; have hch := hch.trans_nil hoB; have hB := hB.off hoB (by simp); have hC := hC.off hoB (by simp))
        | (go_at_call 98; refine (tells_use (by exact HWQ.out) hch).mono ?_; rintro e wC ⟨rfl, hoC⟩; have hch := hch.trans_nil hoC; have hB := hB.off hoC (by simp); have hC := hC.off hoC (by simp))
        | (go_at_call 53; refine (tells_use (by exact HGO.out) hch).mono ?_; rintro e wD ⟨rfl, hoD⟩; have hch := hch.trans_nil hoD; have hB := hB.off hoD (by simp); have hC := hC.off hoD (by simp))
        | (go_at_call 107; refine (tells_use (by exact HTH.out) hch).mono ?_; rintro e wE ⟨rfl, hoE⟩; have hch := hch.trans_nil hoE; have hB := hB.off hoE (by simp); have hC := hC.off hoE (by simp))
        | (go_at_call 50; refine (tells_use (by exact HPA.out) hch).mono ?_; rintro e wF ⟨rfl, hoF⟩; have hch := hch.trans_nil hoF; have hB := hB.off hoF (by simp); have hC := hC.off hoF (by simp))
        | (go_at_call 52; refine (dfirst_any _ 6 6 [x1, x2, (b, 2), x3, x4, x5] _ (rsns_new _ [x1, x2, (b, 2), x3, x4, x5] _ rfl) rfl (by omega)).mono ?_; rintro e wG ⟨rfl, hoG⟩; have hch := (hch.alloc _).trans_nil hoG; have hB := (hB.alloc _).off hoG (by simp); have hC := (hC.alloc _).off hoG (by simp)))
      have hoe := (Off.refl [] w1).drew.trans_nil hch
      clear hch hB hC
      go_wp2_with fail
      go_meet
      exact ⟨rfl, hoe⟩
    case rest =>
      obtain ⟨rfl, hox⟩ := hcut
      have HOX := Lib.hid hox
      have HD2 := Lib.hid (H1.out.off hox)
      obtain ⟨v, hv⟩ : ∃ v, firstE [x1, x2, (b, 2), x3, x4, x5] = v := ⟨_, rfl⟩
      rw [hv] at HMV HZ ⊢
      have HV := Lib.hid (show firstE (E.mvE path q) = v by rw [HME.out, hv])
      clear hox hv
      by_cases hv0 : v = 0
      · subst hv0
        have HMV2 := Lib.hid (show D.move path q = if E.badMv path q then (11, E) else (0, E.change (E.names.map (mvN path q))) by rw [HS2.out, HMV.out]; simp)
        have HFREE := Lib.hid (HFR.out HV.out)
        have HPP := Lib.hid (HOKP.out.1 (HZ.out rfl).1)
        have HQQ := Lib.hid (HOKP.out.2 (HZ.out rfl).2)
        clear HMV
        have HBPc := Lib.hid (HBP1.out.off HOX.out (by simp))
        have HBQc := Lib.hid (HBQ1.out.off HOX.out (by simp))
        obtain ⟨ha, Dm, hDm, hsz, hr⟩ := HD2.out.m.parts.names
        have HR := Lib.hid hr
        have HA := Lib.hid ha
        have hc := HD2.out.m.blk.cell
        unfold diskCells at hc
        obtain ⟨nl, hnl⟩ : ∃ nl, E.names.length = nl := ⟨_, rfl⟩
        rw [hnl] at hDm
        clear ha hr hsz hnl HN1 HN2 HWQ HGO HTH HPA HZ HOKP HME HX1
        go_wp2_with (at_range; refine wpList_range_own _ rfl _ 95 rfl 9 3 strK Tryz.underlying95 (plainElem Tryz.prog 3) G1.nb nl Dm rfl hDm ?_; intro w3 hrg hg3 hs3)
        have HG3 := Lib.hid hg3
        have HST := Lib.hid (show AskI E.names (badP path q) (has Dm) false from AskI.start (fun x hx => by rw [(HR.out x.1).1]; exact (hasN_iff _ _).2 ⟨x, hx, rfl⟩))
        clear hg3 hs3 hc hDm
        go_frame
        go_loopw [10] (fun _ wr => ∃ left cnt, wr.ranges Tryz.prog 9 (plainElem Tryz.prog 3) G1.nb wc.heap.size nl Dm left cnt ∧ Off [wc.heap.size] w3 wr ∧ Hid (AskI E.names (badP path q) left false)) (fun _ wr => wr.rangeLeft G1.nb wc.heap.size)
        case atStart => exact ⟨_, _, hrg, Off.refl _ _, HST⟩
        case round =>
          clear HST hrg
          obtain ⟨left, cnt, hrel, ho, HI⟩ := hrel
          have HO3 := Lib.hid ho
          have HO13 := Lib.hid (show Off [] wc wr from ((Off.refl [] wc).grown HG3.out (fun k hk => by cases hk)).trans ho (fun x hx hm => by simp at hm; omega))
          clear ho
          go_wp2_with (at_next; refine wpList_next_ranges _ rfl _ rfl 9 strK (plainElem Tryz.prog 3) Value.string (Value.int .i64) (fun _ _ h => name_shape h) (fun _ _ h => num_shape h) G1.nb wc.heap.size nl Dm _ _ rfl hrel ?_ ?_)
          · intro hc0 hl0
            have HBI := Lib.hid (HI.out.done hl0)
            clear hl0 hc0 hrel HI
            have HF := Lib.hid (show D.move path q = (0, E.change (E.names.map (mvN path q))) by
              rw [HMV2.out, if_neg]
              have h5 : false = E.badMv path q := HBI.out
              rw [← h5]; decide)
            have HDR := Lib.hid (HD2.out.off HO13.out)
            have HOK := Lib.hid (show Ok (E.change (E.names.map (mvN path q))) (n + 1 + 1) from PDisk.change_ok HD2.out.ok (HD2.out.ok.names.moved HA.out HBI.out.symm) (by have := HD2.out.ok.nlen; rw [List.length_map]; omega))
            have HBX := Lib.hid (HBPc.out.off HO13.out (by simp))
            have HQX := Lib.hid (HBQc.out.off HO13.out (by simp))
            have HTN := Lib.hid (fun (W1 : World) (hW1 : DiskM W1 p { G1 with nb := wr.heap.size } E) (ho1 : Off [p] wr W1) =>
              show Calls Tryz.prog 109 (#[.map (some wr.heap.size)] ++ #[.pointer (some ⟨w.heap.size, 0, none⟩), .pointer (some ⟨w.heap.size + 1, 0, none⟩)]) W1 (TurnP p wr.heap.size G1 { E with names := E.names.map (mvN path q) } W1) from
              movc_any p wr.heap.size w.heap.size (w.heap.size + 1) G1 E path q W1 hW1 (fun h => Nat.lt_irrefl _ (HDR.out.m.parts.lt (List.mem_cons_of_mem _ h))) (by have := HDR.out.ok.nlen; omega) HPP.out HFREE.out
                (fun x hx => by
                  obtain ⟨k1, k2, k3⟩ := HDR.out.ok.names.of_mem HA.out hx
                  have := HDR.out.ok.inos
                  exact ⟨k3, by omega⟩) HQQ.out (HBX.out.off ho1 (by have := H.out.m.blk.lt; simp; omega)) (HQX.out.off ho1 (by have := H.out.m.blk.lt; simp; omega))
                (fun W' hW' => HDR.out.tabs W' ((ho1.mono (fun _ _ h => by simp at h; rw [h]; exact List.mem_cons_self ..)).trans hW' (fun x hx hm => by simp at hm; omega))))
            have HCH := Lib.hid (dchange_any p G1 E { E with names := E.names.map (mvN path q) } 109 #[.pointer (some ⟨w.heap.size, 0, none⟩), .pointer (some ⟨w.heap.size + 1, 0, none⟩)] wr HDR.out.m HDR.out.sb (by have := HDR.out.ok.llen; show E.later.length ≤ _; omega) MOVEN HTN.out)
            clear HMV2
            go_wp2_with fail
            refine HCH.out.mono ?_
            rintro e w7 ⟨rfl, hT⟩
            have HT7 := Lib.hid hT
            clear hT
            go_wp2_with fail
            go_ret
            rw [HF.out]
            exact ⟨rfl, DSTo.step ((HOP.out.1.trans_nil HOX.out).trans_nil HO13.out) HOP.out.2 (HDR.out.changed HT7.out HOK.out)⟩
          · intro x c kl yd yp w4 cnt1 hkey hlk hy hat hrg1 hlt1 hg1 hs1 hen
            obtain ⟨rfl, hhas⟩ := name_came (fun p => (HR.out p).1) hkey hat
            have ho4 : Off [wc.heap.size] w3 w4 := HO3.out.grown hg1 (fun k hk => by cases hk; exact .inr (by simp))
            have ho14 : Off [] wc w4 := HO13.out.grown hg1 (fun k hk => by cases hk; exact .inl (Nat.le_refl _))
            have HLE := Lib.hid (show w4.rangeLeft G1.nb wc.heap.size < wr.rangeLeft G1.nb wc.heap.size by rw [hrg1.left_eq, hrel.left_eq]; exact hlt1)
            have HRG := Lib.hid hrg1
            have HO4 := Lib.hid ho4
            have HO14 := Lib.hid ho14
            have HB4 := Lib.hid (HBPc.out.off ho14 (by simp))
            have HC4 := Lib.hid (HBQc.out.off ho14 (by simp))
            have HHAS := Lib.hid hhas
            have htab := (HD2.out.off ho14).tabs.tabs
            have hdr : ∀ W, Off [] w4.drew W → Tabs W := fun W ho => htab.off ((Off.refl [] w4).drew.trans_nil ho)
            obtain ⟨v, hv⟩ : ∃ v, within (str x) (str path) = v := ⟨_, rfl⟩
            obtain ⟨r, hr⟩ : ∃ r, okPath (str (q ++ x.extract path.size x.size)) = r := ⟨_, rfl⟩
            have HBAD := Lib.hid (show badP path q x = (v && !r) by unfold badP mvP; rw [hv, hr])
            have HWT := Lib.hid (show Tells 98 #[.string x, .string path] w4.drew (.bool v) from ⟨fun W ho => by
              have := nwithin_any x path W (hdr W ho)
              rw [hv] at this; exact this⟩)
            have HPT := Lib.hid (show Tells 85 #[.string (q ++ x.extract path.size x.size)] w4.drew (.bool r) from ⟨fun W ho => path_v (q ++ x.extract path.size x.size) W (hdr W ho) r hr⟩)
            have hx4 : ¬ 9223372036854775807 < q.size + (x.size - path.size) := by
              obtain ⟨y, hy, rfl⟩ := (hasN_iff _ _).1 hhas
              have := (HD2.out.ok.names.of_mem HA.out hy).2.2
              have := HQQ.out
              omega
            have HSZX := Lib.hid (show v = true → path.size ≤ x.size from fun e => within_size (hv.trans e) HPP.out)
            clear hkey hlk hy hat hrg1 hlt1 hg1 hs1 hrel ho4 ho14 hhas htab hdr hv hr
            change (Instr.entry (.pointer (some ⟨wc.heap.size, 0, none⟩))).run Tryz.prog w4 = .ok (.tuple #[.string x, .int .i64 c]) w4 at hen
            have FIN := Lib.hid (show ∀ w5 : World, Off [] w4 w5 → (v && !r) = false → (∃ left cnt, w5.ranges Tryz.prog 9 (plainElem Tryz.prog 3) G1.nb wc.heap.size nl Dm left cnt ∧ Off [wc.heap.size] w3 w5 ∧ Hid (AskI E.names (badP path q) left false)) ∧ w5.rangeLeft G1.nb wc.heap.size < wr.rangeLeft G1.nb wc.heap.size from fun w5 ho5 hb2 => by
              have hg5 : w4.grownBy w5 none := ⟨ho5.os, ho5.tape, ho5.output, ho5.size, fun i hi _ => ho5.block i hi (by simp)⟩
              have hr5 := HRG.out.kept hg5 (by simp) (by simp)
              refine ⟨⟨_, _, hr5, HO4.out.trans_nil ho5, Lib.hid (HI.out.next HHAS.out (by rw [HBAD.out, hb2]; rfl))⟩, ?_⟩
              have := HLE.out
              rw [HRG.out.left_eq] at this
              rw [hr5.left_eq]
              exact this)
            go_upto_region 10 with fail
            have hch := Off.refl [] w4.drew
            have hB := HB4.out.drew
            have hC := HC4.out.drew
            clear hen
            cases v
            · refine wp_region_held_drew (S := fun w' => (∀ i, w'.cell? ⟨w.heap.size, i, none⟩ = (#[.string path] : Array Value)[i]?) ∧ (∀ i, w'.cell? ⟨w.heap.size + 1, i, none⟩ = (#[.string q] : Array Value)[i]?)) (by kernel_rfl) ⟨hB.cell, hC.cell⟩ (fun hHeld => ?_)
              refine wpAnyH_take (i := 0) (v := ?_) rfl (by kernel_rfl) (by kernel_rfl) (by kernel_rfl) (fun _ _ _ h => h) (Or.inl ⟨by rfl, ?_⟩) (by assumption) ?_
              rotate_left
              · intro w hSw
                try dsimp only at hSw
                go_simp
                try with_reducible rfl
              try simp only [Act.put, List.setIfInBounds_toArray]
              refine wpAnyH_take (i := 1) (v := ?_) rfl (by kernel_rfl) (by kernel_rfl) (by kernel_rfl) (fun _ _ _ h => h) (Or.inl ⟨by rfl, ?_⟩) (by assumption) ?_
              rotate_left
              · intro w hSw
                try dsimp only at hSw
                go_simp
                try with_reducible rfl
              try simp only [Act.put]
              refine wpAnyH_ready (rs := [2]) (by kernel_rfl) (by simp) ?_
              refine AllReadyH.cons rfl (fun K hK => ?_) AllReadyH.nil
              go_simp
              refine (tells_use (by exact HWT.out) hch).mono ?_; rintro e wA ⟨rfl, hoA⟩; have hch := hch.trans_nil hoA; have hB := hB.off hoA (by simp); have hC := hC.off hoA (by simp)
              refine hK.out _ _ ?_ (fun hHeld => ?_)
              · exact ⟨hB.cell, hC.cell⟩
              clear hK K
              try simp only [Act.put, List.setIfInBounds_toArray, List.set_cons_zero, List.set_cons_succ]
              refine wpAnyH_take (i := 3) (v := ?_) rfl (by kernel_rfl) (by kernel_rfl) (by kernel_rfl) (fun _ _ _ h => h) (Or.inl ⟨by rfl, ?_⟩) (by assumption) ?_
              rotate_left
              · intro w hSw
                try dsimp only at hSw
                go_simp
                try with_reducible rfl
              try simp only [Act.put, List.setIfInBounds_toArray]
              refine wpAnyH_take (i := 4) (v := undef) rfl (by kernel_rfl) (by kernel_rfl) (by kernel_rfl) (fun _ _ _ h => h) (Or.inr ⟨by rfl, rfl⟩) (by assumption) ?_
              try simp only [Act.put]
              refine wpAnyH_take (i := 5) (v := undef) rfl (by kernel_rfl) (by kernel_rfl) (by kernel_rfl) (fun _ _ _ h => h) (Or.inr ⟨by rfl, rfl⟩) (by assumption) ?_
              try simp only [Act.put]
              refine wpAnyH_take (i := 6) (v := undef) rfl (by kernel_rfl) (by kernel_rfl) (by kernel_rfl) (fun _ _ _ h => h) (Or.inr ⟨by rfl, rfl⟩) (by assumption) ?_
              try simp only [Act.put]
              refine wpAnyH_take (i := 7) (v := undef) rfl (by kernel_rfl) (by kernel_rfl) (by kernel_rfl) (fun _ _ _ h => h) (Or.inr ⟨by rfl, rfl⟩) (by assumption) ?_
              try simp only [Act.put]
              refine wpAnyH_ready (rs := [8]) (by kernel_rfl) (by simp) ?_
              refine AllReadyH.cons rfl (fun K hK => ?_) AllReadyH.nil
              go_simp
              refine hK.out _ _ ?_ (fun hHeld => ?_)
              · exact ⟨hB.cell, hC.cell⟩
              clear hK K
              try simp only [Act.put, List.setIfInBounds_toArray, List.set_cons_zero, List.set_cons_succ]
              refine wpAnyH_take (i := 9) (v := undef) rfl (by kernel_rfl) (by kernel_rfl) (by kernel_rfl) (fun _ _ _ h => h) (Or.inr ⟨by rfl, rfl⟩) (by assumption) ?_
              try simp only [Act.put, List.setIfInBounds_toArray]
              refine wpAnyH_ready (rs := [10]) (by kernel_rfl) (by simp) ?_
              refine AllReadyH.cons rfl (fun K hK => ?_) AllReadyH.nil
              go_simp
              refine hK.out _ _ ?_ (fun hHeld => ?_)
              · exact ⟨hB.cell, hC.cell⟩
              clear hK K
              try simp only [Act.put, List.setIfInBounds_toArray, List.set_cons_zero, List.set_cons_succ]
              refine wpAnyH_ready (rs := [11]) (by kernel_rfl) (by simp) ?_
              refine AllReadyH.cons rfl (fun K hK => ?_) AllReadyH.nil
              go_simp
              refine hK.out _ _ ?_ (fun hHeld => ?_)
              · exact ⟨hB.cell, hC.cell⟩
              clear hK K
              try simp only [Act.put, List.setIfInBounds_toArray, List.set_cons_zero, List.set_cons_succ]
              refine wpAnyH_ready (rs := [12]) (by kernel_rfl) (by simp) ?_
              refine AllReadyH.cons rfl (fun K hK => ?_) AllReadyH.nil
              go_simp
              refine hK.out _ _ ?_ (fun hHeld => ?_)
              · exact ⟨hB.cell, hC.cell⟩
              clear hK K
              try simp only [Act.put, List.setIfInBounds_toArray, List.set_cons_zero, List.set_cons_succ]
              refine wpAnyH_done (by kernel_rfl) ?_ _
              have HOE := Lib.hid ((Off.refl [] w4).drew.trans_nil hch)
              clear hch hB hC
              go_wp2_with fail
              exact FIN.out _ HOE.out rfl
            · have hxi1 : (path.size : Int) ≤ x.size := by have := HSZX.out rfl; omega
              have hxi0 : (0 : Int) ≤ path.size := by omega
              refine wp_region_held_drew (S := fun w' => (∀ i, w'.cell? ⟨w.heap.size, i, none⟩ = (#[.string path] : Array Value)[i]?) ∧ (∀ i, w'.cell? ⟨w.heap.size + 1, i, none⟩ = (#[.string q] : Array Value)[i]?)) (by kernel_rfl) ⟨hB.cell, hC.cell⟩ (fun hHeld => ?_)
              refine wpAnyH_take (i := 0) (v := ?_) rfl (by kernel_rfl) (by kernel_rfl) (by kernel_rfl) (fun _ _ _ h => h) (Or.inl ⟨by rfl, ?_⟩) (by assumption) ?_
              rotate_left
              · intro w hSw
                try dsimp only at hSw
                go_simp
                try with_reducible rfl
              try simp only [Act.put, List.setIfInBounds_toArray]
              refine wpAnyH_take (i := 1) (v := ?_) rfl (by kernel_rfl) (by kernel_rfl) (by kernel_rfl) (fun _ _ _ h => h) (Or.inl ⟨by rfl, ?_⟩) (by assumption) ?_
              rotate_left
              · intro w hSw
                try dsimp only at hSw
                go_simp
                try with_reducible rfl
              try simp only [Act.put]
              refine wpAnyH_ready (rs := [2]) (by kernel_rfl) (by simp) ?_
              refine AllReadyH.cons rfl (fun K hK => ?_) AllReadyH.nil
              go_simp
              refine (tells_use (by exact HWT.out) hch).mono ?_; rintro e wA ⟨rfl, hoA⟩; have hch := hch.trans_nil hoA; have hB := hB.off hoA (by simp); have hC := hC.off hoA (by simp)
              refine hK.out _ _ ?_ (fun hHeld => ?_)
              · exact ⟨hB.cell, hC.cell⟩
              clear hK K
              try simp only [Act.put, List.setIfInBounds_toArray, List.set_cons_zero, List.set_cons_succ]
              refine wpAnyH_take (i := 3) (v := ?_) rfl (by kernel_rfl) (by kernel_rfl) (by kernel_rfl) (fun _ _ _ h => h) (Or.inl ⟨by rfl, ?_⟩) (by assumption) ?_
              rotate_left
              · intro w hSw
                try dsimp only at hSw
                go_simp
                try with_reducible rfl
              try simp only [Act.put, List.setIfInBounds_toArray]
              refine wpAnyH_take (i := 4) (v := ?_) rfl (by kernel_rfl) (by kernel_rfl) (by kernel_rfl) (fun _ _ _ h => h) (Or.inl ⟨by rfl, ?_⟩) (by assumption) ?_
              rotate_left
              · intro w hSw
                try dsimp only at hSw
                go_simp
                try with_reducible rfl
              try simp only [Act.put]
              refine wpAnyH_take (i := 5) (v := ?_) rfl (by kernel_rfl) (by kernel_rfl) (by kernel_rfl) (fun _ _ _ h => h) (Or.inl ⟨by rfl, ?_⟩) (by assumption) ?_
              rotate_left
              · intro w hSw
                try dsimp only at hSw
                go_simp
                try with_reducible rfl
              try simp only [Act.put]
              refine wpAnyH_take (i := 6) (v := ?_) rfl (by kernel_rfl) (by kernel_rfl) (by kernel_rfl) (fun _ _ _ h => h) (Or.inl ⟨by rfl, ?_⟩) (by assumption) ?_
              rotate_left
              · intro w hSw
                try dsimp only at hSw
                go_simp
                try with_reducible rfl
              try simp only [Act.put]
              refine wpAnyH_take (i := 7) (v := ?_) rfl (by kernel_rfl) (by kernel_rfl) (by kernel_rfl) (fun _ _ _ h => h) (Or.inl ⟨by rfl, ?_⟩) (by assumption) ?_
              rotate_left
              · intro w hSw
                try dsimp only at hSw
                go_simp
                try with_reducible rfl
              try simp only [Act.put]
              refine wpAnyH_ready (rs := [8]) (by kernel_rfl) (by simp) ?_
              refine AllReadyH.cons rfl (fun K hK => ?_) AllReadyH.nil
              go_simp
              refine hK.out _ _ ?_ (fun hHeld => ?_)
              · exact ⟨hB.cell, hC.cell⟩
              clear hK K
              try simp only [Act.put, List.setIfInBounds_toArray, List.set_cons_zero, List.set_cons_succ]
              refine wpAnyH_take (i := 9) (v := ?_) rfl (by kernel_rfl) (by kernel_rfl) (by kernel_rfl) (fun _ _ _ h => h) (Or.inl ⟨by rfl, ?_⟩) (by assumption) ?_
              rotate_left
              · intro w hSw
                try dsimp only at hSw
                go_simp
                try with_reducible rfl
              try simp only [Act.put, List.setIfInBounds_toArray]
              refine wpAnyH_ready (rs := [10]) (by kernel_rfl) (by simp) ?_
              refine AllReadyH.cons rfl (fun K hK => ?_) AllReadyH.nil
              go_simp
              refine (tells_use (by exact HPT.out) hch).mono ?_; rintro e wB ⟨rfl, hoB⟩; have hch := hch.trans_nil hoB; have hB := hB.off hoB (by simp); have hC := hC.off hoB (by simp)
              refine hK.out _ _ ?_ (fun hHeld => ?_)
              · exact ⟨hB.cell, hC.cell⟩
              clear hK K
              try simp only [Act.put, List.setIfInBounds_toArray, List.set_cons_zero, List.set_cons_succ]
              refine wpAnyH_take (i := 11) (v := ?_) rfl (by kernel_rfl) (by kernel_rfl) (by kernel_rfl) (fun _ _ _ h => h) (Or.inl ⟨by rfl, ?_⟩) (by assumption) ?_
              rotate_left
              · intro w hSw
                try dsimp only at hSw
                go_simp
                try with_reducible rfl
              try simp only [Act.put, List.setIfInBounds_toArray]
              refine wpAnyH_take (i := 12) (v := ?_) rfl (by kernel_rfl) (by kernel_rfl) (by kernel_rfl) (fun _ _ _ h => h) (Or.inl ⟨by rfl, ?_⟩) (by assumption) ?_
              rotate_left
              · intro w hSw
                try dsimp only at hSw
                go_simp
                try with_reducible rfl
              try simp only [Act.put]
              refine wpAnyH_done (by kernel_rfl) ?_ _
              have HOE := Lib.hid ((Off.refl [] w4).drew.trans_nil hch)
              clear hch hB hC
              cases r
              · have HF := Lib.hid (show D.move path q = (11, E) by
                  rw [HMV2.out, if_pos]
                  unfold PDisk.badMv
                  obtain ⟨y, hy, e⟩ := (hasN_iff _ _).1 HHAS.out
                  exact List.any_eq_true.2 ⟨y, hy, by rw [e, HBAD.out]; rfl⟩)
                go_wp2_with fail
                go_ret
                rw [HF.out]
                exact ⟨rfl, DSTo.step (((HOP.out.1.trans_nil HOX.out).trans_nil HO14.out).trans_nil HOE.out) HOP.out.2 (((HD2.out.off HO14.out).off HOE.out).refl.le (by omega))⟩
              · go_wp2_with fail
                obtain ⟨⟨l, cn, k1, k2, k3⟩, k4⟩ := FIN.out _ HOE.out rfl
                exact ⟨⟨l, ⟨cn, k1⟩, k2, k3⟩, k4⟩
      · have HF := Lib.hid (show D.move path q = (v, E) by rw [HS2.out, HMV.out, if_pos hv0])
        have hne : (v == 0) = false := beq_eq_false_iff_ne.2 hv0
        clear hv0 HMV
        go_wp2_with fail
        go_ret
        rw [HF.out]
        exact ⟨rfl, DSTo.step (HOP.out.1.trans_nil HOX.out) HOP.out.2 (HD2.out.refl.le (by omega))⟩
  · have HS2 := Lib.hid (show D.move path q = (er, E) by rw [HS.out, if_pos h0])
    have hne : (er == 0) = false := beq_eq_false_iff_ne.2 h0
    clear h0
    go_wp2_with fail
    go_ret
    rw [HS2.out]
    obtain ⟨G1, h1, ho1, hp1⟩ := HT.out
    refine ⟨rfl, DSTo.step (G1 := G1) ((HOF.out.mono (fun _ _ h => by simp at h)).trans ho1 (fun _ _ h => h)) (fun b hb => ?_) (h1.refl.le (by omega))⟩
    rcases hp1 b hb with h | h
    · exact .inl h
    · exact .inr (Nat.le_trans HOF.out.size h)
end Go.Proofs.YtgcfkljooabjjaaGreatDoor

/- hawserlaw07.ask: what it leaves of a disk (not what it answers). Conditions: what each contract states. -/
namespace Go.Proofs.YtgcfkljooabjjaaGreatDoor
open Go.RowKit Go.Op Go.Maps

/-- what a call leaves of a disk -/
def askD (D : PDisk) (c : CallP) : PDisk :=
  if c.what = 0 then (D.write c.path c.data c.mode).2 else if c.what = 1 then (D.mkdir c.path).2 else if c.what = 2 then (D.link c.path c.to_).2 else if c.what = 3 then (D.remove c.path).2
  else if c.what = 4 then (D.move c.path c.to_).2 else if c.what = 5 then (D.replace c.path c.to_).2 else if c.what = 6 then (D.sync c.path).2 else if c.what = 7 then D.flush.2
  else if c.what = 8 then (D.get c.path).2 else if c.what = 9 then (D.namesC c.path).2 else if c.what = 10 then D.boot [] else D
set_option maxRecDepth 100000 in
set_option maxHeartbeats 16000000 in
theorem ask_on (p n : Nat) (G : Geo) (D : PDisk) (c : CallP) (w : World) (h : DS w p G D n) (hn : n ≤ 80000) (hF : Light D) (hs1 : c.path.size ≤ 9223372036854775807) (hs2 : c.to_.size ≤ 9223372036854775807)
    (hfr : ∀ E, (D.step ⟨#[77, 111, 118, 101]⟩ c.path c.to_).2.2 = E → firstE (E.mvE c.path c.to_) = 0 → Free c.path c.to_ E.names) :
    Calls Tryz.prog 35 #[.pointer (some ⟨p, 0, none⟩), callV c] w fun e w' => (∃ v, e = .returned v) ∧ DSTo w p G.parts w' (askD D c) (n + 2) := by
  obtain ⟨what, path, q, data, mode⟩ := c
  have H := Lib.hid h
  have HN := Lib.hid hn
  have HFF := Lib.hid hF
  have HS := Lib.hid (And.intro (show path.size ≤ 9223372036854775807 from hs1) (show q.size ≤ 9223372036854775807 from hs2))
  have HFR := Lib.hid (show ∀ E, (D.step ⟨#[77, 111, 118, 101]⟩ path q).2.2 = E → firstE (E.mvE path q) = 0 → Free path q E.names from hfr)
  have HG := Lib.hid (show askD D ⟨what, path, q, data, mode⟩ = if what = 0 then (D.write path data mode).2 else if what = 1 then (D.mkdir path).2 else if what = 2 then (D.link path q).2 else if what = 3 then (D.remove path).2
    else if what = 4 then (D.move path q).2 else if what = 5 then (D.replace path q).2 else if what = 6 then (D.sync path).2 else if what = 7 then D.flush.2
    else if what = 8 then (D.get path).2 else if what = 9 then (D.namesC path).2 else if what = 10 then D.boot [] else D from rfl)
  show Calls Tryz.prog 35 #[.pointer (some ⟨p, 0, none⟩), .agg #[.int .i64 what, .string path, .string q, .string data, .int .i64 mode]] w fun e w' => (∃ v, e = .returned v) ∧ DSTo w p G.parts w' (askD D ⟨what, path, q, data, mode⟩) (n + 2)
  clear h hn hF hs1 hs2 hfr
  go_enter Tryz.func35, Tryz.ntmps35
  go_upto_region 5 with fail
  refine code_gen (fun W => Blk W w.heap.size 77 #[.int .i64 what, .string path, .string q, .string data, .int .i64 mode] ∧ Blk W (w.heap.size + 1) 30 #[.string ⟨#[]⟩, .int .i64 0, .string ⟨#[]⟩, .int .i64 0] ∧ Blk W (w.heap.size + 2) 39 #[.int .i64 0, .int .i64 0, .int .i64 0] ∧ Blk W (w.heap.size + 3) 30 #[.string ⟨#[]⟩, .int .i64 0, .string ⟨#[]⟩, .int .i64 0] ∧ Blk W (w.heap.size + 4) 39 #[.int .i64 0, .int .i64 0, .int .i64 0] ∧ Off [] w W ∧ w.heap.size + 4 < W.heap.size)
    ⟨((((Blk.new w _ _).alloc _).alloc _).alloc _).alloc _, (((Blk.new1 w _ _ _).alloc _).alloc _).alloc _, ((Blk.new2 w _ _ _ _).alloc _).alloc _, (Blk.new3' w _ _ _ _ _).alloc _, Blk.new4' w _ _ _ _ _ _, (((((Off.refl _ _).alloc _).alloc _).alloc _).alloc _).alloc _, by simp⟩ ?_
  rintro W ⟨hb0, hb1, hb2, hb3, hb4, hof, hsz⟩
  have HB1 := Lib.hid hb1
  have HB2 := Lib.hid hb2
  have HB3 := Lib.hid hb3
  have HB4 := Lib.hid hb4
  have HOF := Lib.hid hof
  have HSZ := Lib.hid hsz
  have hc0 := hb0.cell
  have HDS := Lib.hid (H.out.off hof)
  have HNO := Lib.hid (show ∀ b, w.heap.size ≤ b → b < W.heap.size → b ∉ p :: G.parts from fun b hb _ hm => by
    rcases List.mem_cons.1 hm with rfl | hm
    · have := H.out.m.blk.lt; omega
    · have := H.out.m.parts.lt hm; omega)
  have HKK := Lib.hid (show ∀ b ∈ [w.heap.size + 1, w.heap.size + 2, w.heap.size + 3, w.heap.size + 4], w.heap.size ≤ b ∧ b < W.heap.size from fun b hb => by
    have := HSZ.out
    simp at hb
    omega)
  clear hb0 hb1 hb2 hb3 hb4 hof hsz
  by_cases hk0 : what = 0
  · subst hk0
    have HE := Lib.hid (show askD D ⟨0, path, q, data, mode⟩ = (D.write path data mode).2 from rfl)
    have hop := Lib.hid (dwrite_call p n G D path data mode W HDS.out (by have := HN.out; omega) HS.out.1)
    clear HG
    obtain ⟨er, her⟩ : ∃ er, (D.write path data mode).1 = er := ⟨_, rfl⟩
    rw [her] at hop
    clear her
    go_wp2_with fail
    refine hop.out.mono ?_
    rintro e w1 ⟨rfl, hT⟩
    have HT := Lib.hid hT
    clear hT hop
    obtain ⟨G1, h1, ho1, hp1⟩ := HT.out
    have hb1 := HB1.out.off ho1 (HNO.out _ (by omega) (by have := HSZ.out; omega))
    have hb2 := HB2.out.off ho1 (HNO.out _ (by omega) (by have := HSZ.out; omega))
    have hb3 := HB3.out.off ho1 (HNO.out _ (by omega) (by have := HSZ.out; omega))
    have hb4 := HB4.out.off ho1 (HNO.out _ (by omega) (by have := HSZ.out; omega))
    clear h1 ho1 hp1
    go_upto_region 28 with fail
    refine code_gen (fun W2 => Blk W2 (w.heap.size + 1) 30 #[.string ⟨#[]⟩, .int .i64 0, .string ⟨#[]⟩, .int .i64 0] ∧ Blk W2 (w.heap.size + 2) 39 #[.int .i64 0, .int .i64 0, .int .i64 0] ∧ Blk W2 (w.heap.size + 3) 30 #[.string ⟨#[]⟩, .int .i64 0, .string ⟨#[]⟩, .int .i64 0] ∧ Blk W2 (w.heap.size + 4) 39 #[.int .i64 0, .int .i64 0, .int .i64 0] ∧ Off [w.heap.size + 3, w.heap.size + 4] w1 W2) ⟨hb1, hb2, hb3, hb4, Off.refl _ _⟩ ?_
    clear hb1 hb2 hb3 hb4
    rintro W2 ⟨hb1, hb2, hb3, hb4, ho2⟩
    have hc1 := hb1.cell
    have hf1 := hb1.frozen
    have hl1 := hb1.lt
    have HC1 := Lib.hid hb1
    have hc2 := hb2.cell
    have hf2 := hb2.frozen
    have hl2 := hb2.lt
    have HC2 := Lib.hid hb2
    have hc3 := hb3.cell
    have hc4 := hb4.cell
    have HO2 := Lib.hid ho2
    clear hb1 hb2 hb3 hb4 ho2
    go_region
    obtain ⟨k1, k2, k3⟩ := put7 (a := .string ⟨#[]⟩) (b := .int .i64 0) (c := .string ⟨#[]⟩) (d := .int .i64 0) (x := .int .i64 0) (y := .int .i64 0) (z := .int .i64 0) HC1.out HC2.out
    have he1 := k1.drew.cell
    have he2 := k2.drew.cell
    have K3 := Lib.hid k3.drew
    clear k1 k2 k3 hc1 hf1 hl1 hc2 hf2 hl2 hc3 hc4
    go_wp2_with fail
    refine bodyPost_ret (v := .tuple #[.int .i64 er, .agg #[.string ⟨#[]⟩, .int .i64 0, .string ⟨#[]⟩, .int .i64 0], .agg #[.int .i64 0, .int .i64 0, .int .i64 0], .slice none 0 0]) ?_ rfl ?_
    · have hres : Tryz.f35.results = #[.tmp 4, .cell 5 30, .cell 6 39, .tmp 7] := rfl
      simp only [results, hres]
      go_simp
    · rw [HE.out]
      exact ⟨⟨_, rfl⟩, (DSTo.own H.out HOF.out HT.out ((HO2.out.mono (fun _ _ h => by simp at h ⊢; omega)).trans (K3.out.mono (fun _ _ h => by simp at h ⊢; omega)) (fun _ _ h => h)) HKK.out).le (by omega)⟩
  by_cases hk1 : what = 1
  · subst hk1
    have HE := Lib.hid (show askD D ⟨1, path, q, data, mode⟩ = (D.mkdir path).2 from rfl)
    have hop := Lib.hid (dmkdir_call p n G D path W HDS.out (by have := HN.out; omega) HS.out.1)
    clear HG
    obtain ⟨er, her⟩ : ∃ er, (D.mkdir path).1 = er := ⟨_, rfl⟩
    rw [her] at hop
    clear her
    go_wp2_with fail
    refine hop.out.mono ?_
    rintro e w1 ⟨rfl, hT⟩
    have HT := Lib.hid hT
    clear hT hop
    obtain ⟨G1, h1, ho1, hp1⟩ := HT.out
    have hb1 := HB1.out.off ho1 (HNO.out _ (by omega) (by have := HSZ.out; omega))
    have hb2 := HB2.out.off ho1 (HNO.out _ (by omega) (by have := HSZ.out; omega))
    have hb3 := HB3.out.off ho1 (HNO.out _ (by omega) (by have := HSZ.out; omega))
    have hb4 := HB4.out.off ho1 (HNO.out _ (by omega) (by have := HSZ.out; omega))
    clear h1 ho1 hp1
    go_upto_region 28 with fail
    refine code_gen (fun W2 => Blk W2 (w.heap.size + 1) 30 #[.string ⟨#[]⟩, .int .i64 0, .string ⟨#[]⟩, .int .i64 0] ∧ Blk W2 (w.heap.size + 2) 39 #[.int .i64 0, .int .i64 0, .int .i64 0] ∧ Blk W2 (w.heap.size + 3) 30 #[.string ⟨#[]⟩, .int .i64 0, .string ⟨#[]⟩, .int .i64 0] ∧ Blk W2 (w.heap.size + 4) 39 #[.int .i64 0, .int .i64 0, .int .i64 0] ∧ Off [w.heap.size + 3, w.heap.size + 4] w1 W2) ⟨hb1, hb2, hb3, hb4, Off.refl _ _⟩ ?_
    clear hb1 hb2 hb3 hb4
    rintro W2 ⟨hb1, hb2, hb3, hb4, ho2⟩
    have hc1 := hb1.cell
    have hf1 := hb1.frozen
    have hl1 := hb1.lt
    have HC1 := Lib.hid hb1
    have hc2 := hb2.cell
    have hf2 := hb2.frozen
    have hl2 := hb2.lt
    have HC2 := Lib.hid hb2
    have hc3 := hb3.cell
    have hc4 := hb4.cell
    have HO2 := Lib.hid ho2
    clear hb1 hb2 hb3 hb4 ho2
    go_region
    obtain ⟨k1, k2, k3⟩ := put7 (a := .string ⟨#[]⟩) (b := .int .i64 0) (c := .string ⟨#[]⟩) (d := .int .i64 0) (x := .int .i64 0) (y := .int .i64 0) (z := .int .i64 0) HC1.out HC2.out
    have he1 := k1.drew.cell
    have he2 := k2.drew.cell
    have K3 := Lib.hid k3.drew
    clear k1 k2 k3 hc1 hf1 hl1 hc2 hf2 hl2 hc3 hc4
    go_wp2_with fail
    refine bodyPost_ret (v := .tuple #[.int .i64 er, .agg #[.string ⟨#[]⟩, .int .i64 0, .string ⟨#[]⟩, .int .i64 0], .agg #[.int .i64 0, .int .i64 0, .int .i64 0], .slice none 0 0]) ?_ rfl ?_
    · have hres : Tryz.f35.results = #[.tmp 4, .cell 5 30, .cell 6 39, .tmp 7] := rfl
      simp only [results, hres]
      go_simp
    · rw [HE.out]
      exact ⟨⟨_, rfl⟩, (DSTo.own H.out HOF.out HT.out ((HO2.out.mono (fun _ _ h => by simp at h ⊢; omega)).trans (K3.out.mono (fun _ _ h => by simp at h ⊢; omega)) (fun _ _ h => h)) HKK.out).le (by omega)⟩
  by_cases hk2 : what = 2
  · subst hk2
    have HE := Lib.hid (show askD D ⟨2, path, q, data, mode⟩ = (D.link path q).2 from rfl)
    have hop := Lib.hid (dlink_call p n G D path q W HDS.out (by have := HN.out; omega) HS.out.1)
    clear HG
    obtain ⟨er, her⟩ : ∃ er, (D.link path q).1 = er := ⟨_, rfl⟩
    rw [her] at hop
    clear her
    go_wp2_with fail
    refine hop.out.mono ?_
    rintro e w1 ⟨rfl, hT⟩
    have HT := Lib.hid hT
    clear hT hop
    obtain ⟨G1, h1, ho1, hp1⟩ := HT.out
    have hb1 := HB1.out.off ho1 (HNO.out _ (by omega) (by have := HSZ.out; omega))
    have hb2 := HB2.out.off ho1 (HNO.out _ (by omega) (by have := HSZ.out; omega))
    have hb3 := HB3.out.off ho1 (HNO.out _ (by omega) (by have := HSZ.out; omega))
    have hb4 := HB4.out.off ho1 (HNO.out _ (by omega) (by have := HSZ.out; omega))
    clear h1 ho1 hp1
    go_upto_region 28 with fail
    refine code_gen (fun W2 => Blk W2 (w.heap.size + 1) 30 #[.string ⟨#[]⟩, .int .i64 0, .string ⟨#[]⟩, .int .i64 0] ∧ Blk W2 (w.heap.size + 2) 39 #[.int .i64 0, .int .i64 0, .int .i64 0] ∧ Blk W2 (w.heap.size + 3) 30 #[.string ⟨#[]⟩, .int .i64 0, .string ⟨#[]⟩, .int .i64 0] ∧ Blk W2 (w.heap.size + 4) 39 #[.int .i64 0, .int .i64 0, .int .i64 0] ∧ Off [w.heap.size + 3, w.heap.size + 4] w1 W2) ⟨hb1, hb2, hb3, hb4, Off.refl _ _⟩ ?_
    clear hb1 hb2 hb3 hb4
    rintro W2 ⟨hb1, hb2, hb3, hb4, ho2⟩
    have hc1 := hb1.cell
    have hf1 := hb1.frozen
    have hl1 := hb1.lt
    have HC1 := Lib.hid hb1
    have hc2 := hb2.cell
    have hf2 := hb2.frozen
    have hl2 := hb2.lt
    have HC2 := Lib.hid hb2
    have hc3 := hb3.cell
    have hc4 := hb4.cell
    have HO2 := Lib.hid ho2
    clear hb1 hb2 hb3 hb4 ho2
    go_region
    obtain ⟨k1, k2, k3⟩ := put7 (a := .string ⟨#[]⟩) (b := .int .i64 0) (c := .string ⟨#[]⟩) (d := .int .i64 0) (x := .int .i64 0) (y := .int .i64 0) (z := .int .i64 0) HC1.out HC2.out
    have he1 := k1.drew.cell
    have he2 := k2.drew.cell
    have K3 := Lib.hid k3.drew
    clear k1 k2 k3 hc1 hf1 hl1 hc2 hf2 hl2 hc3 hc4
    go_wp2_with fail
    refine bodyPost_ret (v := .tuple #[.int .i64 er, .agg #[.string ⟨#[]⟩, .int .i64 0, .string ⟨#[]⟩, .int .i64 0], .agg #[.int .i64 0, .int .i64 0, .int .i64 0], .slice none 0 0]) ?_ rfl ?_
    · have hres : Tryz.f35.results = #[.tmp 4, .cell 5 30, .cell 6 39, .tmp 7] := rfl
      simp only [results, hres]
      go_simp
    · rw [HE.out]
      exact ⟨⟨_, rfl⟩, (DSTo.own H.out HOF.out HT.out ((HO2.out.mono (fun _ _ h => by simp at h ⊢; omega)).trans (K3.out.mono (fun _ _ h => by simp at h ⊢; omega)) (fun _ _ h => h)) HKK.out).le (by omega)⟩
  by_cases hk3 : what = 3
  · subst hk3
    have HE := Lib.hid (show askD D ⟨3, path, q, data, mode⟩ = (D.remove path).2 from rfl)
    have hop := Lib.hid (dremove_call p n G D path W HDS.out (by have := HN.out; omega) HS.out.1)
    clear HG
    obtain ⟨er, her⟩ : ∃ er, (D.remove path).1 = er := ⟨_, rfl⟩
    rw [her] at hop
    clear her
    go_wp2_with fail
    refine hop.out.mono ?_
    rintro e w1 ⟨rfl, hT⟩
    have HT := Lib.hid hT
    clear hT hop
    obtain ⟨G1, h1, ho1, hp1⟩ := HT.out
    have hb1 := HB1.out.off ho1 (HNO.out _ (by omega) (by have := HSZ.out; omega))
    have hb2 := HB2.out.off ho1 (HNO.out _ (by omega) (by have := HSZ.out; omega))
    have hb3 := HB3.out.off ho1 (HNO.out _ (by omega) (by have := HSZ.out; omega))
    have hb4 := HB4.out.off ho1 (HNO.out _ (by omega) (by have := HSZ.out; omega))
    clear h1 ho1 hp1
    go_upto_region 28 with fail
    refine code_gen (fun W2 => Blk W2 (w.heap.size + 1) 30 #[.string ⟨#[]⟩, .int .i64 0, .string ⟨#[]⟩, .int .i64 0] ∧ Blk W2 (w.heap.size + 2) 39 #[.int .i64 0, .int .i64 0, .int .i64 0] ∧ Blk W2 (w.heap.size + 3) 30 #[.string ⟨#[]⟩, .int .i64 0, .string ⟨#[]⟩, .int .i64 0] ∧ Blk W2 (w.heap.size + 4) 39 #[.int .i64 0, .int .i64 0, .int .i64 0] ∧ Off [w.heap.size + 3, w.heap.size + 4] w1 W2) ⟨hb1, hb2, hb3, hb4, Off.refl _ _⟩ ?_
    clear hb1 hb2 hb3 hb4
    rintro W2 ⟨hb1, hb2, hb3, hb4, ho2⟩
    have hc1 := hb1.cell
    have hf1 := hb1.frozen
    have hl1 := hb1.lt
    have HC1 := Lib.hid hb1
    have hc2 := hb2.cell
    have hf2 := hb2.frozen
    have hl2 := hb2.lt
    have HC2 := Lib.hid hb2
    have hc3 := hb3.cell
    have hc4 := hb4.cell
    have HO2 := Lib.hid ho2
    clear hb1 hb2 hb3 hb4 ho2
    go_region
    obtain ⟨k1, k2, k3⟩ := put7 (a := .string ⟨#[]⟩) (b := .int .i64 0) (c := .string ⟨#[]⟩) (d := .int .i64 0) (x := .int .i64 0) (y := .int .i64 0) (z := .int .i64 0) HC1.out HC2.out
    have he1 := k1.drew.cell
    have he2 := k2.drew.cell
    have K3 := Lib.hid k3.drew
    clear k1 k2 k3 hc1 hf1 hl1 hc2 hf2 hl2 hc3 hc4
    go_wp2_with fail
    refine bodyPost_ret (v := .tuple #[.int .i64 er, .agg #[.string ⟨#[]⟩, .int .i64 0, .string ⟨#[]⟩, .int .i64 0], .agg #[.int .i64 0, .int .i64 0, .int .i64 0], .slice none 0 0]) ?_ rfl ?_
    · have hres : Tryz.f35.results = #[.tmp 4, .cell 5 30, .cell 6 39, .tmp 7] := rfl
      simp only [results, hres]
      go_simp
    · rw [HE.out]
      exact ⟨⟨_, rfl⟩, (DSTo.own H.out HOF.out HT.out ((HO2.out.mono (fun _ _ h => by simp at h ⊢; omega)).trans (K3.out.mono (fun _ _ h => by simp at h ⊢; omega)) (fun _ _ h => h)) HKK.out).le (by omega)⟩
  by_cases hk4 : what = 4
  · subst hk4
    have HE := Lib.hid (show askD D ⟨4, path, q, data, mode⟩ = (D.move path q).2 from rfl)
    have hop := Lib.hid (dmove_call p n G D path q W HDS.out (by have := HN.out; omega) HS.out.1 HS.out.2 HFR.out)
    clear HG
    obtain ⟨er, her⟩ : ∃ er, (D.move path q).1 = er := ⟨_, rfl⟩
    rw [her] at hop
    clear her
    go_wp2_with fail
    refine hop.out.mono ?_
    rintro e w1 ⟨rfl, hT⟩
    have HT := Lib.hid hT
    clear hT hop
    obtain ⟨G1, h1, ho1, hp1⟩ := HT.out
    have hb1 := HB1.out.off ho1 (HNO.out _ (by omega) (by have := HSZ.out; omega))
    have hb2 := HB2.out.off ho1 (HNO.out _ (by omega) (by have := HSZ.out; omega))
    have hb3 := HB3.out.off ho1 (HNO.out _ (by omega) (by have := HSZ.out; omega))
    have hb4 := HB4.out.off ho1 (HNO.out _ (by omega) (by have := HSZ.out; omega))
    clear h1 ho1 hp1
    go_upto_region 28 with fail
    refine code_gen (fun W2 => Blk W2 (w.heap.size + 1) 30 #[.string ⟨#[]⟩, .int .i64 0, .string ⟨#[]⟩, .int .i64 0] ∧ Blk W2 (w.heap.size + 2) 39 #[.int .i64 0, .int .i64 0, .int .i64 0] ∧ Blk W2 (w.heap.size + 3) 30 #[.string ⟨#[]⟩, .int .i64 0, .string ⟨#[]⟩, .int .i64 0] ∧ Blk W2 (w.heap.size + 4) 39 #[.int .i64 0, .int .i64 0, .int .i64 0] ∧ Off [w.heap.size + 3, w.heap.size + 4] w1 W2) ⟨hb1, hb2, hb3, hb4, Off.refl _ _⟩ ?_
    clear hb1 hb2 hb3 hb4
    rintro W2 ⟨hb1, hb2, hb3, hb4, ho2⟩
    have hc1 := hb1.cell
    have hf1 := hb1.frozen
    have hl1 := hb1.lt
    have HC1 := Lib.hid hb1
    have hc2 := hb2.cell
    have hf2 := hb2.frozen
    have hl2 := hb2.lt
    have HC2 := Lib.hid hb2
    have hc3 := hb3.cell
    have hc4 := hb4.cell
    have HO2 := Lib.hid ho2
    clear hb1 hb2 hb3 hb4 ho2
    go_region
    obtain ⟨k1, k2, k3⟩ := put7 (a := .string ⟨#[]⟩) (b := .int .i64 0) (c := .string ⟨#[]⟩) (d := .int .i64 0) (x := .int .i64 0) (y := .int .i64 0) (z := .int .i64 0) HC1.out HC2.out
    have he1 := k1.drew.cell
    have he2 := k2.drew.cell
    have K3 := Lib.hid k3.drew
    clear k1 k2 k3 hc1 hf1 hl1 hc2 hf2 hl2 hc3 hc4
    go_wp2_with fail
    refine bodyPost_ret (v := .tuple #[.int .i64 er, .agg #[.string ⟨#[]⟩, .int .i64 0, .string ⟨#[]⟩, .int .i64 0], .agg #[.int .i64 0, .int .i64 0, .int .i64 0], .slice none 0 0]) ?_ rfl ?_
    · have hres : Tryz.f35.results = #[.tmp 4, .cell 5 30, .cell 6 39, .tmp 7] := rfl
      simp only [results, hres]
      go_simp
    · rw [HE.out]
      exact ⟨⟨_, rfl⟩, (DSTo.own H.out HOF.out HT.out ((HO2.out.mono (fun _ _ h => by simp at h ⊢; omega)).trans (K3.out.mono (fun _ _ h => by simp at h ⊢; omega)) (fun _ _ h => h)) HKK.out).le (by omega)⟩
  by_cases hk5 : what = 5
  · subst hk5
    have HE := Lib.hid (show askD D ⟨5, path, q, data, mode⟩ = (D.replace path q).2 from rfl)
    have hop := Lib.hid (dreplace_call p n G D path q W HDS.out (by have := HN.out; omega) HS.out.1 HS.out.2)
    clear HG
    obtain ⟨er, her⟩ : ∃ er, (D.replace path q).1 = er := ⟨_, rfl⟩
    rw [her] at hop
    clear her
    go_wp2_with fail
    refine hop.out.mono ?_
    rintro e w1 ⟨rfl, hT⟩
    have HT := Lib.hid hT
    clear hT hop
    obtain ⟨G1, h1, ho1, hp1⟩ := HT.out
    have hb1 := HB1.out.off ho1 (HNO.out _ (by omega) (by have := HSZ.out; omega))
    have hb2 := HB2.out.off ho1 (HNO.out _ (by omega) (by have := HSZ.out; omega))
    have hb3 := HB3.out.off ho1 (HNO.out _ (by omega) (by have := HSZ.out; omega))
    have hb4 := HB4.out.off ho1 (HNO.out _ (by omega) (by have := HSZ.out; omega))
    clear h1 ho1 hp1
    go_upto_region 28 with fail
    refine code_gen (fun W2 => Blk W2 (w.heap.size + 1) 30 #[.string ⟨#[]⟩, .int .i64 0, .string ⟨#[]⟩, .int .i64 0] ∧ Blk W2 (w.heap.size + 2) 39 #[.int .i64 0, .int .i64 0, .int .i64 0] ∧ Blk W2 (w.heap.size + 3) 30 #[.string ⟨#[]⟩, .int .i64 0, .string ⟨#[]⟩, .int .i64 0] ∧ Blk W2 (w.heap.size + 4) 39 #[.int .i64 0, .int .i64 0, .int .i64 0] ∧ Off [w.heap.size + 3, w.heap.size + 4] w1 W2) ⟨hb1, hb2, hb3, hb4, Off.refl _ _⟩ ?_
    clear hb1 hb2 hb3 hb4
    rintro W2 ⟨hb1, hb2, hb3, hb4, ho2⟩
    have hc1 := hb1.cell
    have hf1 := hb1.frozen
    have hl1 := hb1.lt
    have HC1 := Lib.hid hb1
    have hc2 := hb2.cell
    have hf2 := hb2.frozen
    have hl2 := hb2.lt
    have HC2 := Lib.hid hb2
    have hc3 := hb3.cell
    have hc4 := hb4.cell
    have HO2 := Lib.hid ho2
    clear hb1 hb2 hb3 hb4 ho2
    go_region
    obtain ⟨k1, k2, k3⟩ := put7 (a := .string ⟨#[]⟩) (b := .int .i64 0) (c := .string ⟨#[]⟩) (d := .int .i64 0) (x := .int .i64 0) (y := .int .i64 0) (z := .int .i64 0) HC1.out HC2.out
    have he1 := k1.drew.cell
    have he2 := k2.drew.cell
    have K3 := Lib.hid k3.drew
    clear k1 k2 k3 hc1 hf1 hl1 hc2 hf2 hl2 hc3 hc4
    go_wp2_with fail
    refine bodyPost_ret (v := .tuple #[.int .i64 er, .agg #[.string ⟨#[]⟩, .int .i64 0, .string ⟨#[]⟩, .int .i64 0], .agg #[.int .i64 0, .int .i64 0, .int .i64 0], .slice none 0 0]) ?_ rfl ?_
    · have hres : Tryz.f35.results = #[.tmp 4, .cell 5 30, .cell 6 39, .tmp 7] := rfl
      simp only [results, hres]
      go_simp
    · rw [HE.out]
      exact ⟨⟨_, rfl⟩, (DSTo.own H.out HOF.out HT.out ((HO2.out.mono (fun _ _ h => by simp at h ⊢; omega)).trans (K3.out.mono (fun _ _ h => by simp at h ⊢; omega)) (fun _ _ h => h)) HKK.out).le (by omega)⟩
  by_cases hk6 : what = 6
  · subst hk6
    have HE := Lib.hid (show askD D ⟨6, path, q, data, mode⟩ = (D.sync path).2 from rfl)
    have hop := Lib.hid (dsync_call p n G D path W HDS.out (by have := HN.out; omega) HS.out.1)
    clear HG
    obtain ⟨er, her⟩ : ∃ er, (D.sync path).1 = er := ⟨_, rfl⟩
    rw [her] at hop
    clear her
    go_wp2_with fail
    refine hop.out.mono ?_
    rintro e w1 ⟨rfl, hT⟩
    have HT := Lib.hid hT
    clear hT hop
    obtain ⟨G1, h1, ho1, hp1⟩ := HT.out
    have hb1 := HB1.out.off ho1 (HNO.out _ (by omega) (by have := HSZ.out; omega))
    have hb2 := HB2.out.off ho1 (HNO.out _ (by omega) (by have := HSZ.out; omega))
    have hb3 := HB3.out.off ho1 (HNO.out _ (by omega) (by have := HSZ.out; omega))
    have hb4 := HB4.out.off ho1 (HNO.out _ (by omega) (by have := HSZ.out; omega))
    clear h1 ho1 hp1
    go_upto_region 28 with fail
    refine code_gen (fun W2 => Blk W2 (w.heap.size + 1) 30 #[.string ⟨#[]⟩, .int .i64 0, .string ⟨#[]⟩, .int .i64 0] ∧ Blk W2 (w.heap.size + 2) 39 #[.int .i64 0, .int .i64 0, .int .i64 0] ∧ Blk W2 (w.heap.size + 3) 30 #[.string ⟨#[]⟩, .int .i64 0, .string ⟨#[]⟩, .int .i64 0] ∧ Blk W2 (w.heap.size + 4) 39 #[.int .i64 0, .int .i64 0, .int .i64 0] ∧ Off [w.heap.size + 3, w.heap.size + 4] w1 W2) ⟨hb1, hb2, hb3, hb4, Off.refl _ _⟩ ?_
    clear hb1 hb2 hb3 hb4
    rintro W2 ⟨hb1, hb2, hb3, hb4, ho2⟩
    have hc1 := hb1.cell
    have hf1 := hb1.frozen
    have hl1 := hb1.lt
    have HC1 := Lib.hid hb1
    have hc2 := hb2.cell
    have hf2 := hb2.frozen
    have hl2 := hb2.lt
    have HC2 := Lib.hid hb2
    have hc3 := hb3.cell
    have hc4 := hb4.cell
    have HO2 := Lib.hid ho2
    clear hb1 hb2 hb3 hb4 ho2
    go_region
    obtain ⟨k1, k2, k3⟩ := put7 (a := .string ⟨#[]⟩) (b := .int .i64 0) (c := .string ⟨#[]⟩) (d := .int .i64 0) (x := .int .i64 0) (y := .int .i64 0) (z := .int .i64 0) HC1.out HC2.out
    have he1 := k1.drew.cell
    have he2 := k2.drew.cell
    have K3 := Lib.hid k3.drew
    clear k1 k2 k3 hc1 hf1 hl1 hc2 hf2 hl2 hc3 hc4
    go_wp2_with fail
    refine bodyPost_ret (v := .tuple #[.int .i64 er, .agg #[.string ⟨#[]⟩, .int .i64 0, .string ⟨#[]⟩, .int .i64 0], .agg #[.int .i64 0, .int .i64 0, .int .i64 0], .slice none 0 0]) ?_ rfl ?_
    · have hres : Tryz.f35.results = #[.tmp 4, .cell 5 30, .cell 6 39, .tmp 7] := rfl
      simp only [results, hres]
      go_simp
    · rw [HE.out]
      exact ⟨⟨_, rfl⟩, (DSTo.own H.out HOF.out HT.out ((HO2.out.mono (fun _ _ h => by simp at h ⊢; omega)).trans (K3.out.mono (fun _ _ h => by simp at h ⊢; omega)) (fun _ _ h => h)) HKK.out).le (by omega)⟩
  by_cases hk7 : what = 7
  · subst hk7
    have HE := Lib.hid (show askD D ⟨7, path, q, data, mode⟩ = D.flush.2 from rfl)
    have hop := Lib.hid (flush_call p n G D W HDS.out (by have := HN.out; omega))
    clear HG
    obtain ⟨er, her⟩ : ∃ er, D.flush.1 = er := ⟨_, rfl⟩
    rw [her] at hop
    clear her
    go_wp2_with fail
    refine hop.out.mono ?_
    rintro e w1 ⟨rfl, hT⟩
    have HT := Lib.hid hT
    clear hT hop
    obtain ⟨G1, h1, ho1, hp1⟩ := HT.out
    have hb1 := HB1.out.off ho1 (HNO.out _ (by omega) (by have := HSZ.out; omega))
    have hb2 := HB2.out.off ho1 (HNO.out _ (by omega) (by have := HSZ.out; omega))
    have hb3 := HB3.out.off ho1 (HNO.out _ (by omega) (by have := HSZ.out; omega))
    have hb4 := HB4.out.off ho1 (HNO.out _ (by omega) (by have := HSZ.out; omega))
    clear h1 ho1 hp1
    go_upto_region 28 with fail
    refine code_gen (fun W2 => Blk W2 (w.heap.size + 1) 30 #[.string ⟨#[]⟩, .int .i64 0, .string ⟨#[]⟩, .int .i64 0] ∧ Blk W2 (w.heap.size + 2) 39 #[.int .i64 0, .int .i64 0, .int .i64 0] ∧ Blk W2 (w.heap.size + 3) 30 #[.string ⟨#[]⟩, .int .i64 0, .string ⟨#[]⟩, .int .i64 0] ∧ Blk W2 (w.heap.size + 4) 39 #[.int .i64 0, .int .i64 0, .int .i64 0] ∧ Off [w.heap.size + 3, w.heap.size + 4] w1 W2) ⟨hb1, hb2, hb3, hb4, Off.refl _ _⟩ ?_
    clear hb1 hb2 hb3 hb4
    rintro W2 ⟨hb1, hb2, hb3, hb4, ho2⟩
    have hc1 := hb1.cell
    have hf1 := hb1.frozen
    have hl1 := hb1.lt
    have HC1 := Lib.hid hb1
    have hc2 := hb2.cell
    have hf2 := hb2.frozen
    have hl2 := hb2.lt
    have HC2 := Lib.hid hb2
    have hc3 := hb3.cell
    have hc4 := hb4.cell
    have HO2 := Lib.hid ho2
    clear hb1 hb2 hb3 hb4 ho2
    go_region
    obtain ⟨k1, k2, k3⟩ := put7 (a := .string ⟨#[]⟩) (b := .int .i64 0) (c := .string ⟨#[]⟩) (d := .int .i64 0) (x := .int .i64 0) (y := .int .i64 0) (z := .int .i64 0) HC1.out HC2.out
    have he1 := k1.drew.cell
    have he2 := k2.drew.cell
    have K3 := Lib.hid k3.drew
    clear k1 k2 k3 hc1 hf1 hl1 hc2 hf2 hl2 hc3 hc4
    go_wp2_with fail
    refine bodyPost_ret (v := .tuple #[.int .i64 er, .agg #[.string ⟨#[]⟩, .int .i64 0, .string ⟨#[]⟩, .int .i64 0], .agg #[.int .i64 0, .int .i64 0, .int .i64 0], .slice none 0 0]) ?_ rfl ?_
    · have hres : Tryz.f35.results = #[.tmp 4, .cell 5 30, .cell 6 39, .tmp 7] := rfl
      simp only [results, hres]
      go_simp
    · rw [HE.out]
      exact ⟨⟨_, rfl⟩, (DSTo.own H.out HOF.out HT.out ((HO2.out.mono (fun _ _ h => by simp at h ⊢; omega)).trans (K3.out.mono (fun _ _ h => by simp at h ⊢; omega)) (fun _ _ h => h)) HKK.out).le (by omega)⟩
  by_cases hk8 : what = 8
  · subst hk8
    have HE := Lib.hid (show askD D ⟨8, path, q, data, mode⟩ = (D.get path).2 from rfl)
    have hop := Lib.hid (dget_call p n G D path W HDS.out (by have := HN.out; omega) HS.out.1)
    clear HG
    unfold getVal at hop
    obtain ⟨⟨ge, nd, gi, gs, gt⟩, hgv⟩ : ∃ g, (D.get path).1 = g := ⟨_, rfl⟩
    rw [hgv] at hop
    clear hgv
    go_wp2_with fail
    refine hop.out.mono ?_
    rintro e w1 ⟨rfl, hT⟩
    have HT := Lib.hid hT
    clear hT hop
    obtain ⟨G1, h1, ho1, hp1⟩ := HT.out
    have hb1 := HB1.out.off ho1 (HNO.out _ (by omega) (by have := HSZ.out; omega))
    have hb2 := HB2.out.off ho1 (HNO.out _ (by omega) (by have := HSZ.out; omega))
    have hb3 := HB3.out.off ho1 (HNO.out _ (by omega) (by have := HSZ.out; omega))
    have hb4 := HB4.out.off ho1 (HNO.out _ (by omega) (by have := HSZ.out; omega))
    clear h1 ho1 hp1
    have hc3 := hb3.cell
    have hf3 := hb3.frozen
    have hl3 := hb3.lt
    have hc4 := hb4.cell
    have hf4 := hb4.frozen
    have hl4 := hb4.lt
    go_upto_region 28 with fail
    obtain ⟨k1, k2, k3⟩ := put7 (a := .string nd.path) (b := .int .i64 nd.kind) (c := .string nd.data) (d := .int .i64 nd.mode) (x := .int .i64 gi) (y := .int .i64 gs) (z := .int .i64 gt) hb3 hb4
    have j1 := hb1.off k3 (by simp)
    have j2 := hb2.off k3 (by simp)
    refine code_gen (fun W2 => Blk W2 (w.heap.size + 1) 30 #[.string ⟨#[]⟩, .int .i64 0, .string ⟨#[]⟩, .int .i64 0] ∧ Blk W2 (w.heap.size + 2) 39 #[.int .i64 0, .int .i64 0, .int .i64 0] ∧ Blk W2 (w.heap.size + 3) 30 #[.string nd.path, .int .i64 nd.kind, .string nd.data, .int .i64 nd.mode] ∧ Blk W2 (w.heap.size + 4) 39 #[.int .i64 gi, .int .i64 gs, .int .i64 gt] ∧ Off [w.heap.size + 3, w.heap.size + 4] w1 W2) ⟨j1, j2, k1, k2, k3⟩ ?_
    clear hc3 hf3 hl3 hc4 hf4 hl4 k1 k2 k3 j1 j2
    clear hb1 hb2 hb3 hb4
    rintro W2 ⟨hb1, hb2, hb3, hb4, ho2⟩
    have hc1 := hb1.cell
    have hf1 := hb1.frozen
    have hl1 := hb1.lt
    have HC1 := Lib.hid hb1
    have hc2 := hb2.cell
    have hf2 := hb2.frozen
    have hl2 := hb2.lt
    have HC2 := Lib.hid hb2
    have hc3 := hb3.cell
    have hc4 := hb4.cell
    have HO2 := Lib.hid ho2
    clear hb1 hb2 hb3 hb4 ho2
    go_region
    obtain ⟨k1, k2, k3⟩ := put7 (a := .string nd.path) (b := .int .i64 nd.kind) (c := .string nd.data) (d := .int .i64 nd.mode) (x := .int .i64 gi) (y := .int .i64 gs) (z := .int .i64 gt) HC1.out HC2.out
    have he1 := k1.drew.cell
    have he2 := k2.drew.cell
    have K3 := Lib.hid k3.drew
    clear k1 k2 k3 hc1 hf1 hl1 hc2 hf2 hl2 hc3 hc4
    go_wp2_with fail
    refine bodyPost_ret (v := .tuple #[.int .i64 ge, .agg #[.string nd.path, .int .i64 nd.kind, .string nd.data, .int .i64 nd.mode], .agg #[.int .i64 gi, .int .i64 gs, .int .i64 gt], .slice none 0 0]) ?_ rfl ?_
    · have hres : Tryz.f35.results = #[.tmp 4, .cell 5 30, .cell 6 39, .tmp 7] := rfl
      simp only [results, hres]
      go_simp
    · rw [HE.out]
      exact ⟨⟨_, rfl⟩, (DSTo.own H.out HOF.out HT.out ((HO2.out.mono (fun _ _ h => by simp at h ⊢; omega)).trans (K3.out.mono (fun _ _ h => by simp at h ⊢; omega)) (fun _ _ h => h)) HKK.out).le (by omega)⟩
  by_cases hk9 : what = 9
  · subst hk9
    have HE := Lib.hid (show askD D ⟨9, path, q, data, mode⟩ = (D.namesC path).2 from rfl)
    have hop := Lib.hid (dnames_call p n G D path W HDS.out (by have := HN.out; omega) HS.out.1 HFF.out)
    clear HG
    obtain ⟨ne, hne⟩ : ∃ ne, (D.namesC path).1.2 = ne := ⟨_, rfl⟩
    rw [hne] at hop
    clear hne
    go_wp2_with fail
    refine hop.out.mono ?_
    rintro e w1 ⟨v, wm, rfl, -, hTm, hom⟩
    have hT := hTm.off hom
    clear hTm hom
    have HT := Lib.hid hT
    clear hT hop
    obtain ⟨G1, h1, ho1, hp1⟩ := HT.out
    have hb1 := HB1.out.off ho1 (HNO.out _ (by omega) (by have := HSZ.out; omega))
    have hb2 := HB2.out.off ho1 (HNO.out _ (by omega) (by have := HSZ.out; omega))
    have hb3 := HB3.out.off ho1 (HNO.out _ (by omega) (by have := HSZ.out; omega))
    have hb4 := HB4.out.off ho1 (HNO.out _ (by omega) (by have := HSZ.out; omega))
    clear h1 ho1 hp1
    go_upto_region 28 with fail
    refine code_gen (fun W2 => Blk W2 (w.heap.size + 1) 30 #[.string ⟨#[]⟩, .int .i64 0, .string ⟨#[]⟩, .int .i64 0] ∧ Blk W2 (w.heap.size + 2) 39 #[.int .i64 0, .int .i64 0, .int .i64 0] ∧ Blk W2 (w.heap.size + 3) 30 #[.string ⟨#[]⟩, .int .i64 0, .string ⟨#[]⟩, .int .i64 0] ∧ Blk W2 (w.heap.size + 4) 39 #[.int .i64 0, .int .i64 0, .int .i64 0] ∧ Off [w.heap.size + 3, w.heap.size + 4] w1 W2) ⟨hb1, hb2, hb3, hb4, Off.refl _ _⟩ ?_
    clear hb1 hb2 hb3 hb4
    rintro W2 ⟨hb1, hb2, hb3, hb4, ho2⟩
    have hc1 := hb1.cell
    have hf1 := hb1.frozen
    have hl1 := hb1.lt
    have HC1 := Lib.hid hb1
    have hc2 := hb2.cell
    have hf2 := hb2.frozen
    have hl2 := hb2.lt
    have HC2 := Lib.hid hb2
    have hc3 := hb3.cell
    have hc4 := hb4.cell
    have HO2 := Lib.hid ho2
    clear hb1 hb2 hb3 hb4 ho2
    go_region
    obtain ⟨k1, k2, k3⟩ := put7 (a := .string ⟨#[]⟩) (b := .int .i64 0) (c := .string ⟨#[]⟩) (d := .int .i64 0) (x := .int .i64 0) (y := .int .i64 0) (z := .int .i64 0) HC1.out HC2.out
    have he1 := k1.drew.cell
    have he2 := k2.drew.cell
    have K3 := Lib.hid k3.drew
    clear k1 k2 k3 hc1 hf1 hl1 hc2 hf2 hl2 hc3 hc4
    go_wp2_with fail
    refine bodyPost_ret (v := .tuple #[.int .i64 ne, .agg #[.string ⟨#[]⟩, .int .i64 0, .string ⟨#[]⟩, .int .i64 0], .agg #[.int .i64 0, .int .i64 0, .int .i64 0], v]) ?_ rfl ?_
    · have hres : Tryz.f35.results = #[.tmp 4, .cell 5 30, .cell 6 39, .tmp 7] := rfl
      simp only [results, hres]
      go_simp
    · rw [HE.out]
      exact ⟨⟨_, rfl⟩, (DSTo.own H.out HOF.out HT.out ((HO2.out.mono (fun _ _ h => by simp at h ⊢; omega)).trans (K3.out.mono (fun _ _ h => by simp at h ⊢; omega)) (fun _ _ h => h)) HKK.out).le (by omega)⟩
  by_cases hk10 : what = 10
  · subst hk10
    have HE := Lib.hid (show askD D ⟨10, path, q, data, mode⟩ = D.boot [] from rfl)
    have hop := Lib.hid (dboot_call p n G D none [] 0 0 W HDS.out (FRow.nil _ _) rfl (by decide) (fun _ => rfl))
    clear HG
    go_wp2_with fail
    refine hop.out.mono ?_
    rintro e w1 ⟨rfl, hT⟩
    have HT := Lib.hid hT
    clear hT hop
    obtain ⟨G1, h1, ho1, hp1⟩ := HT.out
    have hb1 := HB1.out.off ho1 (HNO.out _ (by omega) (by have := HSZ.out; omega))
    have hb2 := HB2.out.off ho1 (HNO.out _ (by omega) (by have := HSZ.out; omega))
    have hb3 := HB3.out.off ho1 (HNO.out _ (by omega) (by have := HSZ.out; omega))
    have hb4 := HB4.out.off ho1 (HNO.out _ (by omega) (by have := HSZ.out; omega))
    clear h1 ho1 hp1
    go_upto_region 28 with fail
    refine code_gen (fun W2 => Blk W2 (w.heap.size + 1) 30 #[.string ⟨#[]⟩, .int .i64 0, .string ⟨#[]⟩, .int .i64 0] ∧ Blk W2 (w.heap.size + 2) 39 #[.int .i64 0, .int .i64 0, .int .i64 0] ∧ Blk W2 (w.heap.size + 3) 30 #[.string ⟨#[]⟩, .int .i64 0, .string ⟨#[]⟩, .int .i64 0] ∧ Blk W2 (w.heap.size + 4) 39 #[.int .i64 0, .int .i64 0, .int .i64 0] ∧ Off [w.heap.size + 3, w.heap.size + 4] w1 W2) ⟨hb1, hb2, hb3, hb4, Off.refl _ _⟩ ?_
    clear hb1 hb2 hb3 hb4
    rintro W2 ⟨hb1, hb2, hb3, hb4, ho2⟩
    have hc1 := hb1.cell
    have hf1 := hb1.frozen
    have hl1 := hb1.lt
    have HC1 := Lib.hid hb1
    have hc2 := hb2.cell
    have hf2 := hb2.frozen
    have hl2 := hb2.lt
    have HC2 := Lib.hid hb2
    have hc3 := hb3.cell
    have hc4 := hb4.cell
    have HO2 := Lib.hid ho2
    clear hb1 hb2 hb3 hb4 ho2
    go_region
    obtain ⟨k1, k2, k3⟩ := put7 (a := .string ⟨#[]⟩) (b := .int .i64 0) (c := .string ⟨#[]⟩) (d := .int .i64 0) (x := .int .i64 0) (y := .int .i64 0) (z := .int .i64 0) HC1.out HC2.out
    have he1 := k1.drew.cell
    have he2 := k2.drew.cell
    have K3 := Lib.hid k3.drew
    clear k1 k2 k3 hc1 hf1 hl1 hc2 hf2 hl2 hc3 hc4
    go_wp2_with fail
    refine bodyPost_ret (v := .tuple #[.int .i64 0, .agg #[.string ⟨#[]⟩, .int .i64 0, .string ⟨#[]⟩, .int .i64 0], .agg #[.int .i64 0, .int .i64 0, .int .i64 0], .slice none 0 0]) ?_ rfl ?_
    · have hres : Tryz.f35.results = #[.tmp 4, .cell 5 30, .cell 6 39, .tmp 7] := rfl
      simp only [results, hres]
      go_simp
    · rw [HE.out]
      exact ⟨⟨_, rfl⟩, (DSTo.own H.out HOF.out HT.out ((HO2.out.mono (fun _ _ h => by simp at h ⊢; omega)).trans (K3.out.mono (fun _ _ h => by simp at h ⊢; omega)) (fun _ _ h => h)) HKK.out).le (by omega)⟩
  have HE := Lib.hid (show askD D ⟨what, path, q, data, mode⟩ = D by rw [HG.out]; simp only [if_neg hk0, if_neg hk1, if_neg hk2, if_neg hk3, if_neg hk4, if_neg hk5, if_neg hk6, if_neg hk7, if_neg hk8, if_neg hk9, if_neg hk10])
  have HT := Lib.hid (HDS.out.refl)
  clear HG
  have hb1 := HB1.out
  have hb2 := HB2.out
  have hb3 := HB3.out
  have hb4 := HB4.out
  go_upto_region 28 with fail
  refine code_gen (fun W2 => Blk W2 (w.heap.size + 1) 30 #[.string ⟨#[]⟩, .int .i64 0, .string ⟨#[]⟩, .int .i64 0] ∧ Blk W2 (w.heap.size + 2) 39 #[.int .i64 0, .int .i64 0, .int .i64 0] ∧ Blk W2 (w.heap.size + 3) 30 #[.string ⟨#[]⟩, .int .i64 0, .string ⟨#[]⟩, .int .i64 0] ∧ Blk W2 (w.heap.size + 4) 39 #[.int .i64 0, .int .i64 0, .int .i64 0] ∧ Off [w.heap.size + 3, w.heap.size + 4] W W2) ⟨hb1, hb2, hb3, hb4, Off.refl _ _⟩ ?_
  clear hb1 hb2 hb3 hb4
  rintro W2 ⟨hb1, hb2, hb3, hb4, ho2⟩
  have hc1 := hb1.cell
  have hf1 := hb1.frozen
  have hl1 := hb1.lt
  have HC1 := Lib.hid hb1
  have hc2 := hb2.cell
  have hf2 := hb2.frozen
  have hl2 := hb2.lt
  have HC2 := Lib.hid hb2
  have hc3 := hb3.cell
  have hc4 := hb4.cell
  have HO2 := Lib.hid ho2
  clear hb1 hb2 hb3 hb4 ho2
  go_region
  obtain ⟨k1, k2, k3⟩ := put7 (a := .string ⟨#[]⟩) (b := .int .i64 0) (c := .string ⟨#[]⟩) (d := .int .i64 0) (x := .int .i64 0) (y := .int .i64 0) (z := .int .i64 0) HC1.out HC2.out
  have he1 := k1.drew.cell
  have he2 := k2.drew.cell
  have K3 := Lib.hid k3.drew
  clear k1 k2 k3 hc1 hf1 hl1 hc2 hf2 hl2 hc3 hc4
  go_wp2_with fail
  refine bodyPost_ret (v := .tuple #[.int .i64 0, .agg #[.string ⟨#[]⟩, .int .i64 0, .string ⟨#[]⟩, .int .i64 0], .agg #[.int .i64 0, .int .i64 0, .int .i64 0], .slice none 0 0]) ?_ rfl ?_
  · have hres : Tryz.f35.results = #[.tmp 4, .cell 5 30, .cell 6 39, .tmp 7] := rfl
    simp only [results, hres]
    go_simp
  · rw [HE.out]
    exact ⟨⟨_, rfl⟩, (DSTo.own H.out HOF.out HT.out ((HO2.out.mono (fun _ _ h => by simp at h ⊢; omega)).trans (K3.out.mono (fun _ _ h => by simp at h ⊢; omega)) (fun _ _ h => h)) HKK.out).le (by omega)⟩
end Go.Proofs.YtgcfkljooabjjaaGreatDoor

/- No call makes an inode's data over-long: the plain law. Conditions: none beyond what each lemma states. -/
namespace Go.Proofs.YtgcfkljooabjjaaGreatDoor
open Go.RowKit Go.Op Go.Maps

theorem Light.call {D : PDisk} (h : Light D) (c p q : ByteArray) (k : PDisk → Bool → Int × PDisk) (hk : ∀ E full, Light E → Light (k E full).2) : Light (D.call c p q k).2 := by
  have h1 := h.step c p q
  unfold PDisk.call
  generalize D.step c p q = st at h1
  obtain ⟨full, e, E⟩ := st
  dsimp only at h1 ⊢
  split
  · exact h1
  · exact hk E full h1
theorem Light.same {D E : PDisk} (h : Light D) (e : E.inos = D.inos) : Light E := fun m hm => h m (by rw [← e]; exact hm)
theorem Light.lay {D : PDisk} (h : Light D) (p : ByteArray) (n : Node) (full : Bool) (l : List (Bool × Int)) (hn : n.data.size ≤ maxLen) : Light (D.lay p n full l).2 := by
  unfold PDisk.lay
  dsimp only
  split
  · exact h
  · intro m hm
    rcases List.mem_append.1 (show m ∈ D.inos ++ [⟨n, D.clock, decide (n.kind = 1)⟩] from hm) with hm | hm
    · exact h m hm
    · simp at hm; subst hm; exact hn
theorem Light.set {D : PDisk} (h : Light D) (i : Nat) (x : Ino) (hx : x.node.data.size ≤ maxLen) : Light { D with inos := D.inos.set i x } := fun m hm => by
  rcases List.mem_or_eq_of_mem_set (show m ∈ D.inos.set i x from hm) with hm | rfl
  · exact h m hm
  · exact hx
theorem Light.at_ {D : PDisk} (h : Light D) {p : ByteArray} {m : Ino} (hm : D.at_ p = some m) : m.node.data.size ≤ maxLen := by
  unfold PDisk.at_ PDisk.inode at hm
  split at hm
  · cases hm
  · exact h m (List.mem_of_getElem? hm)
theorem Light.ask {D : PDisk} (h : Light D) (c : CallP) (hd : c.data.size ≤ maxLen) (ht : c.to_.size ≤ maxLen) : Light (askD D c) := by
  unfold askD
  split
  · refine h.call _ _ _ _ fun E full hE => ?_
    unfold PDisk.write_
    cases hat : E.at_ c.path with
    | none => exact hE.lay _ _ _ _ hd
    | some o =>
      dsimp only
      split
      · exact hE
      · exact Light.set hE _ (⟨⟨⟨#[]⟩, 1, c.data, c.mode⟩, E.clock, true⟩ : Ino) hd
  split
  · exact h.call _ _ _ _ fun E full hE => hE.lay _ _ _ _ (by decide)
  split
  · exact h.call _ _ _ _ fun E full hE => hE.lay _ _ _ _ ht
  split
  · refine h.call _ _ _ _ fun E full hE => ?_
    unfold PDisk.remove_
    dsimp only
    split
    · exact hE
    · exact hE.same rfl
  split
  · refine h.call _ _ _ _ fun E full hE => ?_
    unfold PDisk.move_
    dsimp only
    split
    · exact hE
    · split
      · exact hE
      · exact hE.same rfl
  split
  · refine h.call _ _ _ _ fun E full hE => ?_
    unfold PDisk.replace_
    dsimp only
    split
    · exact hE
    · exact hE.same rfl
  split
  · refine h.call _ _ _ _ fun E full hE => ?_
    unfold PDisk.sync_
    dsimp only
    split
    · exact hE
    · split
      · exact hE
      · rename_i m hm
        refine hE.set _ _ ?_
        have := hE.at_ hm
        exact this
  split
  · exact h.call _ _ _ _ fun E full hE => hE.same rfl
  split
  · have h1 := h.step ⟨#[71, 101, 116]⟩ c.path ⟨#[]⟩
    unfold PDisk.get
    generalize D.step ⟨#[71, 101, 116]⟩ c.path ⟨#[]⟩ = st at h1
    obtain ⟨full, e, E⟩ := st
    dsimp only at h1 ⊢
    split <;> exact h1
  split
  · have h1 := h.step ⟨#[78, 97, 109, 101, 115]⟩ c.path ⟨#[]⟩
    unfold PDisk.namesC
    generalize D.step ⟨#[78, 97, 109, 101, 115]⟩ c.path ⟨#[]⟩ = st at h1
    obtain ⟨full, e, E⟩ := st
    dsimp only at h1 ⊢
    split <;> exact h1
  split
  · exact h.same rfl
  · exact h
/-- a call of ask in a run: what was made since the disk's last call is kept -/
theorem run_ask {w0 wr w : World} {p n : Nat} {D : PDisk} (h : Run w0 wr p D n) (hof : Off [] wr w) (hn : n ≤ 80000) (hF : Light D) (c : CallP) (hs1 : c.path.size ≤ 9223372036854775807) (hs2 : c.to_.size ≤ 9223372036854775807)
    (hfr : ∀ E, (D.step ⟨#[77, 111, 118, 101]⟩ c.path c.to_).2.2 = E → firstE (E.mvE c.path c.to_) = 0 → Free c.path c.to_ E.names) :
    Calls Tryz.prog 35 #[.pointer (some ⟨p, 0, none⟩), .agg #[.int .i64 c.what, .string c.path, .string c.to_, .string c.data, .int .i64 c.mode]] w fun e w' => (∃ v, e = .returned v) ∧ Run w0 w' p (askD D c) (n + 2) ∧ ∀ (b : Nat) (t : TypeId) (cs : Array Value), wr.heap.size ≤ b → Blk w b t cs → Blk w' b t cs := by
  obtain ⟨G, h1, h2, h3, h4⟩ := h
  refine (ask_on p n G D c w (h1.off hof) hn hF hs1 hs2 hfr).mono fun e w' ⟨he, hT⟩ => ⟨he, Run.next (h2.trans_nil hof) h3 h4 hT, fun b t cs hb hB => ?_⟩
  obtain ⟨G2, -, ho, -⟩ := hT
  refine hB.off ho (fun hm => ?_)
  rcases List.mem_cons.1 hm with rfl | hm
  · have := h1.m.blk.lt; omega
  · have := h1.m.parts.lt hm; omega
end Go.Proofs.YtgcfkljooabjjaaGreatDoor

/- Names whose ancestors are directories: what Move asks follows. Conditions: none beyond what each lemma states. -/
namespace Go.Proofs.YtgcfkljooabjjaaGreatDoor
open Go.RowKit Go.Op Go.Maps

/-- each name is a path, and what stands above it is a directory -/
def TreeL (D : PDisk) (l : NameL) : Prop :=
  ∀ x ∈ l, okPath (str x.1) = true ∧ ∀ q : ByteArray, okPath (str q) = true → within (str x.1) (str q) = true → x.1 ≠ q → ∃ m, D.inode (lookN l q) = some m ∧ m.node.kind = 2
theorem mvP_within {p q x : ByteArray} (hp : okPath (str p) = true) (hq : okPath (str q) = true) (hx : within (str x) (str p) = true) (hk : okPath (str (mvP p q x)) = true) : within (str (mvP p q x)) (str q) = true := by
  have hxk : okPath (str x) = true := by
    unfold within at hx
    simp only [Bool.and_eq_true] at hx
    exact hx.1
  have e : str (x.extract p.size x.size) = (str x).drop (str p).length := by
    rw [str_extract, str_size, ← str_size x]
    exact List.take_of_length_le (by rw [List.length_drop]; exact Nat.le_refl _)
  have e2 : str (mvP p q x) = str q ++ (str x).drop (str p).length := by unfold mvP; rw [str_append, e]
  refine (within_iff hk hq).2 ?_
  rcases (within_iff hxk hp).1 hx with h | ⟨s, h⟩
  · left; rw [e2, h]; simp
  · right; exact ⟨s, by rw [e2, h]; simp⟩
/-- what Move asks: no name is there that a moved one would take -/
theorem TreeL.free {D : PDisk} {n : Nat} (h : TreeL D D.names) (hk : Ok D n) (ha : Apart D.names) {p q : ByteArray} (hp : okPath (str p) = true) (hq : okPath (str q) = true) (ht : D.at_ q = none) : Free p q D.names := fun x hx hw => by
  cases hh : hasN D.names (mvP p q x.1)
  · rfl
  · exfalso
    obtain ⟨y, hy, e⟩ := (hasN_iff _ _).1 hh
    obtain ⟨h1, h2⟩ := h y hy
    by_cases e2 : y.1 = q
    · obtain ⟨m, -, hm⟩ := hk.inode ha hy
      rw [e2, ht] at hm
      cases hm
    · obtain ⟨m, hm, -⟩ := h2 q hq (by rw [e]; exact mvP_within hp hq hw (by rw [← e]; exact h1)) e2
      have h3 : D.at_ q = some m := hm
      rw [ht] at h3
      cases h3
/-- from Move's own errors -/
theorem TreeL.mv {D : PDisk} {n : Nat} (h : TreeL D D.names) (hk : Ok D n) (ha : Apart D.names) {p q : ByteArray} (he : firstE (D.mvE p q) = 0) : Free p q D.names := by
  have h5 : ∀ y ∈ D.mvE p q, y.2 ≠ 0 := by
    intro y hy
    unfold PDisk.mvE at hy
    simp only [List.mem_cons, List.not_mem_nil, or_false] at hy
    rcases hy with rfl | rfl | rfl | rfl | rfl | rfl <;> simp [PDisk.no, PDisk.gone, PDisk.there, PDisk.parentE]
  have k1 := firstE_zero h5 he (PDisk.no p) (by simp [PDisk.mvE])
  have k2 := firstE_zero h5 he (PDisk.no q) (by simp [PDisk.mvE])
  have k3 := firstE_zero h5 he (D.there q) (by simp [PDisk.mvE])
  exact h.free hk ha (by simpa [PDisk.no] using k1) (by simpa [PDisk.no] using k2) (by simpa [PDisk.there] using k3)
end Go.Proofs.YtgcfkljooabjjaaGreatDoor

/- What each call keeps of a disk's names: ancestors are directories. Conditions: none beyond what each lemma states. -/
namespace Go.Proofs.YtgcfkljooabjjaaGreatDoor
open Go.RowKit Go.Op Go.Maps

theorem ok_parts {s : Str} (h : okPath s = true) : ∀ x ∈ parts s, okName x = true := by
  unfold okPath at h
  simp only [Bool.and_eq_true] at h
  exact List.all_eq_true.1 h.2
/-- what stands above a path stands above its parent, or is it -/
theorem anc_parent {p q : Str} (hp : okPath p = true) (hq : okPath q = true) (hw : within p q = true) (hne : p ≠ q) : parent p ≠ [] ∧ (okPath (parent p) = true → within (parent p) q = true) := by
  have hq0 : q ≠ [] := fun e => by subst e; exact absurd hq (by decide)
  unfold within at hw
  rw [hp, hq, decide_eq_false hq0, Bool.true_and, Bool.false_or, Bool.true_and, List.isPrefixOf_iff_prefix] at hw
  obtain ⟨t, ht⟩ := hw
  have ht0 : t ≠ [] := fun e => hne (by subst e; rw [List.append_nil] at ht; exact (parts_inj ht).symm)
  have hd : (parts p).dropLast = parts q ++ t.dropLast := by rw [← ht, List.dropLast_append_of_ne_nil ht0]
  have hpn : parent p ≠ [] := by
    rw [parent_eq hp, hd]
    refine joinP_ne (by simp [parts_ne q]) (fun x hx => okName_ne (ok_parts hp x ?_))
    rw [← hd] at hx
    exact List.dropLast_subset _ hx
  refine ⟨hpn, fun hk => ?_⟩
  unfold within
  rw [hk, hq, decide_eq_false hq0, Bool.true_and, Bool.false_or, Bool.true_and, List.isPrefixOf_iff_prefix, parent_parts hp hpn, hd]
  exact List.prefix_append _ _
/-- directories stay directories -/
def KS (D E : PDisk) : Prop := ∀ i m, D.inode i = some m → m.node.kind = 2 → ∃ m', E.inode i = some m' ∧ m'.node.kind = 2
theorem KS.refl (D : PDisk) : KS D D := fun _ m h k => ⟨m, h, k⟩
theorem KS.of_inos {D E : PDisk} (h : E.inos = D.inos) : KS D E := fun i m hm hk => ⟨m, by unfold PDisk.inode at hm ⊢; rw [h]; exact hm, hk⟩
theorem TreeL.mono {D E : PDisk} {l : NameL} (h : TreeL D l) (hk : KS D E) : TreeL E l := fun x hx =>
  ⟨(h x hx).1, fun q h1 h2 h3 => by
    obtain ⟨m, hm, hk2⟩ := (h x hx).2 q h1 h2 h3
    exact hk _ m hm hk2⟩
theorem KS.crash (D : PDisk) (f : FateP) : KS D (D.crash f) := fun i m hm hk => ⟨PDisk.tear f.torn m, by rw [crash_inode, hm]; rfl, by rw [tear_kind]; exact hk⟩
theorem KS.make (D : PDisk) (n : Node) (t : Int) (b : Bool) : KS D (D.make n t b) := fun i m hm hk => ⟨m, by
  unfold PDisk.inode PDisk.make at *
  split at hm
  · cases hm
  · rename_i h
    rw [if_neg h]
    show (D.inos ++ [_])[i - 1]? = some m
    rw [List.getElem?_append_left (List.getElem?_eq_some_iff.1 hm).1]
    exact hm, hk⟩
structure TreeD (D : PDisk) : Prop where
  names : TreeL D D.names
  safe : TreeL D D.safe
  later : ∀ l ∈ D.later, TreeL D l
theorem TreeD.crash {D : PDisk} (h : TreeD D) (f : FateP) : TreeD (D.crash f) := by
  have hk := KS.crash D f
  have hn : TreeL (D.crash f) (D.crash f).names := by
    rcases crash_names D f with e | e
    · rw [e]; exact h.safe.mono hk
    · exact (h.later _ e).mono hk
  exact ⟨hn, hn, fun l hl => by cases hl⟩
theorem TreeD.of {D E : PDisk} (h : TreeD D) (h1 : E.names = D.names) (h2 : E.safe = D.safe) (h3 : E.later = D.later) (hk : KS D E) : TreeD E :=
  ⟨by rw [h1]; exact h.names.mono hk, by rw [h2]; exact h.safe.mono hk, fun l hl => (h.later l (by rw [← h3]; exact hl)).mono hk⟩
theorem TreeD.step {D : PDisk} (h : TreeD D) (c p q : ByteArray) : TreeD (D.step c p q).2.2 := by
  have ht : TreeD { D with clock := D.clock + 1, trace := D.trace ++ [⟨c, p, q⟩] } := h.of rfl rfl rfl (KS.of_inos rfl)
  unfold PDisk.step
  split
  · exact h
  · dsimp only
    split
    · exact ht
    · split
      · exact ht.crash _
      · split <;> exact ht
/-- a change of names -/
theorem TreeD.change {D : PDisk} {l : NameL} (h : TreeD D) (hl : TreeL D l) : TreeD (D.change l) :=
  ⟨hl.mono (KS.of_inos rfl), h.safe.mono (KS.of_inos rfl), fun x hx => by
    rcases List.mem_append.1 (show x ∈ D.later ++ [l] from hx) with hx | hx
    · exact (h.later x hx).mono (KS.of_inos rfl)
    · simp at hx; subst hx; exact hl.mono (KS.of_inos rfl)⟩
theorem at_of_has {D : PDisk} {n : Nat} (hk : Ok D n) (ha : Apart D.names) {p : ByteArray} (h : D.at_ p = none) : hasN D.names p = false := by
  cases hh : hasN D.names p
  · rfl
  · obtain ⟨x, hx, rfl⟩ := (hasN_iff _ _).1 hh
    obtain ⟨m, -, hm⟩ := hk.inode ha hx
    rw [h] at hm
    cases hm
theorem has_of_at {D : PDisk} {p : ByteArray} {m : Ino} (h : D.at_ p = some m) : hasN D.names p = true := by
  cases hh : hasN D.names p
  · unfold PDisk.at_ PDisk.inode at h
    rw [lookN_of_not hh] at h
    simp at h
  · rfl
/-- what stands above a path whose parent is a directory -/
theorem TreeL.above {D : PDisk} (h : TreeL D D.names) {p q : ByteArray} (hp : okPath (str p) = true) (hd : D.dir (bs (parent (str p))) = true) (hq : okPath (str q) = true) (hw : within (str p) (str q) = true) (hne : p ≠ q) : ∃ m, D.at_ q = some m ∧ m.node.kind = 2 := by
  obtain ⟨h1, h2⟩ := anc_parent hp hq hw (fun e => hne (str_inj e))
  have h3 : bs (parent (str p)) ≠ ⟨#[]⟩ := fun e => h1 (by rw [← str_bs (parent (str p)), e]; rfl)
  unfold PDisk.dir at hd
  rw [decide_eq_false h3, Bool.false_or] at hd
  cases hat : D.at_ (bs (parent (str p))) with
  | none => rw [hat] at hd; cases hd
  | some m =>
    rw [hat] at hd
    have hk : m.node.kind = 2 := by simpa using hd
    obtain ⟨y, hy, e⟩ := (hasN_iff _ _).1 (has_of_at hat)
    obtain ⟨k1, k2⟩ := h y hy
    rw [e, str_bs] at k1 k2
    by_cases e2 : y.1 = q
    · exact ⟨m, by rw [← e2, e]; exact hat, hk⟩
    · obtain ⟨m2, hm2, hk2⟩ := k2 q hq (h2 k1) (fun e3 => e2 (e.trans e3))
      exact ⟨m2, hm2, hk2⟩
theorem TreeL.put {D : PDisk} (h : TreeL D D.names) {p : ByteArray} (i : Nat) (hp : okPath (str p) = true) (hd : D.dir (bs (parent (str p))) = true) (hno : hasN D.names p = false) : TreeL D (putN D.names p i) := fun x hx => by
  have hl : ∀ q, q ≠ p → lookN (putN D.names p i) q = lookN D.names q := fun q e => by rw [lookN_putN, if_neg (fun e2 => e e2.symm)]
  unfold putN at hx
  rw [if_neg (by rw [hno]; decide)] at hx
  rcases List.mem_append.1 hx with hx | hx
  · refine ⟨(h x hx).1, fun q h1 h2 h3 => ?_⟩
    obtain ⟨m, hm, hk⟩ := (h x hx).2 q h1 h2 h3
    refine ⟨m, ?_, hk⟩
    rw [hl q (fun e => by
      subst e
      unfold PDisk.inode at hm
      rw [lookN_of_not hno] at hm
      simp at hm)]
    exact hm
  · simp at hx
    subst hx
    refine ⟨hp, fun q h1 h2 h3 => ?_⟩
    obtain ⟨m, hm, hk⟩ := h.above hp hd h1 h2 h3
    exact ⟨m, by rw [hl q (fun e => h3 e.symm)]; exact hm, hk⟩
theorem TreeD.lay {D : PDisk} {n : Nat} (h : TreeD D) (hk : Ok D n) (ha : Apart D.names) (p : ByteArray) (x : Node) (full : Bool) (l : List (Bool × Int)) (hz : ∀ y ∈ l, y.2 ≠ 0) (h1 : PDisk.no p ∈ l) (h2 : D.parentE p ∈ l) (h3 : D.at_ p = none ∨ D.there p ∈ l) : TreeD (D.lay p x full l).2 := by
  unfold PDisk.lay
  dsimp only
  split
  · exact h
  · rename_i he
    have he : firstE (l ++ [(full || decide (1000 ≤ D.names.length), 71)]) = 0 := by simpa using he
    have hz2 : ∀ y ∈ l ++ [(full || decide (1000 ≤ D.names.length), (71 : Int))], y.2 ≠ 0 := fun y hy => by
      rcases List.mem_append.1 hy with hy | hy
      · exact hz y hy
      · simp at hy; subst hy; simp
    have k1 := firstE_zero hz2 he _ (List.mem_append_left _ h1)
    have k2 := firstE_zero hz2 he _ (List.mem_append_left _ h2)
    have hat : D.at_ p = none := by
      rcases h3 with h3 | h3
      · exact h3
      · have k3 := firstE_zero hz2 he _ (List.mem_append_left _ h3)
        simpa [PDisk.there] using k3
    have hm := KS.make D x D.clock (decide (x.kind = 1))
    exact (h.of (E := D.make x D.clock (decide (x.kind = 1))) rfl rfl rfl hm).change ((h.names.put (D.inos.length + 1) (by simpa [PDisk.no] using k1) (by simpa [PDisk.parentE] using k2) (at_of_has hk ha hat)).mono hm)
theorem TreeD.remove_ {D : PDisk} (h : TreeD D) (p : ByteArray) : TreeD (D.remove_ p).2 := by
  unfold PDisk.remove_
  dsimp only
  split
  · exact h
  · rename_i he
    have he : firstE [PDisk.no p, D.gone p, (D.inside p, 72)] = 0 := by simpa using he
    have k := firstE_zero (by intro y hy; simp only [List.mem_cons, List.not_mem_nil, or_false] at hy; rcases hy with rfl | rfl | rfl <;> simp [PDisk.no, PDisk.gone]) he (D.inside p, 72) (by simp)
    have k : D.inside p = false := k
    refine h.change fun x hx => ?_
    obtain ⟨hx1, hx2⟩ := List.mem_filter.1 hx
    refine ⟨(h.names x hx1).1, fun q h1 h2 h3 => ?_⟩
    obtain ⟨m, hm, hk⟩ := (h.names x hx1).2 q h1 h2 h3
    refine ⟨m, ?_, hk⟩
    rw [lookN_delN, if_neg (fun e => by
      subst e
      have := List.any_eq_false.1 k x hx1
      unfold insP at this
      rw [h2, decide_eq_false h3] at this
      simp at this)]
    exact hm
end Go.Proofs.YtgcfkljooabjjaaGreatDoor

/- What each call keeps of a disk's names: Write, Sync, Replace. Conditions: none beyond what each lemma states. -/
namespace Go.Proofs.YtgcfkljooabjjaaGreatDoor
open Go.RowKit Go.Op Go.Maps

theorem KS.set {D : PDisk} {i : Nat} {x : Ino} (h : ∀ o, D.inos[i]? = some o → o.node.kind = 2 → x.node.kind = 2) : KS D { D with inos := D.inos.set i x } := fun j m hm hk => by
  unfold PDisk.inode at hm ⊢
  split at hm
  · cases hm
  · rename_i hj
    rw [if_neg hj]
    show ∃ m', (D.inos.set i x)[j - 1]? = some m' ∧ m'.node.kind = 2
    by_cases e : i = j - 1
    · subst e
      exact ⟨x, by rw [List.getElem?_set_self (List.getElem?_eq_some_iff.1 hm).1], h m hm hk⟩
    · exact ⟨m, by rw [List.getElem?_set_ne e]; exact hm, hk⟩
theorem at_ino {D : PDisk} {p : ByteArray} {o : Ino} (h : D.at_ p = some o) : D.inos[lookN D.names p - 1]? = some o := by
  unfold PDisk.at_ PDisk.inode at h
  split at h
  · cases h
  · exact h
theorem TreeD.write_ {D : PDisk} {n : Nat} (h : TreeD D) (hk : Ok D n) (ha : Apart D.names) (full : Bool) (p data : ByteArray) (mode : Int) : TreeD (D.write_ full p data mode).2 := by
  unfold PDisk.write_
  cases hat : D.at_ p with
  | none =>
    refine h.lay hk ha _ _ _ _ (by intro y hy; simp only [List.mem_cons, List.not_mem_nil, or_false] at hy; rcases hy with rfl | rfl | rfl | rfl <;> simp [PDisk.no, PDisk.parentE]) (by simp) (by simp) (.inl hat)
  | some o =>
    dsimp only
    split
    · exact h
    · rename_i he
      have he : firstE ([PDisk.no p, (decide (65536 < data.size) || decide (mode < 0) || decide (511 < mode), 2), D.parentE p, (!decide (o.node.kind = 1), 73)] ++ [(full, 71)]) = 0 := by simpa using he
      have k := firstE_zero (by intro y hy; simp only [List.cons_append, List.nil_append, List.mem_cons, List.not_mem_nil, or_false] at hy; rcases hy with rfl | rfl | rfl | rfl | rfl <;> simp [PDisk.no, PDisk.parentE]) he (!decide (o.node.kind = 1), 73) (by simp)
      have k : (!decide (o.node.kind = 1)) = false := k
      have k1 : o.node.kind = 1 := by simpa using k
      refine h.of rfl rfl rfl (KS.set fun o2 h2 h3 => ?_)
      rw [at_ino hat] at h2
      cases h2
      rw [k1] at h3
      cases h3
theorem TreeD.sync_ {D : PDisk} (h : TreeD D) (p : ByteArray) : TreeD (D.sync_ p).2 := by
  unfold PDisk.sync_
  dsimp only
  split
  · exact h
  · cases hat : D.at_ p with
    | none => exact h
    | some o =>
      refine h.of rfl rfl rfl (KS.set fun o2 h2 h3 => ?_)
      rw [at_ino hat] at h2
      cases h2
      exact h3
theorem dir_of {D : PDisk} {p : ByteArray} {m : Ino} (h : D.at_ p = some m) (hk : m.node.kind = 2) : D.dir p = true := by
  unfold PDisk.dir
  rw [h]
  simp [hk]
theorem TreeD.replace_ {D : PDisk} (h : TreeD D) (p q : ByteArray) : TreeD (D.replace_ p q).2 := by
  unfold PDisk.replace_
  dsimp only
  split
  · exact h
  · rename_i he
    have he : firstE [PDisk.no p, PDisk.no q, (decide (p = q), 2), D.gone p, (D.dir p || D.dir q, 73), D.parentE q] = 0 := by simpa using he
    have hz : ∀ y ∈ [PDisk.no p, PDisk.no q, (decide (p = q), 2), D.gone p, (D.dir p || D.dir q, 73), D.parentE q], y.2 ≠ 0 := by
      intro y hy
      simp only [List.mem_cons, List.not_mem_nil, or_false] at hy
      rcases hy with rfl | rfl | rfl | rfl | rfl | rfl <;> simp [PDisk.no, PDisk.gone, PDisk.parentE]
    have k1 : okPath (str q) = true := by simpa [PDisk.no] using firstE_zero hz he (PDisk.no q) (by simp)
    have k2 : (D.dir p || D.dir q) = false := firstE_zero hz he (D.dir p || D.dir q, 73) (by simp)
    have k3 : D.dir (bs (parent (str q))) = true := by simpa [PDisk.parentE] using firstE_zero hz he (D.parentE q) (by simp)
    rw [Bool.or_eq_false_iff] at k2
    have hl : ∀ a m, D.at_ a = some m → m.node.kind = 2 → lookN (delN (putN D.names q (lookN D.names p)) p) a = lookN D.names a := fun a m h1 h2 => by
      have hd := dir_of h1 h2
      rw [lookN_delN, if_neg (fun e => by subst e; rw [hd] at k2; exact absurd k2.1 (by decide)), lookN_putN, if_neg (fun e => by subst e; rw [hd] at k2; exact absurd k2.2 (by decide))]
    refine h.change fun x hx => ?_
    obtain ⟨hx1, hx2⟩ := List.mem_filter.1 hx
    have hx3 : x ∈ D.names ∨ x.1 = q := by
      unfold putN at hx1
      split at hx1
      · obtain ⟨y, hy, rfl⟩ := List.mem_map.1 hx1
        split
        · right; rfl
        · left; exact hy
      · rcases List.mem_append.1 hx1 with hx1 | hx1
        · left; exact hx1
        · right; simp at hx1; rw [hx1]
    rcases hx3 with hx3 | hx3
    · refine ⟨(h.names x hx3).1, fun a h1 h2 h3 => ?_⟩
      obtain ⟨m, hm, hk⟩ := (h.names x hx3).2 a h1 h2 h3
      exact ⟨m, by rw [hl a m hm hk]; exact hm, hk⟩
    · rw [hx3]
      refine ⟨k1, fun a h1 h2 h3 => ?_⟩
      obtain ⟨m, hm, hk⟩ := h.names.above k1 k3 h1 h2 h3
      exact ⟨m, by rw [hl a m hm hk]; exact hm, hk⟩
end Go.Proofs.YtgcfkljooabjjaaGreatDoor

/- What Move keeps of a disk's names. Conditions: none beyond what each lemma states. -/
namespace Go.Proofs.YtgcfkljooabjjaaGreatDoor
open Go.RowKit Go.Op Go.Maps

theorem within_trans {x a p : Str} (h1 : within x a = true) (h2 : within a p = true) : within x p = true := by
  unfold within at *
  simp only [Bool.and_eq_true, Bool.or_eq_true, decide_eq_true_eq, List.isPrefixOf_iff_prefix] at *
  refine ⟨h1.1, ?_⟩
  rcases h2.2 with h | h
  · exact .inl h
  · right
    refine ⟨h.1, ?_⟩
    rcases h1.2 with h3 | h3
    · subst h3
      exact absurd h2.1 (by decide)
    · exact h.2.trans h3.2
theorem moved_apart {p q : ByteArray} {l : NameL} (ha : Apart l) (hp : okPath (str p) = true) (hf : Free p q l) : Apart (l.map (mvN p q)) := by
  unfold Apart at *
  rw [List.pairwise_map]
  refine ha.imp_of_mem fun {x y} hx hy hne => ?_
  have hno : ∀ x y, x ∈ l → y ∈ l → within (str x.1) (str p) = true → mvP p q x.1 ≠ y.1 := fun x y hx hy hw e => by
    have := hf x hx hw
    rw [show hasN l (mvP p q x.1) = true from (hasN_iff _ _).2 ⟨y, hy, e.symm⟩] at this
    cases this
  unfold mvN
  split
  · rename_i h1
    split
    · rename_i h2; exact fun e => hne (mvP_inj hp h1 h2 e)
    · exact hno x y hx hy h1
  · split
    · rename_i h2; exact (hno y x hy hx h2).symm
    · exact hne
theorem moved_stay {p q a : ByteArray} {l : NameL} (ha : Apart l) (hp : okPath (str p) = true) (hf : Free p q l) (hh : hasN l a = true) (hw : within (str a) (str p) = false) : lookN (l.map (mvN p q)) a = lookN l a := by
  obtain ⟨x, hx, rfl⟩ := (hasN_iff _ _).1 hh
  have h1 : x ∈ l.map (mvN p q) := List.mem_map.2 ⟨x, hx, by unfold mvN; rw [hw]; rfl⟩
  rw [lookN_mem (moved_apart ha hp hf) h1, lookN_mem ha hx]
theorem moved_gone {p q a : ByteArray} {l : NameL} (ha : Apart l) (hp : okPath (str p) = true) (hf : Free p q l) (hh : hasN l a = true) (hw : within (str a) (str p) = true) : lookN (l.map (mvN p q)) (mvP p q a) = lookN l a := by
  obtain ⟨x, hx, rfl⟩ := (hasN_iff _ _).1 hh
  have h1 : (mvP p q x.1, x.2) ∈ l.map (mvN p q) := List.mem_map.2 ⟨x, hx, by unfold mvN; rw [hw]; rfl⟩
  rw [lookN_mem (moved_apart ha hp hf) h1, lookN_mem ha hx]
theorem has_of_inode {D : PDisk} {l : NameL} {a : ByteArray} {m : Ino} (h : D.inode (lookN l a) = some m) : hasN l a = true := by
  cases hh : hasN l a
  · unfold PDisk.inode at h
    rw [lookN_of_not hh] at h
    simp at h
  · rfl
theorem ok_above {a s : Str} (h : okPath (a ++ 47 :: s) = true) : okPath a = true := by
  unfold okPath at *
  simp only [Bool.and_eq_true, decide_eq_true_eq, List.all_eq_true] at *
  obtain ⟨⟨h1, h2⟩, h3⟩ := h
  refine ⟨⟨?_, ?_⟩, fun x hx => h3 x ?_⟩
  · rw [List.length_append] at h1; omega
  · rw [List.count_append] at h2; omega
  · rw [parts_append]; exact List.mem_append_left _ hx
theorem mvP_str {p q x : ByteArray} (hp : okPath (str p) = true) (hx : within (str x) (str p) = true) : ∃ tl, str x = str p ++ tl ∧ str (mvP p q x) = str q ++ tl := by
  have e : str (x.extract p.size x.size) = (str x).drop (str p).length := by
    rw [str_extract, str_size, ← str_size x]
    exact List.take_of_length_le (by rw [List.length_drop]; exact Nat.le_refl _)
  have hxk : okPath (str x) = true := by
    unfold within at hx
    simp only [Bool.and_eq_true] at hx
    exact hx.1
  refine ⟨(str x).drop (str p).length, ?_, by unfold mvP; rw [str_append, e]⟩
  rcases (within_iff hxk hp).1 hx with h | ⟨s, h⟩
  · rw [h]; simp
  · rw [h]; simp
theorem TreeD.move_ {D : PDisk} {n : Nat} (h : TreeD D) (hk : Ok D n) (ha : Apart D.names) (p q : ByteArray) : TreeD (D.move_ p q).2 := by
  unfold PDisk.move_
  dsimp only
  split
  · exact h
  · rename_i he
    split
    · exact h
    · rename_i hb
      have he : firstE (D.mvE p q) = 0 := by simpa using he
      have hf := h.names.mv hk ha he
      have h5 : ∀ y ∈ D.mvE p q, y.2 ≠ 0 := by
        intro y hy
        unfold PDisk.mvE at hy
        simp only [List.mem_cons, List.not_mem_nil, or_false] at hy
        rcases hy with rfl | rfl | rfl | rfl | rfl | rfl <;> simp [PDisk.no, PDisk.gone, PDisk.there, PDisk.parentE]
      have k1 : okPath (str p) = true := by simpa [PDisk.no] using firstE_zero h5 he (PDisk.no p) (by simp [PDisk.mvE])
      have k2 : okPath (str q) = true := by simpa [PDisk.no] using firstE_zero h5 he (PDisk.no q) (by simp [PDisk.mvE])
      have k5 : D.dir (bs (parent (str q))) = true := by simpa [PDisk.parentE] using firstE_zero h5 he (D.parentE q) (by simp [PDisk.mvE])
      have k6 : within (str q) (str p) = false := firstE_zero h5 he (within (str q) (str p), 2) (by simp [PDisk.mvE])
      refine h.change fun y hy => ?_
      obtain ⟨x, hx, rfl⟩ := List.mem_map.1 hy
      obtain ⟨hx1, hx2⟩ := h.names x hx
      cases hw : within (str x.1) (str p)
      · have e : mvN p q x = x := by unfold mvN; rw [hw]; rfl
        rw [e]
        refine ⟨hx1, fun a h1 h2 h3 => ?_⟩
        obtain ⟨m, hm, hkd⟩ := hx2 a h1 h2 h3
        have hna : within (str a) (str p) = false := by
          cases e2 : within (str a) (str p)
          · rfl
          · rw [within_trans h2 e2] at hw; cases hw
        exact ⟨m, by rw [moved_stay ha k1 hf (has_of_inode hm) hna]; exact hm, hkd⟩
      · have e : (mvN p q x).1 = mvP p q x.1 := by unfold mvN; rw [hw]; rfl
        rw [e]
        have hok : okPath (str (mvP p q x.1)) = true := by
          have hb2 : D.badMv p q = false := by simpa using hb
          have := List.any_eq_false.1 hb2 x hx
          unfold badP at this
          rw [hw] at this
          simpa using this
        refine ⟨hok, fun a h1 h2 h3 => ?_⟩
        obtain ⟨tl, e1, e2⟩ := mvP_str (q := q) k1 hw
        obtain ⟨s2, e3⟩ : ∃ s2, str (mvP p q x.1) = str a ++ 47 :: s2 := by
          rcases (within_iff hok h1).1 h2 with e3 | e3
          · exact absurd (str_inj e3) h3
          · exact e3
        have key : ∀ c, str a = str q ++ c → tl = c ++ 47 :: s2 → ∃ m, D.inode (lookN (D.names.map (mvN p q)) a) = some m ∧ m.node.kind = 2 := fun c e4 e5 => by
          have hxa : str x.1 = (str p ++ c) ++ 47 :: s2 := by rw [e1, e5, List.append_assoc]
          have hoa : okPath (str (bs (str p ++ c))) = true := by
            rw [str_bs]
            exact ok_above (s := s2) (by rw [← hxa]; exact hx1)
          have hwa : within (str x.1) (str (bs (str p ++ c))) = true := (within_iff hx1 hoa).2 (.inr ⟨s2, by rw [str_bs]; exact hxa⟩)
          obtain ⟨m, hm, hkd⟩ := hx2 (bs (str p ++ c)) hoa hwa (fun e6 => by
            have e7 := congrArg (fun z => (str z).length) e6
            rw [hxa, str_bs, List.length_append] at e7
            simp at e7)
          have hwp : within (str (bs (str p ++ c))) (str p) = true := by
            refine (within_iff hoa k1).2 ?_
            rw [str_bs]
            cases c with
            | nil => left; simp
            | cons z c =>
              right
              rcases (within_iff hx1 k1).1 hw with e6 | ⟨s, e6⟩
              · rw [e1, e5] at e6
                have := congrArg List.length e6
                simp at this
              · rw [e1, e5] at e6
                have e8 := List.append_cancel_left e6
                rw [List.cons_append] at e8
                injection e8 with e9 _
                exact ⟨c, by rw [e9]⟩
          have hmv : mvP p q (bs (str p ++ c)) = a := by
            obtain ⟨t2, e6, e7⟩ := mvP_str (q := q) k1 hwp
            rw [str_bs] at e6
            have e8 := List.append_cancel_left e6
            apply str_inj
            rw [e7, ← e8, e4]
          have := moved_gone ha k1 hf (has_of_inode hm) hwp
          rw [hmv] at this
          exact ⟨m, by rw [this]; exact hm, hkd⟩
        rw [e2] at e3
        rcases List.append_eq_append_iff.1 e3 with ⟨c, e4, e5⟩ | ⟨c, e4, e5⟩
        · exact key c e4 e5
        · cases c with
          | nil => exact key [] (by rw [e4]; simp) (by rw [List.nil_append] at e5; rw [← e5]; rfl)
          | cons z c =>
            have hz : z = 47 := by
              rw [List.cons_append] at e5
              injection e5 with e6 _
              exact e6.symm
            subst hz
            have hqa : within (str q) (str a) = true := (within_iff k2 h1).2 (.inr ⟨c, e4⟩)
            obtain ⟨m, hm, hkd⟩ := h.names.above k2 k5 h1 hqa (fun e6 => by
              rw [e6] at e4
              have := congrArg List.length e4
              simp at this)
            have hna : within (str a) (str p) = false := by
              cases e6 : within (str a) (str p)
              · rfl
              · rw [within_trans hqa e6] at k6; cases k6
            exact ⟨m, by rw [moved_stay ha k1 hf (has_of_at hm) hna]; exact hm, hkd⟩
end Go.Proofs.YtgcfkljooabjjaaGreatDoor

/- What every call of ask keeps of a disk: no name twice, names are paths, what stands above is a directory. Conditions: none beyond what each lemma states. -/
namespace Go.Proofs.YtgcfkljooabjjaaGreatDoor
open Go.RowKit Go.Op Go.Maps

structure Good (D : PDisk) : Prop where
  tree : TreeD D
  names : Apart D.names
  safe : Apart D.safe
  later : ∀ l ∈ D.later, Apart l
theorem Good.crash {D : PDisk} (h : Good D) (f : FateP) : Good (D.crash f) := by
  have hn : Apart (D.crash f).names := by
    rcases crash_names D f with e | e
    · rw [e]; exact h.safe
    · exact h.later _ e
  exact ⟨h.tree.crash f, hn, hn, fun l hl => by cases hl⟩
theorem Good.of {D E : PDisk} (h : Good D) (ht : TreeD E) (h1 : E.names = D.names) (h2 : E.safe = D.safe) (h3 : E.later = D.later) : Good E :=
  ⟨ht, by rw [h1]; exact h.names, by rw [h2]; exact h.safe, fun l hl => h.later l (by rw [← h3]; exact hl)⟩
theorem Good.step {D : PDisk} (h : Good D) (c p q : ByteArray) : Good (D.step c p q).2.2 := by
  have ht : Good { D with clock := D.clock + 1, trace := D.trace ++ [⟨c, p, q⟩] } := h.of (h.tree.of rfl rfl rfl (KS.of_inos rfl)) rfl rfl rfl
  unfold PDisk.step
  split
  · exact h
  · dsimp only
    split
    · exact ht
    · split
      · exact ht.crash _
      · split <;> exact ht
theorem Good.change {D : PDisk} {l : NameL} (h : Good D) (ht : TreeD (D.change l)) (hl : Apart l) : Good (D.change l) :=
  ⟨ht, hl, h.safe, fun x hx => by
    rcases List.mem_append.1 (show x ∈ D.later ++ [l] from hx) with hx | hx
    · exact h.later x hx
    · simp at hx; subst hx; exact hl⟩
theorem Good.lay {D : PDisk} (h : Good D) {p : ByteArray} {x : Node} {full : Bool} {l : List (Bool × Int)} (ht : TreeD (D.lay p x full l).2) : Good (D.lay p x full l).2 := by
  unfold PDisk.lay at ht ⊢
  dsimp only at ht ⊢
  split
  · exact h
  · rename_i he
    rw [if_neg he] at ht
    exact Good.change (D := D.make x D.clock (decide (x.kind = 1))) ⟨h.tree.of rfl rfl rfl (KS.make D x D.clock (decide (x.kind = 1))), h.names, h.safe, h.later⟩ ht (h.names.put _ _)
theorem Good.call {D : PDisk} {n : Nat} (h : Good D) (hk : Ok D n) (c p q : ByteArray) (k : PDisk → Bool → Int × PDisk) (hh : ∀ E full, Good E → Ok E (n + 1) → Good (k E full).2) : Good (D.call c p q k).2 := by
  have h1 := h.step c p q
  have h2 := PDisk.step_ok hk c p q
  unfold PDisk.call
  generalize D.step c p q = st at h1 h2
  obtain ⟨full, e, E⟩ := st
  dsimp only at h1 h2 ⊢
  split
  · exact h1
  · exact hh E full h1 h2
theorem Good.ask {D : PDisk} {n : Nat} (h : Good D) (hk : Ok D n) (c : CallP) : Good (askD D c) := by
  unfold askD
  split
  · refine h.call hk _ _ _ _ fun E full hE hO => ?_
    have ht := hE.tree.write_ hO hE.names full c.path c.data c.mode
    unfold PDisk.write_ at ht ⊢
    cases hat : E.at_ c.path with
    | none => rw [hat] at ht; exact hE.lay ht
    | some o =>
      rw [hat] at ht
      dsimp only at ht ⊢
      split
      · exact hE
      · rename_i he
        rw [if_neg he] at ht
        exact hE.of ht rfl rfl rfl
  split
  · refine h.call hk _ _ _ _ fun E full hE hO => hE.lay (hE.tree.lay hO hE.names _ _ _ _ ?_ (by simp) (by simp) (.inr (by simp)))
    intro y hy
    simp only [List.mem_cons, List.not_mem_nil, or_false] at hy
    rcases hy with rfl | rfl | rfl <;> simp [PDisk.no, PDisk.parentE, PDisk.there]
  split
  · refine h.call hk _ _ _ _ fun E full hE hO => hE.lay (hE.tree.lay hO hE.names _ _ _ _ ?_ (by simp) (by simp) (.inr (by simp)))
    intro y hy
    simp only [List.mem_cons, List.not_mem_nil, or_false] at hy
    rcases hy with rfl | rfl | rfl | rfl <;> simp [PDisk.no, PDisk.parentE, PDisk.there]
  split
  · refine h.call hk _ _ _ _ fun E full hE hO => ?_
    have ht := hE.tree.remove_ c.path
    unfold PDisk.remove_ at ht ⊢
    dsimp only at ht ⊢
    split
    · exact hE
    · rename_i he
      rw [if_neg he] at ht
      exact hE.change ht (hE.names.del _)
  split
  · refine h.call hk _ _ _ _ fun E full hE hO => ?_
    have ht := hE.tree.move_ hO hE.names c.path c.to_
    unfold PDisk.move_ at ht ⊢
    dsimp only at ht ⊢
    split
    · exact hE
    · rename_i he
      rw [if_neg he] at ht
      split
      · exact hE
      · rename_i hb
        rw [if_neg hb] at ht
        have he2 : firstE (E.mvE c.path c.to_) = 0 := by simpa using he
        have h5 : ∀ y ∈ E.mvE c.path c.to_, y.2 ≠ 0 := by
          intro y hy
          unfold PDisk.mvE at hy
          simp only [List.mem_cons, List.not_mem_nil, or_false] at hy
          rcases hy with rfl | rfl | rfl | rfl | rfl | rfl <;> simp [PDisk.no, PDisk.gone, PDisk.there, PDisk.parentE]
        have k1 : okPath (str c.path) = true := by simpa [PDisk.no] using firstE_zero h5 he2 (PDisk.no c.path) (by simp [PDisk.mvE])
        exact hE.change ht (moved_apart hE.names k1 (hE.tree.names.mv hO hE.names he2))
  split
  · refine h.call hk _ _ _ _ fun E full hE hO => ?_
    have ht := hE.tree.replace_ c.path c.to_
    unfold PDisk.replace_ at ht ⊢
    dsimp only at ht ⊢
    split
    · exact hE
    · rename_i he
      rw [if_neg he] at ht
      exact hE.change ht ((hE.names.put _ _).del _)
  split
  · refine h.call hk _ _ _ _ fun E full hE hO => ?_
    have ht := hE.tree.sync_ c.path
    unfold PDisk.sync_ at ht ⊢
    dsimp only at ht ⊢
    split
    · exact hE
    · rename_i he
      rw [if_neg he] at ht
      dsimp only at ht
      cases hat : E.at_ c.path with
      | none => exact hE
      | some o => rw [hat] at ht; exact hE.of ht rfl rfl rfl
  split
  · exact h.call hk _ _ _ _ fun E full hE hO => ⟨⟨hE.tree.names.mono (KS.of_inos rfl), hE.tree.names.mono (KS.of_inos rfl), fun l hl => by cases hl⟩, hE.names, hE.names, fun l hl => by cases hl⟩
  split
  · have h1 := h.step ⟨#[71, 101, 116]⟩ c.path ⟨#[]⟩
    unfold PDisk.get
    generalize D.step ⟨#[71, 101, 116]⟩ c.path ⟨#[]⟩ = st at h1
    obtain ⟨full, e, E⟩ := st
    dsimp only at h1 ⊢
    split <;> exact h1
  split
  · have h1 := h.step ⟨#[78, 97, 109, 101, 115]⟩ c.path ⟨#[]⟩
    unfold PDisk.namesC
    generalize D.step ⟨#[78, 97, 109, 101, 115]⟩ c.path ⟨#[]⟩ = st at h1
    obtain ⟨full, e, E⟩ := st
    dsimp only at h1 ⊢
    split <;> exact h1
  split
  · exact h.of (h.tree.of rfl rfl rfl (KS.of_inos rfl)) rfl rfl rfl
  · exact h
/-- Move's question -/
theorem Good.free {D : PDisk} {n : Nat} (h : Good D) (hk : Ok D n) (p q : ByteArray) : ∀ E, (D.step ⟨#[77, 111, 118, 101]⟩ p q).2.2 = E → firstE (E.mvE p q) = 0 → Free p q E.names := fun E e he => by
  subst e
  exact (h.step _ _ _).tree.names.mv (PDisk.step_ok hk _ _ _) (h.step _ _ _).names he
theorem light_new {t : List Node} (hF : Fits t) : Light (newD t) := fun m hm => by
  obtain ⟨n, hn, rfl⟩ := List.mem_map.1 (show m ∈ t.map fun n => (⟨n, 0, false⟩ : Ino) from hm)
  exact (hF n hn).2
end Go.Proofs.YtgcfkljooabjjaaGreatDoor
