/- Texts of this claim, one behind the other: DNm. Conditions: what each lemma states. -/
import Derived.Test.YtgcfkljooabjjaaGreatDoorFg
import Derived.Test.YtgcfkljooabjjaaGreatDoorFf
/- A disk's Names: the walk. Conditions: what the contract states. -/
namespace Go.Proofs.YtgcfkljooabjjaaGreatDoor
open Go.RowKit Go.Op Go.Maps

def PDisk.namesOn (D : PDisk) (p : ByteArray) : List ByteArray × Int :=
  let e := if p = ⟨#[]⟩ then 0 else firstE [PDisk.no p, D.gone p]
  if e ≠ 0 then ([], e) else if D.dir p then (namesR D.tree (str p), 0) else ([], 73)
def PDisk.namesC (D : PDisk) (p : ByteArray) : (List ByteArray × Int) × PDisk :=
  match D.step ⟨#[78, 97, 109, 101, 115]⟩ p ⟨#[]⟩ with
  | (_, e, E) => if e ≠ 0 then (([], e), E) else (E.namesOn p, E)
set_option maxRecDepth 100000 in
set_option maxHeartbeats 16000000 in
theorem dnames_callE (p n : Nat) (G : Geo) (D : PDisk) (path : ByteArray) (w : World) (h : DSE w p G D n) (hE : EditsOk D n) (hn : n ≤ 900000) (hs : path.size ≤ 9223372036854775807) (hF : Light D.edited) :
    Calls Tryz.prog 37 #[.pointer (some ⟨p, 0, none⟩), .string path] w fun e w' => ∃ v wm, e = .returned (.tuple #[v, .int .i64 (D.edited.namesC path).1.2]) ∧ w'.ownsRow wm.heap.size 9 1 v (D.edited.namesC path).1.1.length ((D.edited.namesC path).1.1.map Value.string) ∧ DSETo w p G.parts wm (D.edited.namesC path).2 (n + 1) ∧ Off [] wm w' := by
  have HST := Lib.hid (dstep_oneE p n G D ⟨#[78, 97, 109, 101, 115]⟩ path w h hE (by omega))
  have HLI := Lib.hid (hF.step ⟨#[78, 97, 109, 101, 115]⟩ path ⟨#[]⟩)
  have HS := Lib.hid (show D.edited.namesC path = match D.edited.step ⟨#[78, 97, 109, 101, 115]⟩ path ⟨#[]⟩ with | (_, e, E) => if e ≠ 0 then (([], e), E) else (E.namesOn path, E) from rfl)
  clear h hF
  generalize D.edited.step ⟨#[78, 97, 109, 101, 115]⟩ path ⟨#[]⟩ = st at HST HS HLI
  obtain ⟨full, er, E⟩ := st
  have HS := Lib.hid (show D.edited.namesC path = if er ≠ 0 then (([], er), E) else (E.namesOn path, E) from HS.out)
  have HLI := Lib.hid (show Light E from HLI.out)
  have hres : Tryz.f37.results = #[.tmp 4, .tmp 5] := rfl
  go_enter Tryz.func37, Tryz.ntmps37
  go_wp2_with fail
  refine HST.out.mono ?_
  rintro e w1 ⟨rfl, hT⟩
  have HT := Lib.hid hT
  clear hT HST
  by_cases h0 : er = 0
  · subst h0
    obtain ⟨G1, h1, ho1, hp1⟩ := HT.out
    have H1 := Lib.hid h1
    have HDI := Lib.hid (fun (W : World) (ho : Off [] w1 W) (v : Bool) (hv : E.dir path = v) => ddir_v p G1 E path W (h1.m.off ho (by simp) (by simp)) (by unfold maxLen; omega) (h1.ok.look (by omega) path) v hv)
    have HTR := Lib.hid (fun (W : World) (ho : Off [] w1 W) => dtree_callE p (n + 1) G1 E W (h1.off ho) (by omega))
    have HFI := Lib.hid (HLI.out.fits h1.ok)
    have HNM := Lib.hid (fun (W : World) (ho : Off [] w1 W) (q : Option Addr) (m c : Nat) (hm : E.tree.length = m) (hmc : m ≤ c) (hb : m ≤ maxLen) (hr : Row W q E.tree) => names_any q E.tree m c path W hr hm hmc hb HFI.out (by unfold maxLen; omega) (h1.tabs.off ho))
    have HTL := Lib.hid (show E.tree.length ≤ 1000000 by
      have h5 := h1.ok.tree h1.m.parts.names.1
      rw [h5, List.length_map, sortN_len]
      have := h1.ok.nlen
      omega)
    by_cases hp : path = ⟨#[]⟩
    · have HS2 := Lib.hid (show D.edited.namesC path = (if E.dir path then (namesR E.tree (str path), 0) else ([], 73), E) by
        rw [HS.out]; unfold PDisk.namesOn; rw [if_pos hp]; simp)
      have hoo : Off [] w1 w1 := Off.refl _ _
      have HOO := Lib.hid hoo
      clear HS h1 ho1 hp1 hoo
      have hpe : path.toList.isEmpty = true := by rw [hp, Lib.toList_data]; rfl
      have hpe2 : path.toList = [] := by rw [hp, Lib.toList_data]
      clear hp
      go_upto_region 8 with fail
      by_cases hd : E.dir path = true
      · have HDD := Lib.hid (HDI.out _ HOO.out true hd)
        have HF := Lib.hid (show D.edited.namesC path = ((namesR E.tree (str path), 0), E) by rw [HS2.out, hd]; rfl)
        clear hd HDI HS2
        go_wp2_with fail
        refine HDD.out.mono ?_
        rintro e wb ⟨rfl, hob⟩
        have HOB := Lib.hid (HOO.out.trans_nil hob)
        clear hob HDD
        go_wp2_with fail
        refine (HTR.out _ HOB.out).mono ?_
        rintro e wc ⟨v, rfl, hrow, hoc⟩
        have HOC := Lib.hid (HOB.out.trans_nil hoc)
        obtain ⟨m, hm⟩ : ∃ m, E.tree.length = m := ⟨_, rfl⟩
        obtain ⟨q, c, hv, hr, hc, -⟩ := own_row hrow
        rw [hm] at hv hc
        subst hv
        have HNN := Lib.hid (HNM.out wc HOC.out q m c hm hc (by have := HTL.out; unfold maxLen; omega) hr)
        clear hrow hoc hr HNM HTR hm
        go_wp2_with fail
        refine HNN.out.mono ?_
        rintro e wd ⟨u, rfl, hown, hod⟩
        have HOW := Lib.hid hown
        have HOD := Lib.hid hod
        clear hown hod HNN
        go_wp2_with fail
        refine bodyPost_ret (v := .tuple #[u, .int .i64 0]) ?_ rfl ?_
        · simp only [results, hres]
          go_simp
        · rw [HF.out]
          exact ⟨u, wc, rfl, HOW.out, HT.out.off HOC.out, HOD.out⟩
      · have hd : E.dir path = false := by simpa using hd
        have HDD := Lib.hid (HDI.out _ HOO.out false hd)
        have HF := Lib.hid (show D.edited.namesC path = (([], 73), E) by rw [HS2.out, hd]; rfl)
        clear hd HDI HS2
        go_wp2_with fail
        refine HDD.out.mono ?_
        rintro e wb ⟨rfl, hob⟩
        have HOB := Lib.hid (HOO.out.trans_nil hob)
        clear hob HDD
        go_wp2_with fail
        refine bodyPost_ret (v := .tuple #[.slice none 0 0, .int .i64 73]) ?_ rfl ?_
        · simp only [results, hres]
          go_simp
        · rw [HF.out]
          exact ⟨_, wb, rfl, ⟨rfl, .inl ⟨rfl, rfl⟩⟩, HT.out.off HOB.out, Off.refl _ _⟩
    · obtain ⟨hpe1, hpe2⟩ := emp_ne hp
      obtain ⟨x1, hx1⟩ : ∃ x, PDisk.no path = x := ⟨_, rfl⟩
      obtain ⟨x2, hx2⟩ : ∃ x, E.gone path = x := ⟨_, rfl⟩
      have hno := dno_any path w1 h1.tabs.tabs
      have hgo := fun (W : World) (ho : Off [] w1 W) => dgone_any p G1 E path W (h1.m.off ho (by simp) (by simp)) (by unfold maxLen; omega) (h1.ok.look (by omega) path)
      rw [hx1] at hno
      rw [hx2] at hgo
      unfold rsn at hno hgo
      have HNO := Lib.hid hno
      have HGO := Lib.hid hgo
      have HS2 := Lib.hid (show D.edited.namesC path = (if firstE [x1, x2] ≠ 0 then ([], firstE [x1, x2]) else if E.dir path then (namesR E.tree (str path), 0) else ([], 73), E) by
        rw [HS.out]; unfold PDisk.namesOn; rw [if_neg hp, hx1, hx2]; simp)
      clear HS h1 ho1 hp1 hx1 hx2 hno hgo hp
      go_wp2_with fail
      refine HNO.out.mono ?_
      rintro e w2 ⟨rfl, ho2⟩
      have HO2 := Lib.hid ho2
      clear ho2 HNO
      go_wp2_with fail
      refine (HGO.out _ HO2.out).mono ?_
      rintro e w3 ⟨rfl, ho3⟩
      have HO3 := Lib.hid ((HO2.out.trans_nil ho3).alloc (.cells (rsnCells [x1, x2]).toArray 111))
      clear ho3 HGO HO2
      go_wp2_with fail
      refine (dfirst_any w3.heap.size 2 2 [x1, x2] _ (rsns_new w3 [x1, x2] _ rfl) rfl (by omega)).mono ?_
      rintro e w4 ⟨rfl, ho4⟩
      have HOO := Lib.hid (HO3.out.trans_nil ho4)
      clear ho4 HO3
      by_cases hv0 : firstE [x1, x2] = 0
      · have HS3 := Lib.hid (show D.edited.namesC path = (if E.dir path then (namesR E.tree (str path), 0) else ([], 73), E) by rw [HS2.out, hv0]; simp)
        have HS2 := HS3
        rw [hv0]
        clear hv0 HS3
        go_upto_region 8 with fail
        by_cases hd : E.dir path = true
        · have HDD := Lib.hid (HDI.out _ HOO.out true hd)
          have HF := Lib.hid (show D.edited.namesC path = ((namesR E.tree (str path), 0), E) by rw [HS2.out, hd]; rfl)
          clear hd HDI HS2
          go_wp2_with fail
          refine HDD.out.mono ?_
          rintro e wb ⟨rfl, hob⟩
          have HOB := Lib.hid (HOO.out.trans_nil hob)
          clear hob HDD
          go_wp2_with fail
          refine (HTR.out _ HOB.out).mono ?_
          rintro e wc ⟨v, rfl, hrow, hoc⟩
          have HOC := Lib.hid (HOB.out.trans_nil hoc)
          obtain ⟨m, hm⟩ : ∃ m, E.tree.length = m := ⟨_, rfl⟩
          obtain ⟨q, c, hv, hr, hc, -⟩ := own_row hrow
          rw [hm] at hv hc
          subst hv
          have HNN := Lib.hid (HNM.out wc HOC.out q m c hm hc (by have := HTL.out; unfold maxLen; omega) hr)
          clear hrow hoc hr HNM HTR hm
          go_wp2_with fail
          refine HNN.out.mono ?_
          rintro e wd ⟨u, rfl, hown, hod⟩
          have HOW := Lib.hid hown
          have HOD := Lib.hid hod
          clear hown hod HNN
          go_wp2_with fail
          refine bodyPost_ret (v := .tuple #[u, .int .i64 0]) ?_ rfl ?_
          · simp only [results, hres]
            go_simp
          · rw [HF.out]
            exact ⟨u, wc, rfl, HOW.out, HT.out.off HOC.out, HOD.out⟩
        · have hd : E.dir path = false := by simpa using hd
          have HDD := Lib.hid (HDI.out _ HOO.out false hd)
          have HF := Lib.hid (show D.edited.namesC path = (([], 73), E) by rw [HS2.out, hd]; rfl)
          clear hd HDI HS2
          go_wp2_with fail
          refine HDD.out.mono ?_
          rintro e wb ⟨rfl, hob⟩
          have HOB := Lib.hid (HOO.out.trans_nil hob)
          clear hob HDD
          go_wp2_with fail
          refine bodyPost_ret (v := .tuple #[.slice none 0 0, .int .i64 73]) ?_ rfl ?_
          · simp only [results, hres]
            go_simp
          · rw [HF.out]
            exact ⟨_, wb, rfl, ⟨rfl, .inl ⟨rfl, rfl⟩⟩, HT.out.off HOB.out, Off.refl _ _⟩
      · obtain ⟨ee, hee⟩ : ∃ ee, firstE [x1, x2] = ee := ⟨_, rfl⟩
        have HF := Lib.hid (show D.edited.namesC path = (([], ee), E) by rw [HS2.out, if_pos hv0, hee])
        rw [hee]
        have hne : (ee == 0) = false := beq_eq_false_iff_ne.2 (by rw [← hee]; exact hv0)
        clear hv0 hee HS2
        go_wp2_with fail
        refine bodyPost_ret (v := .tuple #[.slice none 0 0, .int .i64 ee]) ?_ rfl ?_
        · simp only [results, hres]
          go_simp
        · rw [HF.out]
          exact ⟨_, w4, rfl, ⟨rfl, .inl ⟨rfl, rfl⟩⟩, HT.out.off HOO.out, Off.refl _ _⟩
  · have HS2 := Lib.hid (show D.edited.namesC path = (([], er), E) by rw [HS.out, if_pos h0])
    have hne : (er == 0) = false := beq_eq_false_iff_ne.2 h0
    clear h0
    go_wp2_with fail
    refine bodyPost_ret (v := .tuple #[.slice none 0 0, .int .i64 er]) ?_ rfl ?_
    · simp only [results, hres]
      go_simp
    · rw [HS2.out]
      exact ⟨_, w1, rfl, ⟨rfl, .inl ⟨rfl, rfl⟩⟩, HT.out, Off.refl _ _⟩
end Go.Proofs.YtgcfkljooabjjaaGreatDoor
