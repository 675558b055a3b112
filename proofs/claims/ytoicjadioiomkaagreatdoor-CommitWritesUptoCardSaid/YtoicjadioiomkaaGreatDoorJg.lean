/- Texts of this claim, one behind the other: DWrite DRep DRem DMk DLk DNm MvLaw MvC DMv DNew. Conditions: what each lemma states. -/
import Derived.Test.YtoicjadioiomkaaGreatDoorJf
import Derived.Test.YtoicjadioiomkaaGreatDoorJd
import Derived.Carry
set_option linter.unusedVariables false
set_option linter.unusedSimpArgs false
namespace Go.Proofs.YtoicjadioiomkaaGreatDoor
section
open Go.RowKit Go.Op Go.Maps
theorem put6 {w : World} {q : Nat} {c0 c1 c2 c3 c4 c5 a b c d x y : Value} (hq : Blk w q 127 #[c0, c1, c2, c3, c4, c5]) :
    Blk ((((((w.setCell ⟨q, 0, none⟩ a).setCell ⟨q, 1, none⟩ b).setCell ⟨q, 2, none⟩ c).setCell ⟨q, 3, none⟩ d).setCell ⟨q, 4, none⟩ x).setCell ⟨q, 5, none⟩ y) q 127 #[a, b, c, d, x, y] ∧
    Off [q] w ((((((w.setCell ⟨q, 0, none⟩ a).setCell ⟨q, 1, none⟩ b).setCell ⟨q, 2, none⟩ c).setCell ⟨q, 3, none⟩ d).setCell ⟨q, 4, none⟩ x).setCell ⟨q, 5, none⟩ y) := by
  refine ⟨?_, ?_⟩
  · have := (((((hq.set_ 0 a).set_ 1 b).set_ 2 c).set_ 3 d).set_ 4 x).set_ 5 y
    simpa using this
  exact ((((((Off.refl [q] w).setCell (.inr (by simp)) _).setCell (.inr (by simp)) _).setCell (.inr (by simp)) _).setCell (.inr (by simp)) _).setCell (.inr (by simp)) _).setCell (.inr (by simp)) _
theorem rsns_blk (w : World) (l : List (Bool × Int)) (cs : Array Value) (h : (rsnCells l).toArray = cs) : Rsns (w.alloc (.cells cs 156)) w.heap.size l := by
  subst h; exact Blk.new w 156 _
set_option maxRecDepth 100000 in
set_option maxHeartbeats 16000000 in
theorem dwrite_callE (p n : Nat) (G : Geo) (D : PDisk) (path data : ByteArray) (mode : Int) (w : World) (h : DSE w p G D n) (hE : EditsOk D n) (hn : n ≤ 50000000) (hs : path.size ≤ 9223372036854775807) :
    Calls Tryz.prog 33 #[.pointer (some ⟨p, 0, none⟩), .string path, .string data, .int .i64 mode] w fun e w' => e = .returned (.int .i64 (D.edited.write path data mode).1) ∧ DSETo w p G.parts w' (D.edited.write path data mode).2 (n + 2) := by
  obtain ⟨i0, hi0, hz0, hz1, hz2⟩ := info_parts infoRsn; have HST := Lib.hid (dstep_oneE p n G D ⟨#[87, 114, 105, 116, 101]⟩ path w h hE hn); have HS := Lib.hid (show D.edited.write path data mode = match D.edited.step ⟨#[87, 114, 105, 116, 101]⟩ path ⟨#[]⟩ with | (full, e, E) => if e ≠ 0 then (e, E) else E.write_ full path data mode from rfl); clear h
  generalize D.edited.step ⟨#[87, 114, 105, 116, 101]⟩ path ⟨#[]⟩ = st at HST HS
  obtain ⟨full, er, E⟩ := st; have HS := Lib.hid (show D.edited.write path data mode = if er ≠ 0 then (er, E) else E.write_ full path data mode from HS.out)
  go_enter Tryz.func33, Tryz.ntmps33
  go_wp2_with fail
  refine HST.out.mono ?_
  rintro e w1 ⟨rfl, hT⟩; have HT := Lib.hid hT; clear hT HST
  by_cases h0 : er = 0
  · subst h0
    have HS2 := Lib.hid (show D.edited.write path data mode = E.write_ full path data mode by rw [HS.out]; simp); obtain ⟨G1, h1, ho1, hp1⟩ := HT.out; have HOP := Lib.hid (And.intro ho1 hp1); obtain ⟨x1, hx1⟩ : ∃ x, PDisk.no path = x := ⟨_, rfl⟩
    obtain ⟨x3, hx3⟩ : ∃ x, E.parentE path = x := ⟨_, rfl⟩
    obtain ⟨b2, hb2⟩ : ∃ b, (decide (65536 < data.size) || decide (mode < 0) || decide (511 < mode)) = b := ⟨_, rfl⟩
    have HX := Lib.hid (And.intro hx1 hx3); have HB2 := Lib.hid hb2; have HNO := Lib.hid (fun (W : World) (ho : Off [] w1 W) => dno_any path W (h1.tabs.off ho)); have HPA := Lib.hid (fun (W : World) (ho : Off [] w1 W) => dparent_big p G1 E path W (h1.m.off ho (by simp) (by simp)) hs (fun x => h1.ok.look (by omega) x) (h1.tabs.off ho)); have H1 := Lib.hid h1; rw [hx1] at HNO; rw [hx3] at HPA
    unfold rsn at HNO HPA; clear HS hx1 hx3 hb2 h1 ho1 hp1
    go_upto_region 5 with fail
    refine code_gen (fun W => Blk W w1.heap.size 30 #[.string ⟨#[]⟩, .int .i64 1, .string data, .int .i64 mode] ∧ Off [] w1 W) ⟨Blk.new w1 _ _, (Off.refl _ _).alloc _⟩ ?_
    rintro W ⟨hbn, hof⟩; have HBN := Lib.hid hbn; have HOF := Lib.hid hof; have HW := H1.out.off hof; have HDW := Lib.hid HW
    cases ha : E.at_ path with
    | none =>
      have HAT := Lib.hid (dat_none p G1 E path W HW.m (by unfold maxLen; omega) (HW.ok.look (by omega) path) ha); have HWR := Lib.hid (show D.edited.write path data mode = E.lay path ⟨⟨#[]⟩, 1, data, mode⟩ full [x1, (b2, 2), x3, (false, 73)] by
        rw [HS2.out]; unfold PDisk.write_; rw [ha, HX.out.1, HX.out.2, HB2.out])
      clear hbn hof HW ha
      go_wp2_with fail
      refine HAT.out.mono ?_
      rintro e w2 ⟨rfl, ho2⟩; have HO2 := Lib.hid (HOF.out.trans_nil ho2); have HOW := Lib.hid ho2; clear ho2 HAT
      go_upto_region 6 with fail
      go_cut [13] from 31 to 59 (fun s wx => ∃ g, s = .slice (some ⟨g, 0, none⟩) 4 4 ∧ Rsns wx g [x1, (b2, 2), x3, (false, 73)] ∧ Off [] w2 wx)
      case first =>
        by_cases hA : 65536 < data.size
        · have hA1 : (65536 : Int) < data.size := by omega
          have hb2 : b2 = true := by rw [← HB2.out]; simp [hA]
          subst hb2; clear HB2 hA
          go_wp2_with fail
          refine (HNO.out _ HO2.out).mono ?_
          rintro e wa ⟨rfl, hoa⟩
          go_wp2_with fail
          refine (HPA.out _ (HO2.out.trans_nil hoa)).mono ?_
          rintro e wb ⟨rfl, hob⟩; have hab := (hoa.trans_nil hob).alloc (.cells (rsnCells [x1, (true, 2), x3, (false, 73)]).toArray 156); clear hoa hob
          go_wp2_with fail
          go_meet
          exact ⟨wb.heap.size, rfl, rsns_blk wb [x1, (true, 2), x3, (false, 73)] _ rfl, hab⟩
        have hA1 : ¬ (65536 : Int) < data.size := by omega
        by_cases hB : mode < 0
        · have hB1 := hB
          have hb2 : b2 = true := by rw [← HB2.out]; simp [hA, hB]
          subst hb2; clear HB2 hA hB
          go_wp2_with fail
          refine (HNO.out _ HO2.out).mono ?_
          rintro e wa ⟨rfl, hoa⟩
          go_wp2_with fail
          refine (HPA.out _ (HO2.out.trans_nil hoa)).mono ?_
          rintro e wb ⟨rfl, hob⟩; have hab := (hoa.trans_nil hob).alloc (.cells (rsnCells [x1, (true, 2), x3, (false, 73)]).toArray 156); clear hoa hob
          go_wp2_with fail
          go_meet
          exact ⟨wb.heap.size, rfl, rsns_blk wb [x1, (true, 2), x3, (false, 73)] _ rfl, hab⟩
        have hB1 := hB
        by_cases hC : 511 < mode
        · have hC1 := hC
          have hb2 : b2 = true := by rw [← HB2.out]; simp [hA, hB, hC]
          subst hb2; clear HB2 hA hB hC
          go_wp2_with fail
          refine (HNO.out _ HO2.out).mono ?_
          rintro e wa ⟨rfl, hoa⟩
          go_wp2_with fail
          refine (HPA.out _ (HO2.out.trans_nil hoa)).mono ?_
          rintro e wb ⟨rfl, hob⟩; have hab := (hoa.trans_nil hob).alloc (.cells (rsnCells [x1, (true, 2), x3, (false, 73)]).toArray 156); clear hoa hob
          go_wp2_with fail
          go_meet
          exact ⟨wb.heap.size, rfl, rsns_blk wb [x1, (true, 2), x3, (false, 73)] _ rfl, hab⟩
        have hC1 := hC; have hb2 : b2 = false := by rw [← HB2.out]; simp [hA, hB, hC]
        subst hb2; clear HB2 hA hB hC
        go_wp2_with fail
        refine (HNO.out _ HO2.out).mono ?_
        rintro e wa ⟨rfl, hoa⟩
        go_wp2_with fail
        refine (HPA.out _ (HO2.out.trans_nil hoa)).mono ?_
        rintro e wb ⟨rfl, hob⟩; have hab := (hoa.trans_nil hob).alloc (.cells (rsnCells [x1, (false, 2), x3, (false, 73)]).toArray 156); clear hoa hob
        go_wp2_with fail
        go_meet
        rw [show (decide ((65536 : Int) < data.size) || decide (mode < 0) || decide (511 < mode)) = false from by simp only [Bool.or_eq_false_iff, decide_eq_false_iff_not]; omega]; exact ⟨wb.heap.size, rfl, rsns_blk wb [x1, (false, 2), x3, (false, 73)] _ rfl, hab⟩
      case rest =>
        obtain ⟨g, rfl, hR, hox⟩ := hcut; have HR := Lib.hid hR; have HX2 := Lib.hid (HO2.out.trans_nil hox); have hbn := (HBN.out.off HOW.out (by simp)).off hox (by simp); have hcn := hbn.cell; have hln := hbn.lt; have HD2 := Lib.hid (H1.out.off HX2.out); clear hR hox hbn
        go_wp2_with fail
        refine (dlay_any p g 4 G1 E path ⟨⟨#[]⟩, 1, data, mode⟩ full [x1, (b2, 2), x3, (false, 73)] wc HD2.out.m HD2.out.sb HR.out rfl (by omega) (by have := HD2.out.ok.inos; omega) (by have := HD2.out.ok.nlen; omega) (by have := HD2.out.ok.llen; omega) (by unfold maxLen; omega)).mono ?_
        rintro e w5 ⟨rfl, hL⟩; have HL := Lib.hid hL; clear hL hcn hln
        go_wp2_with fail
        go_ret
        rw [HWR.out]; refine ⟨rfl, DSETo.step (HOP.out.1.trans_nil HX2.out) HOP.out.2 (HD2.out.to (Off.refl _ _) HL.out ?_)⟩; rw [← HX.out.1, ← HX.out.2]; exact PDisk.lay_ok HD2.out.ok path _ full _ (by intro x hx; simp only [List.mem_cons, List.not_mem_nil, or_false] at hx; rcases hx with rfl | rfl | rfl | rfl <;> simp [PDisk.no, PDisk.parentE]) (by simp)
    | some m =>
      obtain ⟨q, hq1, hq2, -, hq3, -⟩ := at_some HW.m ha; have HAT := Lib.hid (dat_some p G1 E path W HW.m (by unfold maxLen; omega) (HW.ok.look (by omega) path) q hq1); have HQ3 := Lib.hid hq3; have hb4 : (!decide (m.node.kind = 1)) = (m.node.kind != 1) := by
        by_cases hk : m.node.kind = 1
        · rw [hk]; rfl
        rw [decide_eq_false hk, bne_iff_ne.2 hk]; rfl
      have HWR := Lib.hid (show D.edited.write path data mode = if firstE [x1, (b2, 2), x3, (m.node.kind != 1, 73), (full, 71)] ≠ 0 then (firstE [x1, (b2, 2), x3, (m.node.kind != 1, 73), (full, 71)], E) else (0, { E with inos := E.inos.set (lookN E.names path - 1) ⟨⟨⟨#[]⟩, 1, data, mode⟩, E.clock, true⟩ }) by
        rw [HS2.out]; unfold PDisk.write_; rw [ha, HX.out.1, HX.out.2, HB2.out]; dsimp only; rw [hb4]
        rfl)
      have HQW := Lib.hid hq2; clear hbn hof HW ha hq1 hq2 hq3 hb4
      go_wp2_with fail
      refine HAT.out.mono ?_
      rintro e w2 ⟨rfl, ho2⟩; have HO2 := Lib.hid (HOF.out.trans_nil ho2); have HOW := Lib.hid ho2; have HQ := Lib.hid (HQW.out.off ho2 (by simp)); clear ho2 HAT
      go_upto_region 6 with fail
      go_cut [13] from 31 to 59 (fun s wx => ∃ g, s = .slice (some ⟨g, 0, none⟩) 4 4 ∧ Rsns wx g [x1, (b2, 2), x3, (m.node.kind != 1, 73)] ∧ Off [] w2 wx)
      case first =>
        by_cases hA : 65536 < data.size
        · have hA1 : (65536 : Int) < data.size := by omega
          have hb2 : b2 = true := by rw [← HB2.out]; simp [hA]
          subst hb2; clear HB2 hA
          go_wp2_with fail
          refine (HNO.out _ HO2.out).mono ?_
          rintro e wa ⟨rfl, hoa⟩
          go_wp2_with fail
          refine (HPA.out _ (HO2.out.trans_nil hoa)).mono ?_
          rintro e wb ⟨rfl, hob⟩; have hbq := (HQ.out.off hoa (by simp)).off hob (by simp); have hcq := hbq.cell; have hlq := hbq.lt; unfold inoCells at hcq; clear hbq; have hab := (hoa.trans_nil hob).alloc (.cells (rsnCells [x1, (true, 2), x3, (m.node.kind != 1, 73)]).toArray 156); clear hoa hob
          go_wp2_with fail
          go_meet
          exact ⟨wb.heap.size, rfl, rsns_blk wb [x1, (true, 2), x3, (m.node.kind != 1, 73)] _ rfl, hab⟩
        have hA1 : ¬ (65536 : Int) < data.size := by omega
        by_cases hB : mode < 0
        · have hB1 := hB
          have hb2 : b2 = true := by rw [← HB2.out]; simp [hA, hB]
          subst hb2; clear HB2 hA hB
          go_wp2_with fail
          refine (HNO.out _ HO2.out).mono ?_
          rintro e wa ⟨rfl, hoa⟩
          go_wp2_with fail
          refine (HPA.out _ (HO2.out.trans_nil hoa)).mono ?_
          rintro e wb ⟨rfl, hob⟩; have hbq := (HQ.out.off hoa (by simp)).off hob (by simp); have hcq := hbq.cell; have hlq := hbq.lt; unfold inoCells at hcq; clear hbq; have hab := (hoa.trans_nil hob).alloc (.cells (rsnCells [x1, (true, 2), x3, (m.node.kind != 1, 73)]).toArray 156); clear hoa hob
          go_wp2_with fail
          go_meet
          exact ⟨wb.heap.size, rfl, rsns_blk wb [x1, (true, 2), x3, (m.node.kind != 1, 73)] _ rfl, hab⟩
        have hB1 := hB
        by_cases hC : 511 < mode
        · have hC1 := hC
          have hb2 : b2 = true := by rw [← HB2.out]; simp [hA, hB, hC]
          subst hb2; clear HB2 hA hB hC
          go_wp2_with fail
          refine (HNO.out _ HO2.out).mono ?_
          rintro e wa ⟨rfl, hoa⟩
          go_wp2_with fail
          refine (HPA.out _ (HO2.out.trans_nil hoa)).mono ?_
          rintro e wb ⟨rfl, hob⟩; have hbq := (HQ.out.off hoa (by simp)).off hob (by simp); have hcq := hbq.cell; have hlq := hbq.lt; unfold inoCells at hcq; clear hbq; have hab := (hoa.trans_nil hob).alloc (.cells (rsnCells [x1, (true, 2), x3, (m.node.kind != 1, 73)]).toArray 156); clear hoa hob
          go_wp2_with fail
          go_meet
          exact ⟨wb.heap.size, rfl, rsns_blk wb [x1, (true, 2), x3, (m.node.kind != 1, 73)] _ rfl, hab⟩
        have hC1 := hC; have hb2 : b2 = false := by rw [← HB2.out]; simp [hA, hB, hC]
        subst hb2; clear HB2 hA hB hC
        go_wp2_with fail
        refine (HNO.out _ HO2.out).mono ?_
        rintro e wa ⟨rfl, hoa⟩
        go_wp2_with fail
        refine (HPA.out _ (HO2.out.trans_nil hoa)).mono ?_
        rintro e wb ⟨rfl, hob⟩; have hbq := (HQ.out.off hoa (by simp)).off hob (by simp); have hcq := hbq.cell; have hlq := hbq.lt; unfold inoCells at hcq; clear hbq; have hab := (hoa.trans_nil hob).alloc (.cells (rsnCells [x1, (false, 2), x3, (m.node.kind != 1, 73)]).toArray 156); clear hoa hob
        go_wp2_with fail
        go_meet
        rw [show (decide ((65536 : Int) < data.size) || decide (mode < 0) || decide (511 < mode)) = false from by simp only [Bool.or_eq_false_iff, decide_eq_false_iff_not]; omega]; exact ⟨wb.heap.size, rfl, rsns_blk wb [x1, (false, 2), x3, (m.node.kind != 1, 73)] _ rfl, hab⟩
      case rest =>
        obtain ⟨g, rfl, hR, hox⟩ := hcut; have HR := Lib.hid hR; have HX2 := Lib.hid (HO2.out.trans_nil hox); have HBN2 := Lib.hid ((HBN.out.off HOW.out (by simp)).off hox (by simp)); have HQ2 := Lib.hid (HQ.out.off hox (by simp)); have HD2 := Lib.hid (H1.out.off HX2.out); obtain ⟨v, hv⟩ : ∃ v, firstE [x1, (b2, 2), x3, (m.node.kind != 1, 73), (full, 71)] = v := ⟨_, rfl⟩
        rw [hv] at HWR; have HV := Lib.hid hv; clear hR hox hv
        go_wp2_with (at_builtin; refine wpList_append_grows _ rfl _ _ 158 rfl 156 i0 _ 2 16 Tryz.underlying158 hi0 hz0 hz1 hz2 rfl (by decide) (some ⟨g, 0, none⟩) 4 4 (rsnCells [x1, (b2, 2), x3, (m.node.kind != 1, 73)]) rfl (by intro h; cases h) rfl (HR.out.off ((Off.refl _ _).alloc _)).cells ⟨wc.heap.size, 0, none⟩ 1 1 [.bool full, .int .i64 71] rfl rfl (cell_two_at (Blk.new wc _ _)) (by simp [Value.oneCell']) (by omega) (by unfold maxLen; omega) (by omega) ?_; intro v' w5 hown hgrow; obtain ⟨g5, c5, rfl, hR5⟩ := rsns_own (l := [x1, (b2, 2), x3, (m.node.kind != 1, 73)] ++ [(full, 71)]) (by rw [rsnCells_snoc]; exact hown) (by omega))
        refine (dfirst_any g5 c5 5 [x1, (b2, 2), x3, (m.node.kind != 1, 73), (full, 71)] w5 hR5 rfl (by omega)).mono ?_
        rintro e w6 ⟨rfl, ho6⟩; rw [HV.out]; have hx := ((((Off.refl [] wc).alloc _).grown hgrow (fun k hk => by cases hk))).trans_nil ho6; have HX6 := Lib.hid (HX2.out.trans_nil hx); have HD6 := Lib.hid (HD2.out.off hx); have hbn := HBN2.out.off hx (by simp); have HBN6 := Lib.hid hbn; have hbq := HQ2.out.off hx (by simp); have HQ6 := Lib.hid hbq; clear hown hgrow ho6 hR5 hx
        by_cases hv0 : v = 0
        · subst hv0
          have HF := Lib.hid (show D.edited.write path data mode = (0, { E with inos := E.inos.set (lookN E.names path - 1) ⟨⟨⟨#[]⟩, 1, data, mode⟩, E.clock, true⟩ }) by rw [HWR.out]; simp); clear HWR; have hcn := hbn.cell; have hln := hbn.lt; have hcq := hbq.cell; have hfq := hbq.frozen; have hlq := hbq.lt; have hcd := HD6.out.m.blk.cell; have hld := HD6.out.m.blk.lt
          have hne1 : p ≠ q := HD6.out.m.blk.ne_ hbq (by decide)
          have hne2 : w1.heap.size ≠ q := hbn.ne_ hbq (by decide)
          obtain ⟨cl, hcl⟩ : ∃ cl : Int, (E.clock : Int) = cl := ⟨_, rfl⟩
          unfold diskCells at hcd; rw [hcl] at hcd HF; have HCL := Lib.hid hcl; unfold inoCells at hcq; clear hbn hbq hcl
          go_upto_region 12 with fail
          go_region
          obtain ⟨k1, k2⟩ := put6 (a := .string ⟨#[]⟩) (b := .int .i64 1) (c := .string data) (d := .int .i64 mode) (x := .int .i64 cl) (y := .bool true) HQ6.out; have K1 := Lib.hid k1.drew; have K2 := Lib.hid k2.drew; clear k1 k2 hcn hln hcq hfq hlq hcd hld
          go_wp2_with fail
          go_ret
          rw [HF.out]; refine ⟨rfl, DSETo.step (HOP.out.1.trans_nil HX6.out) HOP.out.2 ((sync_end HD6.out HQ3.out K2.out ?_ hne1).le (by omega))⟩; exact K1.out
        have HF := Lib.hid (show D.edited.write path data mode = (v, E) by rw [HWR.out, if_pos hv0]); have hne : (v == 0) = false := beq_eq_false_iff_ne.2 hv0
        clear hv0 HWR hbn hbq
        go_wp2_with fail
        go_ret
        rw [HF.out]; exact ⟨rfl, DSETo.step (HOP.out.1.trans_nil HX6.out) HOP.out.2 (HD6.out.refl.le (by omega))⟩
  have HS2 := Lib.hid (show D.edited.write path data mode = (er, E) by rw [HS.out, if_pos h0]); have hne : (er == 0) = false := beq_eq_false_iff_ne.2 h0
  clear h0
  go_wp2_with fail
  go_ret
  rw [HS2.out]; exact ⟨rfl, HT.out.le (by omega)⟩
end
section
open Go.RowKit Go.Op Go.Maps
theorem NMat.rem {w : World} {b : Nat} {l : NameL} (h : NMat w b l) (p : ByteArray) (hp : p.size ≤ maxLen) (ty : TypeId) :
    ∃ w', (Builtin.delete_ #[111, 9] ty #[.map (some b), .string p]).run Tryz.prog w = .ok (.tuple #[]) w' ∧ NMat w' b (delN l p) ∧ w.grownBy w' (some b) := by
  obtain ⟨ha, D, hD, hs, hr⟩ := h; obtain ⟨w', hrun, hown, ht⟩ := hD.drop strK Tryz.underlying111 (WideMaps.keyOf_string_mk Tryz.underlying9 hp) ty; exact ⟨w', hrun, NMat.del ha hD hs hr p hown, ht.grown⟩
set_option maxRecDepth 100000 in
set_option maxHeartbeats 8000000 in
theorem repc_any (p m gp gq : Nat) (G : Geo) (D : PDisk) (path q : ByteArray) (W : World) (hM : DiskM W p { G with nb := m } D) (hm : m ∉ G.rest) (hn : D.names.length ≤ 1000000000) (hi : lookN D.names path ≤ 4611686018427387904) (hs : path.size ≤ maxLen) (hq : q.size ≤ maxLen)
    (hbp : Blk W gp 9 #[.string path]) (hbq : Blk W gq 9 #[.string q]) :
    Calls Tryz.prog 86 #[.map (some m), .pointer (some ⟨gp, 0, none⟩), .pointer (some ⟨gq, 0, none⟩)] W
      (TurnP p m G { D with names := delN (putN D.names q (lookN D.names path)) path } W) := by
  have hl := hM.parts.names.look path hs; obtain ⟨w1, h1, hN1, hg1⟩ := hM.parts.names.add hn q hq (lookN D.names path : Int) (lookN D.names path) rfl hi; obtain ⟨w2, h2, hN2, hg2⟩ := hN1.rem path hs 0; have HM := Lib.hid hM; have HMM := Lib.hid hm; have HN2 := Lib.hid hN2; have HG := Lib.hid (And.intro hg1 hg2); have hmb := hM.parts.names.isMap
  have hp1 := hbp.grown hg1 (fun e => hmb.ne hbp (by injection e with e; exact e.symm)); have hcp := hbp.cell; have hcq := hbq.cell; have hcp1 := hp1.cell; have hlp := hbp.lt; have hlq := hbq.lt; have hlp1 := hp1.lt; generalize (lookN D.names path : Int) = ix at hl h1; clear hM hm hN1 hN2 hg1 hg2 hmb hp1 hbp hbq hn hi hs hq
  go_enter Tryz.func86, Tryz.ntmps86
  go_wp2_with fail
  refine bodyPost_end (results_none rfl _ _ _) rfl ?_
  exact turn_names HM.out HMM.out HN2.out (((Off.refl [m] W).grown HG.out.1 (fun k hk => by cases hk; exact .inr (by simp))).grown HG.out.2 (fun k hk => by cases hk; exact .inr (by simp)))
theorem REPEN : ∀ args w, (callFunc 86 args).run Tryz.prog w = .ok (.enter 86 args) w := enters_of Tryz.func86 (by kernel_rfl) rfl
theorem DSE.changed {w w' : World} {p n : Nat} {G : Geo} {D : PDisk} {l : NameL} (h : DSE w p G D n) (hT : DiskTo w p G.parts w' { ({ D with names := l } : PDisk) with later := D.later ++ [l] }) (hk : Ok (D.change l) (n + 1)) : DSETo w p G.parts w' (D.change l) (n + 1) :=
  h.to (Off.refl _ _) hT hk
structure Tells (f : FuncId) (args : Array Value) (w0 : World) (v : Value) : Prop where
  call : ∀ W, Off [] w0 W → Calls Tryz.prog f args W fun e w' => e = .returned v ∧ Off [] W w'
theorem tells_use {f : FuncId} {args : Array Value} {w0 W : World} {v : Value} (h : Tells f args w0 v) (ho : Off [] w0 W) : Calls Tryz.prog f args W fun e w' => e = .returned v ∧ Off [] W w' := h.call W ho
set_option maxRecDepth 100000 in
set_option maxHeartbeats 16000000 in
theorem dreplace_callE (p n : Nat) (G : Geo) (D : PDisk) (path q : ByteArray) (w : World) (h : DSE w p G D n) (hE : EditsOk D n) (hn : n ≤ 50000000) (hs : path.size ≤ 9223372036854775807) (hsq : q.size ≤ 9223372036854775807) :
    Calls Tryz.prog 36 #[.pointer (some ⟨p, 0, none⟩), .string path, .string q] w fun e w' => e = .returned (.int .i64 (D.edited.replace path q).1) ∧ DSETo w p G.parts w' (D.edited.replace path q).2 (n + 2) := by
  have H := Lib.hid h; have HST := Lib.hid (fun (W : World) (ho : Off [] w W) => dstep_twoE p n G D ⟨#[82, 101, 112, 108, 97, 99, 101]⟩ path q W (h.off ho) hE hn); have HS := Lib.hid (show D.edited.replace path q = match D.edited.step ⟨#[82, 101, 112, 108, 97, 99, 101]⟩ path q with | (full, e, E) => if e ≠ 0 then (e, E) else E.replace_ path q from rfl); clear h
  generalize D.edited.step ⟨#[82, 101, 112, 108, 97, 99, 101]⟩ path q = st at HST HS
  obtain ⟨full, er, E⟩ := st; have HS := Lib.hid (show D.edited.replace path q = if er ≠ 0 then (er, E) else E.replace_ path q from HS.out)
  go_enter Tryz.func36, Tryz.ntmps36
  go_upto_region 1 with fail
  refine code_gen (fun W => Blk W w.heap.size 9 #[.string path] ∧ Blk W (w.heap.size + 1) 9 #[.string q] ∧ Off [] w W ∧ w.heap.size + 1 < W.heap.size)
    ⟨(Blk.new w _ _).alloc _, Blk.new1 w _ _ _, ((Off.refl _ _).alloc _).alloc _, by simp⟩ ?_
  rintro W ⟨hbp, hbq, hof, hsz⟩; have HBP := Lib.hid hbp; have HBQ := Lib.hid hbq; have HOF := Lib.hid hof; have HSZ := Lib.hid hsz; have hcp := hbp.cell; have hcq := hbq.cell; clear hbp hbq hof hsz
  go_wp2_with fail
  refine (HST.out W HOF.out).mono ?_
  rintro e w1 ⟨rfl, hT⟩; have HT := Lib.hid hT; clear hT HST hcp hcq
  by_cases h0 : er = 0
  · subst h0
    have HS2 := Lib.hid (show D.edited.replace path q = E.replace_ path q by rw [HS.out]; simp); obtain ⟨G1, h1, ho1, hp1⟩ := HT.out; have hno : ∀ b, w.heap.size ≤ b → b < W.heap.size → b ∉ p :: G.parts := fun b hb _ hm => by
      rcases List.mem_cons.1 hm with rfl | hm
      · have := H.out.m.blk.lt; omega
      have := H.out.m.parts.lt hm; omega
    have hbp1 := HBP.out.off ho1 (hno _ (Nat.le_refl _) (by have := HSZ.out; omega)); have hbq1 := HBQ.out.off ho1 (hno _ (by omega) HSZ.out); have HBP1 := Lib.hid hbp1; have HBQ1 := Lib.hid hbq1
    have HOP := Lib.hid (And.intro (show Off (p :: G.parts) w w1 from (HOF.out.mono (fun _ _ h => by simp at h)).trans ho1 (fun _ _ h => h)) (show ∀ b ∈ G1.parts, b ∈ G.parts ∨ w.heap.size ≤ b from fun b hb => by
      rcases hp1 b hb with h | h
      · exact .inl h
      exact .inr (Nat.le_trans HOF.out.size h)))
    obtain ⟨x1, hx1⟩ : ∃ x, PDisk.no path = x := ⟨_, rfl⟩
    obtain ⟨x2, hx2⟩ : ∃ x, PDisk.no q = x := ⟨_, rfl⟩
    obtain ⟨x3, hx3⟩ : ∃ x, E.gone path = x := ⟨_, rfl⟩
    obtain ⟨x5, hx5⟩ : ∃ x, E.parentE q = x := ⟨_, rfl⟩
    obtain ⟨dp, hdp⟩ : ∃ x, E.dir path = x := ⟨_, rfl⟩
    obtain ⟨dq, hdq⟩ : ∃ x, E.dir q = x := ⟨_, rfl⟩
    obtain ⟨b, hb⟩ : ∃ b, decide (path = q) = b := ⟨_, rfl⟩
    have hbe : (path.toList == q.toList) = b := by
      rw [← hb]
      by_cases hpq : path = q
      · rw [hpq]; simp
      rw [decide_eq_false hpq]; rw [toList_str, toList_str]; exact beq_eq_false_iff_ne.2 (fun e => hpq (str_inj e))
    have HX := Lib.hid (show PDisk.no path = x1 ∧ PDisk.no q = x2 ∧ E.gone path = x3 ∧ E.parentE q = x5 ∧ E.dir path = dp ∧ E.dir q = dq ∧ decide (path = q) = b from ⟨hx1, hx2, hx3, hx5, hdp, hdq, hb⟩); have hdr : ∀ W, Off [] w1.drew W → Off [] w1 W := fun W ho => (Off.refl [] w1).drew.trans_nil ho
    have HN1 := Lib.hid (show Tells 74 #[.string path] w1.drew (.agg #[.bool x1.1, .int .i64 x1.2]) from ⟨fun W ho => by
      have := dno_any path W (h1.tabs.off (hdr W ho)); rw [hx1] at this; exact this⟩)
    have HN2 := Lib.hid (show Tells 74 #[.string q] w1.drew (.agg #[.bool x2.1, .int .i64 x2.2]) from ⟨fun W ho => by
      have := dno_any q W (h1.tabs.off (hdr W ho)); rw [hx2] at this; exact this⟩)
    have HGO := Lib.hid (show Tells 79 #[.pointer (some ⟨p, 0, none⟩), .string path] w1.drew (.agg #[.bool x3.1, .int .i64 x3.2]) from ⟨fun W ho => by
      have := dgone_any p G1 E path W (h1.m.off (hdr W ho) (by simp) (by simp)) (by unfold maxLen; omega) (h1.ok.look (by omega) path); rw [hx3] at this; exact this⟩)
    have HPA := Lib.hid (show Tells 75 #[.pointer (some ⟨p, 0, none⟩), .string q] w1.drew (.agg #[.bool x5.1, .int .i64 x5.2]) from ⟨fun W ho => by
      have := dparent_big p G1 E q W (h1.m.off (hdr W ho) (by simp) (by simp)) hsq (fun x => h1.ok.look (by omega) x) (h1.tabs.off (hdr W ho)); rw [hx5] at this; exact this⟩)
    have HDP := Lib.hid (show Tells 85 #[.pointer (some ⟨p, 0, none⟩), .string path] w1.drew (.bool dp) from ⟨fun W ho => ddir_v p G1 E path W (h1.m.off (hdr W ho) (by simp) (by simp)) (by unfold maxLen; omega) (h1.ok.look (by omega) path) dp hdp⟩)
    have HDQ := Lib.hid (show Tells 85 #[.pointer (some ⟨p, 0, none⟩), .string q] w1.drew (.bool dq) from ⟨fun W ho => ddir_v p G1 E q W (h1.m.off (hdr W ho) (by simp) (by simp)) (by unfold maxLen; omega) (h1.ok.look (by omega) q) dq hdq⟩); clear hdr; have H1 := Lib.hid h1
    have HRP := Lib.hid (show E.replace_ path q = if firstE [x1, x2, (b, 2), x3, (dp || dq, 73), x5] ≠ 0 then (firstE [x1, x2, (b, 2), x3, (dp || dq, 73), x5], E) else (0, E.change (delN (putN E.names q (lookN E.names path)) path)) by
      unfold PDisk.replace_; rw [hx1, hx2, hx3, hx5, hdp, hdq, hb])
    clear HS hx1 hx2 hx3 hx5 hdp hdq hb h1 ho1 hp1 hno hbp1 hbq1
    go_wp2_with fail
    go_cut [9] from 21 to 45 (fun s wx => s = .int .i64 (firstE [x1, x2, (b, 2), x3, (dp || dq, 73), x5]) ∧ Off [] w1 wx)
    case first =>
      have hch := Off.refl [] w1.drew; have hB := HBP1.out.drew; have hC := HBQ1.out.drew
      cases dp
      · go_region_held3 (fun w' => (∀ i, w'.cell? ⟨w.heap.size, i, none⟩ = (#[.string path] : Array Value)[i]?) ∧ (∀ i, w'.cell? ⟨w.heap.size + 1, i, none⟩ = (#[.string q] : Array Value)[i]?)) (first | assumption | exact ⟨hB.cell, hC.cell⟩ | exact ⟨(hB.alloc _).cell, (hC.alloc _).cell⟩) (first
          | (go_at_call 74; refine (tells_use (by exact HN1.out) hch).mono ?_; rintro e wA ⟨rfl, hoA⟩; have hch := hch.trans_nil hoA; have hB := hB.off hoA (by simp); have hC := hC.off hoA (by simp))
          | (go_at_call 74; refine (tells_use (by exact HN2.out) hch).mono ?_; rintro e wB ⟨rfl, hoB⟩; have hch := hch.trans_nil hoB; have hB := hB.off hoB (by simp); have hC := hC.off hoB (by simp))
          | (go_at_call 79; refine (tells_use (by exact HGO.out) hch).mono ?_; rintro e wC ⟨rfl, hoC⟩; have hch := hch.trans_nil hoC; have hB := hB.off hoC (by simp); have hC := hC.off hoC (by simp))
          | (go_at_call 85; refine (tells_use (by exact HDP.out) hch).mono ?_; rintro e wD ⟨rfl, hoD⟩; have hch := hch.trans_nil hoD; have hB := hB.off hoD (by simp); have hC := hC.off hoD (by simp))
          | (go_at_call 85; refine (tells_use (by exact HDQ.out) hch).mono ?_; rintro e wE ⟨rfl, hoE⟩; have hch := hch.trans_nil hoE; have hB := hB.off hoE (by simp); have hC := hC.off hoE (by simp))
          | (go_at_call 75; refine (tells_use (by exact HPA.out) hch).mono ?_; rintro e wF ⟨rfl, hoF⟩; have hch := hch.trans_nil hoF; have hB := hB.off hoF (by simp); have hC := hC.off hoF (by simp))
          | (go_at_call 77; refine (dfirst_any _ 6 6 [x1, x2, (b, 2), x3, (dq, 73), x5] _ (rsns_new _ [x1, x2, (b, 2), x3, (dq, 73), x5] _ rfl) rfl (by omega)).mono ?_; rintro e wG ⟨rfl, hoG⟩; have hch := (hch.alloc _).trans_nil hoG; have hB := (hB.alloc _).off hoG (by simp); have hC := (hC.alloc _).off hoG (by simp)))
        have hoe := (Off.refl [] w1).drew.trans_nil hch; clear hch hB hC
        go_wp2_with fail
        go_meet
        exact ⟨rfl, hoe⟩
      refine wp_region_held_drew (S := fun w' => (∀ i, w'.cell? ⟨w.heap.size, i, none⟩ = (#[.string path] : Array Value)[i]?) ∧ (∀ i, w'.cell? ⟨w.heap.size + 1, i, none⟩ = (#[.string q] : Array Value)[i]?)) (by kernel_rfl) ⟨hB.cell, hC.cell⟩ (fun hHeld => ?_)
      refine wpAnyH_take (i := 0) (v := ?_) rfl (by kernel_rfl) (by kernel_rfl) (by kernel_rfl) (fun _ _ _ h => h) (Or.inl ⟨by rfl, ?_⟩) (by assumption) ?_
      rotate_left
      · intro w hSw
        try dsimp only at hSw
        go_simp
        try with_reducible rfl
      try simp only [Act.put, List.setIfInBounds_toArray]
      refine wpAnyH_take (i := 2) (v := ?_) rfl (by kernel_rfl) (by kernel_rfl) (by kernel_rfl) (fun _ _ _ h => h) (Or.inl ⟨by rfl, ?_⟩) (by assumption) ?_
      rotate_left
      · intro w hSw
        try dsimp only at hSw
        go_simp
        try with_reducible rfl
      try simp only [Act.put]
      refine wpAnyH_take (i := 4) (v := ?_) rfl (by kernel_rfl) (by kernel_rfl) (by kernel_rfl) (fun _ _ _ h => h) (Or.inl ⟨by rfl, ?_⟩) (by assumption) ?_
      rotate_left
      · intro w hSw
        try dsimp only at hSw
        go_simp
        try with_reducible rfl
      try simp only [Act.put]
      refine wpAnyH_take (i := 5) (v := ?_) rfl (by kernel_rfl) (by kernel_rfl) (by kernel_rfl) (fun _ _ _ h => h) (Or.inl ⟨by rfl, ?_⟩) (by assumption) ?_
      rotate_left
      · intro w hSw
        try dsimp only at hSw
        go_simp
        try with_reducible rfl
      try simp only [Act.put]
      refine wpAnyH_take (i := 6) (v := ?_) rfl (by kernel_rfl) (by kernel_rfl) (by kernel_rfl) (fun _ _ _ h => h) (Or.inl ⟨by rfl, ?_⟩) (by assumption) ?_
      rotate_left
      · intro w hSw
        try dsimp only at hSw
        go_simp
        try with_reducible rfl
      try simp only [Act.put]
      refine wpAnyH_take (i := 7) (v := ?_) rfl (by kernel_rfl) (by kernel_rfl) (by kernel_rfl) (fun _ _ _ h => h) (Or.inl ⟨by rfl, ?_⟩) (by assumption) ?_
      rotate_left
      · intro w hSw
        try dsimp only at hSw
        go_simp
        try with_reducible rfl
      try simp only [Act.put]
      refine wpAnyH_take (i := 8) (v := ?_) rfl (by kernel_rfl) (by kernel_rfl) (by kernel_rfl) (fun _ _ _ h => h) (Or.inl ⟨by rfl, ?_⟩) (by assumption) ?_
      rotate_left
      · intro w hSw
        try dsimp only at hSw
        go_simp
        try with_reducible rfl
      try simp only [Act.put]
      refine wpAnyH_take (i := 9) (v := ?_) rfl (by kernel_rfl) (by kernel_rfl) (by kernel_rfl) (fun _ _ _ h => h) (Or.inl ⟨by rfl, ?_⟩) (by assumption) ?_
      rotate_left
      · intro w hSw
        try dsimp only at hSw
        go_simp
        try with_reducible rfl
      try simp only [Act.put]
      refine wpAnyH_take (i := 11) (v := ?_) rfl (by kernel_rfl) (by kernel_rfl) (by kernel_rfl) (fun _ _ _ h => h) (Or.inl ⟨by rfl, ?_⟩) (by assumption) ?_
      rotate_left
      · intro w hSw
        try dsimp only at hSw
        go_simp
        try with_reducible rfl
      try simp only [Act.put]
      refine wpAnyH_take (i := 12) (v := ?_) rfl (by kernel_rfl) (by kernel_rfl) (by kernel_rfl) (fun _ _ _ h => h) (Or.inl ⟨by rfl, ?_⟩) (by assumption) ?_
      rotate_left
      · intro w hSw
        try dsimp only at hSw
        go_simp
        try with_reducible rfl
      try simp only [Act.put]
      refine wpAnyH_take (i := 20) (v := ?_) rfl (by kernel_rfl) (by kernel_rfl) (by kernel_rfl) (fun _ _ _ h => h) (Or.inl ⟨by rfl, ?_⟩) (by assumption) ?_
      rotate_left
      · intro w hSw
        try dsimp only at hSw
        go_simp
        try with_reducible rfl
      try simp only [Act.put]
      refine wpAnyH_take (i := 21) (v := ?_) rfl (by kernel_rfl) (by kernel_rfl) (by kernel_rfl) (fun _ _ _ h => h) (Or.inl ⟨by rfl, ?_⟩) (by assumption) ?_
      rotate_left
      · intro w hSw
        try dsimp only at hSw
        go_simp
        try with_reducible rfl
      try simp only [Act.put]
      refine wpAnyH_ready (rs := [1]) (by kernel_rfl) (by simp) ?_
      refine AllReadyH.cons rfl (fun K hK => ?_) AllReadyH.nil
      go_simp
      refine (tells_use (by exact HN1.out) hch).mono ?_; rintro e wA ⟨rfl, hoA⟩; have hch := hch.trans_nil hoA; have hB := hB.off hoA (by simp); have hC := hC.off hoA (by simp)
      refine hK.out _ _ ?_ (fun hHeld => ?_)
      · exact ⟨hB.cell, hC.cell⟩
      clear hK K
      try simp only [Act.put, List.setIfInBounds_toArray, List.set_cons_zero, List.set_cons_succ]
      refine wpAnyH_ready (rs := [3]) (by kernel_rfl) (by simp) ?_
      refine AllReadyH.cons rfl (fun K hK => ?_) AllReadyH.nil
      go_simp
      refine (tells_use (by exact HN2.out) hch).mono ?_; rintro e wB ⟨rfl, hoB⟩; have hch := hch.trans_nil hoB; have hB := hB.off hoB (by simp); have hC := hC.off hoB (by simp)
      refine hK.out _ _ ?_ (fun hHeld => ?_)
      · exact ⟨hB.cell, hC.cell⟩
      clear hK K
      try simp only [Act.put, List.setIfInBounds_toArray, List.set_cons_zero, List.set_cons_succ]
      refine wpAnyH_ready (rs := [10]) (by kernel_rfl) (by simp) ?_
      refine AllReadyH.cons rfl (fun K hK => ?_) AllReadyH.nil
      go_simp
      refine (tells_use (by exact HGO.out) hch).mono ?_; rintro e wC ⟨rfl, hoC⟩; have hch := hch.trans_nil hoC; have hB := hB.off hoC (by simp); have hC := hC.off hoC (by simp)
      refine hK.out _ _ ?_ (fun hHeld => ?_)
      · exact ⟨hB.cell, hC.cell⟩
      clear hK K
      try simp only [Act.put, List.setIfInBounds_toArray, List.set_cons_zero, List.set_cons_succ]
      refine wpAnyH_ready (rs := [13]) (by kernel_rfl) (by simp) ?_
      refine AllReadyH.cons rfl (fun K hK => ?_) AllReadyH.nil
      go_simp
      refine (tells_use (by exact HDP.out) hch).mono ?_; rintro e wD ⟨rfl, hoD⟩; have hch := hch.trans_nil hoD; have hB := hB.off hoD (by simp); have hC := hC.off hoD (by simp)
      refine hK.out _ _ ?_ (fun hHeld => ?_)
      · exact ⟨hB.cell, hC.cell⟩
      clear hK K
      try simp only [Act.put, List.setIfInBounds_toArray, List.set_cons_zero, List.set_cons_succ]
      refine wpAnyH_take (i := 14) (v := ?_) rfl (by kernel_rfl) (by kernel_rfl) (by kernel_rfl) (fun _ _ _ h => h) (Or.inl ⟨by rfl, ?_⟩) (by assumption) ?_
      rotate_left
      · intro w hSw
        try dsimp only at hSw
        go_simp
        try with_reducible rfl
      try simp only [Act.put, List.setIfInBounds_toArray]
      refine wpAnyH_take (i := 15) (v := undef) rfl (by kernel_rfl) (by kernel_rfl) (by kernel_rfl) (fun _ _ _ h => h) (Or.inr ⟨by rfl, rfl⟩) (by assumption) ?_
      try simp only [Act.put]
      refine wpAnyH_take (i := 16) (v := undef) rfl (by kernel_rfl) (by kernel_rfl) (by kernel_rfl) (fun _ _ _ h => h) (Or.inr ⟨by rfl, rfl⟩) (by assumption) ?_
      try simp only [Act.put]
      refine wpAnyH_take (i := 17) (v := undef) rfl (by kernel_rfl) (by kernel_rfl) (by kernel_rfl) (fun _ _ _ h => h) (Or.inr ⟨by rfl, rfl⟩) (by assumption) ?_
      try simp only [Act.put]
      refine wpAnyH_take (i := 18) (v := ?_) rfl (by kernel_rfl) (by kernel_rfl) (by kernel_rfl) (fun _ _ _ h => h) (Or.inl ⟨by rfl, ?_⟩) (by assumption) ?_
      rotate_left
      · intro w hSw
        try dsimp only at hSw
        go_simp
        try with_reducible rfl
      try simp only [Act.put]
      refine wpAnyH_take (i := 19) (v := ?_) rfl (by kernel_rfl) (by kernel_rfl) (by kernel_rfl) (fun _ _ _ h => h) (Or.inl ⟨by rfl, ?_⟩) (by assumption) ?_
      rotate_left
      · intro w hSw
        try dsimp only at hSw
        go_simp
        try with_reducible rfl
      try simp only [Act.put]
      refine wpAnyH_ready (rs := [22]) (by kernel_rfl) (by simp) ?_
      refine AllReadyH.cons rfl (fun K hK => ?_) AllReadyH.nil
      go_simp
      refine (tells_use (by exact HPA.out) hch).mono ?_; rintro e wF ⟨rfl, hoF⟩; have hch := hch.trans_nil hoF; have hB := hB.off hoF (by simp); have hC := hC.off hoF (by simp)
      refine hK.out _ _ ?_ (fun hHeld => ?_)
      · exact ⟨hB.cell, hC.cell⟩
      clear hK K
      try simp only [Act.put, List.setIfInBounds_toArray, List.set_cons_zero, List.set_cons_succ]
      refine wpAnyH_ready (rs := [23]) (by kernel_rfl) (by simp) ?_
      refine AllReadyH.cons rfl (fun K hK => ?_) AllReadyH.nil
      go_simp
      refine hK.out _ _ ?_ (fun hHeld => ?_)
      · exact ⟨(hB.alloc _).cell, (hC.alloc _).cell⟩
      clear hK K
      try simp only [Act.put, List.setIfInBounds_toArray, List.set_cons_zero, List.set_cons_succ]
      refine wpAnyH_ready (rs := [24]) (by kernel_rfl) (by simp) ?_
      refine AllReadyH.cons rfl (fun K hK => ?_) AllReadyH.nil
      go_simp
      refine (dfirst_any _ 6 6 [x1, x2, (b, 2), x3, (true, 73), x5] _ (rsns_new _ [x1, x2, (b, 2), x3, (true, 73), x5] _ rfl) rfl (by omega)).mono ?_; rintro e wG ⟨rfl, hoG⟩; have hch := (hch.alloc _).trans_nil hoG; have hB := (hB.alloc _).off hoG (by simp); have hC := (hC.alloc _).off hoG (by simp)
      refine hK.out _ _ ?_ (fun hHeld => ?_)
      · exact ⟨hB.cell, hC.cell⟩
      clear hK K
      try simp only [Act.put, List.setIfInBounds_toArray, List.set_cons_zero, List.set_cons_succ]
      refine wpAnyH_ready (rs := [25]) (by kernel_rfl) (by simp) ?_
      refine AllReadyH.cons rfl (fun K hK => ?_) AllReadyH.nil
      go_simp
      refine hK.out _ _ ?_ (fun hHeld => ?_)
      · exact ⟨hB.cell, hC.cell⟩
      clear hK K
      try simp only [Act.put, List.setIfInBounds_toArray, List.set_cons_zero, List.set_cons_succ]
      refine wpAnyH_done (by kernel_rfl) ?_ _
      have hoe := (Off.refl [] w1).drew.trans_nil hch; clear hch hB hC
      go_wp2_with fail
      go_meet
      exact ⟨rfl, hoe⟩
    case rest =>
      obtain ⟨rfl, hox⟩ := hcut; have HOX := Lib.hid hox; have HD2 := Lib.hid (H1.out.off hox); obtain ⟨v, hv⟩ : ∃ v, firstE [x1, x2, (b, 2), x3, (dp || dq, 73), x5] = v := ⟨_, rfl⟩
      rw [hv] at HRP ⊢; have HV := Lib.hid hv; clear hox hv hbe
      by_cases hv0 : v = 0
      · subst hv0
        have HF := Lib.hid (show D.edited.replace path q = (0, E.change (delN (putN E.names q (lookN E.names path)) path)) by rw [HS2.out, HRP.out]; simp); have HOK := Lib.hid (show Ok (E.change (delN (putN E.names q (lookN E.names path)) path)) (n + 1 + 1) from by
          have h3 := PDisk.replace__ok H1.out.ok path q; rw [HRP.out] at h3
          simpa using h3)
        have HTN := Lib.hid (fun (W1 : World) (hW1 : DiskM W1 p { G1 with nb := wc.heap.size } E) (ho1 : Off [p] wc W1) =>
          show Calls Tryz.prog 86 (#[.map (some wc.heap.size)] ++ #[.pointer (some ⟨w.heap.size, 0, none⟩), .pointer (some ⟨w.heap.size + 1, 0, none⟩)]) W1 (TurnP p wc.heap.size G1 { E with names := delN (putN E.names q (lookN E.names path)) path } W1) from
          repc_any p wc.heap.size w.heap.size (w.heap.size + 1) G1 E path q W1 hW1 (fun h => Nat.lt_irrefl _ (HD2.out.m.parts.lt (List.mem_cons_of_mem _ h))) (by have := HD2.out.ok.nlen; omega) (HD2.out.ok.look (by omega) path) (by unfold maxLen; omega) (by unfold maxLen; omega)
            ((HBP1.out.off HOX.out (by simp)).off ho1 (by have := H.out.m.blk.lt; simp; omega)) ((HBQ1.out.off HOX.out (by simp)).off ho1 (by have := H.out.m.blk.lt; simp; omega)))
        have HCH := Lib.hid (dchange_any p G1 E { E with names := delN (putN E.names q (lookN E.names path)) path } 86 #[.pointer (some ⟨w.heap.size, 0, none⟩), .pointer (some ⟨w.heap.size + 1, 0, none⟩)] wc HD2.out.m HD2.out.sb (by have := HD2.out.ok.llen; show E.later.length ≤ _; omega) REPEN HTN.out); clear HRP
        go_wp2_with fail
        refine HCH.out.mono ?_
        rintro e w7 ⟨rfl, hT⟩; have HT7 := Lib.hid hT; clear hT
        go_wp2_with fail
        go_ret
        rw [HF.out]; exact ⟨rfl, DSETo.step (HOP.out.1.trans_nil HOX.out) HOP.out.2 (HD2.out.changed HT7.out HOK.out)⟩
      have HF := Lib.hid (show D.edited.replace path q = (v, E) by rw [HS2.out, HRP.out, if_pos hv0]); have hne : (v == 0) = false := beq_eq_false_iff_ne.2 hv0
      clear hv0 HRP
      go_wp2_with fail
      go_ret
      rw [HF.out]; exact ⟨rfl, DSETo.step (HOP.out.1.trans_nil HOX.out) HOP.out.2 (HD2.out.refl.le (by omega))⟩
  have HS2 := Lib.hid (show D.edited.replace path q = (er, E) by rw [HS.out, if_pos h0]); have hne : (er == 0) = false := beq_eq_false_iff_ne.2 h0
  clear h0
  go_wp2_with fail
  go_ret
  rw [HS2.out]; obtain ⟨G1, h1, ho1, hp1⟩ := HT.out; refine ⟨rfl, DSETo.step (G1 := G1) ((HOF.out.mono (fun _ _ h => by simp at h)).trans ho1 (fun _ _ h => h)) (fun b hb => ?_) (h1.refl.le (by omega))⟩
  rcases hp1 b hb with h | h
  · exact .inl h
  exact .inr (Nat.le_trans HOF.out.size h)
end
section
open Go.RowKit Go.Op Go.Maps
def insP (path x : ByteArray) : Bool := !decide (x = path) && within (str x) (str path)
def PDisk.inside (D : PDisk) (path : ByteArray) : Bool := D.names.any fun x => insP path x.1
def PDisk.remove_ (D : PDisk) (p : ByteArray) : Int × PDisk :=
  let e := firstE [PDisk.no p, D.gone p, (D.inside p, 72)]
  if e ≠ 0 then (e, D) else (0, D.change (delN D.names p))
def PDisk.remove (D : PDisk) (p : ByteArray) : Int × PDisk := D.call ⟨#[82, 101, 109, 111, 118, 101]⟩ p ⟨#[]⟩ fun E _ => E.remove_ p
theorem PDisk.remove__ok {D : PDisk} {n : Nat} (h : Ok D n) (p : ByteArray) : Ok (D.remove_ p).2 (n + 1) := by
  unfold PDisk.remove_; dsimp only
  split
  · exact PDisk.ok_mono h (Nat.le_succ n)
  refine PDisk.change_ok h h.names.del ?_
  have h1 := length_delN_le D.names p; have h3 := h.nlen; omega
theorem PDisk.remove_ok {D : PDisk} {n : Nat} (h : Ok D n) (p : ByteArray) : Ok (D.remove p).2 (n + 2) := PDisk.call_ok h _ _ _ _ fun _ _ h => PDisk.remove__ok h _
set_option maxRecDepth 100000 in
set_option maxHeartbeats 8000000 in
theorem remc_any (p m gp : Nat) (G : Geo) (D : PDisk) (path : ByteArray) (W : World) (hM : DiskM W p { G with nb := m } D) (hm : m ∉ G.rest) (hs : path.size ≤ maxLen) (hbp : Blk W gp 9 #[.string path]) :
    Calls Tryz.prog 81 #[.map (some m), .pointer (some ⟨gp, 0, none⟩)] W (TurnP p m G { D with names := delN D.names path } W) := by
  obtain ⟨w2, h2, hN2, hg2⟩ := hM.parts.names.rem path hs 0; have HM := Lib.hid hM; have HMM := Lib.hid hm; have HN2 := Lib.hid hN2; have HG := Lib.hid hg2; have hcp := hbp.cell; have hlp := hbp.lt; clear hM hm hN2 hg2 hbp hs
  go_enter Tryz.func81, Tryz.ntmps81
  go_wp2_with fail
  refine bodyPost_end (results_none rfl _ _ _) rfl ?_
  exact turn_names HM.out HMM.out HN2.out ((Off.refl [m] W).grown HG.out (fun k hk => by cases hk; exact .inr (by simp)))
theorem REMEN : ∀ args w, (callFunc 81 args).run Tryz.prog w = .ok (.enter 81 args) w := enters_of Tryz.func81 (by kernel_rfl) rfl
theorem name_came {Dm : DataW Unit} {l : NameL} {x : ByteArray} {kl : Lit} {yd : DataW Unit} (hr : ∀ p, has Dm (strL p) = hasN l p) (hk : keyOf Tryz.prog 9 (.string x) = some kl) (hat : ∀ zd, Dm.atKey kl zd = yd) : kl = strL x ∧ hasN l x = true := by
  obtain ⟨z, hz, hkl, _⟩ := Maps.keyOf_str Tryz.underlying9 hk; have hxz : x = ⟨z.toArray⟩ := by
    unfold encStr at hz; injection hz
  have hkx : kl = strL x := by rw [hkl, hxz]; simp [strL]
  refine ⟨hkx, ?_⟩
  rw [← hr, ← hkx]; exact has_true_of_atKey hat
theorem name_shape {key : Value} {kl : Lit} (h : keyOf Tryz.prog 9 key = some kl) : ∃ x : ByteArray, key = Value.string x := by
  obtain ⟨z, rfl, -, -⟩ := Maps.keyOf_str Tryz.underlying9 h; exact ⟨_, rfl⟩
theorem num_shape {v : Value} {y : DataW Unit × List MemPlace} (h : plainElem Tryz.prog 3 v = some y) : ∃ c : Int, v = Value.int .i64 c := by
  obtain ⟨c, rfl, -⟩ := plainElem_int_inv Tryz.underlying3 h; exact ⟨c, rfl⟩
def AskI (l : NameL) (P : ByteArray → Bool) (left : Lit → Bool) (b : Bool) : Prop :=
  (b = true → l.any (fun x => P x.1) = true) ∧ ∀ x ∈ l, left (strL x.1) = false → P x.1 = true → b = true
theorem AskI.start {l : NameL} {P : ByteArray → Bool} {left : Lit → Bool} (h : ∀ x ∈ l, left (strL x.1) = true) : AskI l P left false := ⟨(fun h => by cases h), (fun x hx h1 => by rw [h x hx] at h1; cases h1)⟩
theorem AskI.done {l : NameL} {P : ByteArray → Bool} {left : Lit → Bool} {b : Bool} (h : AskI l P left b) (hl : ∀ z, left z = false) : b = l.any fun x => P x.1 := by
  cases hb : l.any (fun x => P x.1)
  · cases b
    · rfl
    rw [h.1 rfl] at hb; cases hb
  obtain ⟨x, hx, hP⟩ := List.any_eq_true.1 hb; exact h.2 x hx (hl _) hP
theorem AskI.next {l : NameL} {P : ByteArray → Bool} {left : Lit → Bool} {b c : Bool} {x : ByteArray} (h : AskI l P left b) (hx : hasN l x = true) (hc : c = (b || P x)) : AskI l P (fun z => left z && !z.sameKey (strL x)) c := by
  subst hc; refine ⟨fun h1 => ?_, fun y hy h1 h2 => ?_⟩
  · rw [Bool.or_eq_true] at h1
    rcases h1 with h1 | h1
    · exact h.1 h1
    obtain ⟨y, hy, rfl⟩ := (hasN_iff l x).1 hx; exact List.any_eq_true.2 ⟨y, hy, h1⟩
  rw [Bool.or_eq_true]
  by_cases e : y.1 = x
  · right; rw [← e]; exact h2
  left
  refine h.2 y hy ?_ h2
  have h1 : (left (strL y.1) && !(strL y.1).sameKey (strL x)) = false := h1
  rw [sameKey_ne (fun e' => e (strL_inj e'))] at h1
  simpa using h1
set_option maxRecDepth 100000 in
set_option maxHeartbeats 16000000 in
theorem dremove_callE (p n : Nat) (G : Geo) (D : PDisk) (path : ByteArray) (w : World) (h : DSE w p G D n) (hE : EditsOk D n) (hn : n ≤ 50000000) (hs : path.size ≤ 9223372036854775807) :
    Calls Tryz.prog 34 #[.pointer (some ⟨p, 0, none⟩), .string path] w fun e w' => e = .returned (.int .i64 (D.edited.remove path).1) ∧ DSETo w p G.parts w' (D.edited.remove path).2 (n + 2) := by
  have H := Lib.hid h; have HST := Lib.hid (fun (W : World) (ho : Off [] w W) => dstep_oneE p n G D ⟨#[82, 101, 109, 111, 118, 101]⟩ path W (h.off ho) hE hn); have HS := Lib.hid (show D.edited.remove path = match D.edited.step ⟨#[82, 101, 109, 111, 118, 101]⟩ path ⟨#[]⟩ with | (full, e, E) => if e ≠ 0 then (e, E) else E.remove_ path from rfl); clear h
  generalize D.edited.step ⟨#[82, 101, 109, 111, 118, 101]⟩ path ⟨#[]⟩ = st at HST HS
  obtain ⟨full, er, E⟩ := st; have HS := Lib.hid (show D.edited.remove path = if er ≠ 0 then (er, E) else E.remove_ path from HS.out)
  go_enter Tryz.func34, Tryz.ntmps34
  go_upto_region 1 with fail
  refine code_gen (fun W => Blk W w.heap.size 9 #[.string path] ∧ Off [] w W ∧ w.heap.size < W.heap.size) ⟨Blk.new w _ _, (Off.refl _ _).alloc _, by simp⟩ ?_
  rintro W ⟨hbp, hof, hsz⟩; have HBP := Lib.hid hbp; have HOF := Lib.hid hof; have HSZ := Lib.hid hsz; have hcp := hbp.cell; clear hbp hof hsz
  go_wp2_with fail
  refine (HST.out W HOF.out).mono ?_
  rintro e w1 ⟨rfl, hT⟩; have HT := Lib.hid hT; clear hT HST hcp
  by_cases h0 : er = 0
  · subst h0
    have HS2 := Lib.hid (show D.edited.remove path = E.remove_ path by rw [HS.out]; simp); obtain ⟨G1, h1, ho1, hp1⟩ := HT.out; have hbp1 := HBP.out.off ho1 (fun hm => by
      rcases List.mem_cons.1 hm with h | hm
      · have := H.out.m.blk.lt; omega
      have := H.out.m.parts.lt hm; omega)
    have HBP1 := Lib.hid hbp1; have HOP := Lib.hid (And.intro (show Off (p :: G.parts) w w1 from (HOF.out.mono (fun _ _ h => by simp at h)).trans ho1 (fun _ _ h => h)) (show ∀ b ∈ G1.parts, b ∈ G.parts ∨ w.heap.size ≤ b from fun b hb => by
      rcases hp1 b hb with h | h
      · exact .inl h
      exact .inr (Nat.le_trans HOF.out.size h)))
    have H1 := Lib.hid h1; obtain ⟨ha, Dm, hDm, hsz, hr⟩ := h1.m.parts.names; have HR := Lib.hid hr; have HA := Lib.hid ha; have hc := h1.m.blk.cell; unfold diskCells at hc; obtain ⟨nl, hnl⟩ : ∃ nl, E.names.length = nl := ⟨_, rfl⟩
    rw [hnl] at hDm; clear HS h1 ho1 hp1 hbp1 ha hr hsz hnl
    go_wp2_with (at_range; refine wpList_range_own _ rfl _ 111 rfl 9 3 strK Tryz.underlying111 (plainElem Tryz.prog 3) G1.nb nl Dm rfl hDm ?_; intro w3 hrg hg3 hs3)
    have HG3 := Lib.hid hg3; have HS3 := Lib.hid hs3; have hst : Hid (AskI E.names (insP path) (has Dm) false) := Lib.hid (AskI.start (fun x hx => by rw [(HR.out x.1).1]; exact (hasN_iff _ _).2 ⟨x, hx, rfl⟩))
    clear hg3 hs3 hc hDm
    go_frame
    go_loopw [7] (fun s wr => ∃ left cnt b, s = .bool b ∧ wr.ranges Tryz.prog 9 (plainElem Tryz.prog 3) G1.nb w1.heap.size nl Dm left cnt ∧ Off [w1.heap.size] w3 wr ∧ Hid (AskI E.names (insP path) left b)) (fun _ wr => wr.rangeLeft G1.nb w1.heap.size)
    case atStart => exact ⟨_, _, _, rfl, hrg, Off.refl _ _, hst⟩
    case round =>
      clear hst hrg; obtain ⟨left, cnt, b, rfl, hrel, ho, HI⟩ := hrel; have HO3 := Lib.hid ho; have HO13 := Lib.hid (show Off [] w1 wr from ((Off.refl [] w1).grown HG3.out (fun k hk => by cases hk)).trans ho (fun x hx hm => by simp at hm; omega)); clear ho
      go_wp2_with (at_next; refine wpList_next_ranges _ rfl _ rfl 9 strK (plainElem Tryz.prog 3) Value.string (Value.int .i64) (fun _ _ h => name_shape h) (fun _ _ h => num_shape h) G1.nb w1.heap.size nl Dm _ _ rfl hrel ?_ ?_)
      · intro hc0 hl0
        have HBI := Lib.hid (HI.out.done hl0); clear hl0 hc0 hrel HI; have hbe : b = E.inside path := HBI.out
        obtain ⟨x1, hx1⟩ : ∃ x, PDisk.no path = x := ⟨_, rfl⟩
        obtain ⟨x2, hx2⟩ : ∃ x, E.gone path = x := ⟨_, rfl⟩
        have HDR := Lib.hid (H1.out.off HO13.out); have hdr : ∀ W, Off [] wr.drew W → Off [] wr W := fun W ho => (Off.refl [] wr).drew.trans_nil ho
        have HN1 := Lib.hid (show Tells 74 #[.string path] wr.drew (.agg #[.bool x1.1, .int .i64 x1.2]) from ⟨fun W ho => by
          have := dno_any path W (HDR.out.tabs.off (hdr W ho)); rw [hx1] at this; exact this⟩)
        have HGO := Lib.hid (show Tells 79 #[.pointer (some ⟨p, 0, none⟩), .string path] wr.drew (.agg #[.bool x2.1, .int .i64 x2.2]) from ⟨fun W ho => by
          have := dgone_any p G1 E path W (HDR.out.m.off (hdr W ho) (by simp) (by simp)) (by unfold maxLen; omega) (HDR.out.ok.look (by omega) path); rw [hx2] at this; exact this⟩)
        have HBR := Lib.hid (HBP1.out.off HO13.out (by simp)); have HRM := Lib.hid (show E.remove_ path = if firstE [x1, x2, (b, 72)] ≠ 0 then (firstE [x1, x2, (b, 72)], E) else (0, E.change (delN E.names path)) by
          unfold PDisk.remove_; rw [hx1, hx2, hbe])
        clear hx1 hx2 hdr hbe
        go_wp2_with fail
        go_cut [9] from 40 to 48 (fun s wx => s = .int .i64 (firstE [x1, x2, (b, 72)]) ∧ Off [] wr wx)
        case first =>
          have hch := Off.refl [] wr.drew; have hB := HBR.out.drew
          go_region_held3 (fun w' => ∀ i, w'.cell? ⟨w.heap.size, i, none⟩ = (#[.string path] : Array Value)[i]?) (first | assumption | exact hB.cell | exact (hB.alloc _).cell) (first
            | (go_at_call 74; refine (tells_use (by exact HN1.out) hch).mono ?_; rintro e wA ⟨rfl, hoA⟩; have hch := hch.trans_nil hoA; have hB := hB.off hoA (by simp))
            | (go_at_call 79; refine (tells_use (by exact HGO.out) hch).mono ?_; rintro e wC ⟨rfl, hoC⟩; have hch := hch.trans_nil hoC; have hB := hB.off hoC (by simp))
            | (go_at_call 77; refine (dfirst_any _ 3 3 [x1, x2, (b, 72)] _ (rsns_new _ [x1, x2, (b, 72)] _ rfl) rfl (by omega)).mono ?_; rintro e wG ⟨rfl, hoG⟩; have hch := (hch.alloc _).trans_nil hoG; have hB := (hB.alloc _).off hoG (by simp)))
          have hoe := (Off.refl [] wr).drew.trans_nil hch; clear hch hB
          go_wp2_with fail
          go_meet
          exact ⟨rfl, hoe⟩
        case rest =>
          obtain ⟨rfl, hox⟩ := hcut; have HOX := Lib.hid (HO13.out.trans_nil hox); have HD2 := Lib.hid (HDR.out.off hox); obtain ⟨v, hv⟩ : ∃ v, firstE [x1, x2, (b, 72)] = v := ⟨_, rfl⟩
          rw [hv] at HRM ⊢; have HV := Lib.hid hv; have HBX := Lib.hid (HBR.out.off hox (by simp)); clear hox hv
          by_cases hv0 : v = 0
          · subst hv0
            have HF := Lib.hid (show D.edited.remove path = (0, E.change (delN E.names path)) by rw [HS2.out, HRM.out]; simp); have HOK := Lib.hid (show Ok (E.change (delN E.names path)) (n + 1 + 1) from by
              have h3 := PDisk.remove__ok H1.out.ok path; rw [HRM.out] at h3
              simpa using h3)
            have HTN := Lib.hid (fun (W1 : World) (hW1 : DiskM W1 p { G1 with nb := wc.heap.size } E) (ho1 : Off [p] wc W1) =>
              show Calls Tryz.prog 81 (#[.map (some wc.heap.size)] ++ #[.pointer (some ⟨w.heap.size, 0, none⟩)]) W1 (TurnP p wc.heap.size G1 { E with names := delN E.names path } W1) from
              remc_any p wc.heap.size w.heap.size G1 E path W1 hW1 (fun h => Nat.lt_irrefl _ (HD2.out.m.parts.lt (List.mem_cons_of_mem _ h))) (by unfold maxLen; omega) (HBX.out.off ho1 (by have := H.out.m.blk.lt; simp; omega)))
            have HCH := Lib.hid (dchange_any p G1 E { E with names := delN E.names path } 81 #[.pointer (some ⟨w.heap.size, 0, none⟩)] wc HD2.out.m HD2.out.sb (by have := HD2.out.ok.llen; show E.later.length ≤ _; omega) REMEN HTN.out); clear HRM
            go_wp2_with fail
            refine HCH.out.mono ?_
            rintro e w7 ⟨rfl, hT⟩; have HT7 := Lib.hid hT; clear hT
            go_wp2_with fail
            go_ret
            rw [HF.out]; exact ⟨rfl, DSETo.step (HOP.out.1.trans_nil HOX.out) HOP.out.2 (HD2.out.changed HT7.out HOK.out)⟩
          have HF := Lib.hid (show D.edited.remove path = (v, E) by rw [HS2.out, HRM.out, if_pos hv0]); have hne : (v == 0) = false := beq_eq_false_iff_ne.2 hv0
          clear hv0 HRM
          go_wp2_with fail
          go_ret
          rw [HF.out]; exact ⟨rfl, DSETo.step (HOP.out.1.trans_nil HOX.out) HOP.out.2 (HD2.out.refl.le (by omega))⟩
      intro x c kl yd yp w4 cnt1 hkey hlk hy hat hrg1 hlt1 hg1 hs1 hen
      obtain ⟨rfl, hhas⟩ := name_came (fun p => (HR.out p).1) hkey hat; have ho4 : Off [w1.heap.size] w3 w4 := HO3.out.grown hg1 (fun k hk => by cases hk; exact .inr (by simp))
      have ho14 : Off [] w1 w4 := HO13.out.grown hg1 (fun k hk => by cases hk; exact .inl (Nat.le_refl _))
      have HLE := Lib.hid (show w4.rangeLeft G1.nb w1.heap.size < wr.rangeLeft G1.nb w1.heap.size by rw [hrg1.left_eq, hrel.left_eq]; exact hlt1); have HRG := Lib.hid hrg1; have HO4 := Lib.hid ho4; have HO14 := Lib.hid ho14; have hcp := (HBP1.out.off ho14 (by simp)).cell; have hlp := (HBP1.out.off ho14 (by simp)).lt; have HHAS := Lib.hid hhas
      have HWI := Lib.hid (nwithin_any x path w4 ((H1.out.off ho14).tabs.tabs)); clear hkey hlk hy hat hrg1 hlt1 hg1 hs1 hrel ho4 ho14 hhas
      change (Instr.entry (.pointer (some ⟨w1.heap.size, 0, none⟩))).run Tryz.prog w4 = .ok (.tuple #[.string x, .int .i64 c]) w4 at hen
      have FIN := Lib.hid (show ∀ (w5 : World) (b2 : Bool), Off [] w4 w5 → b2 = (b || insP path x) → (∃ left cnt b', Value.bool b2 = .bool b' ∧ w5.ranges Tryz.prog 9 (plainElem Tryz.prog 3) G1.nb w1.heap.size nl Dm left cnt ∧ Off [w1.heap.size] w3 w5 ∧ Hid (AskI E.names (insP path) left b')) ∧ w5.rangeLeft G1.nb w1.heap.size < wr.rangeLeft G1.nb w1.heap.size from fun w5 b2 ho5 hb2 => by
        have hg5 : w4.grownBy w5 none := ⟨ho5.os, ho5.tape, ho5.output, ho5.size, fun i hi _ => ho5.block i hi (by simp)⟩
        have hr5 := HRG.out.kept hg5 (by simp) (by simp); refine ⟨⟨_, _, b2, rfl, hr5, HO4.out.trans_nil ho5, Lib.hid (HI.out.next HHAS.out hb2)⟩, ?_⟩; have := HLE.out; rw [HRG.out.left_eq] at this; rw [hr5.left_eq]; exact this)
      cases b
      · by_cases hxp : x = path
        · have hxe : (x.toList == path.toList) = true := by rw [hxp]; simp
          have HP := Lib.hid (show false = (false || insP path x) by unfold insP; rw [decide_eq_true hxp]; rfl); clear hxp
          go_wp2_with fail
          exact FIN.out _ _ (Off.refl _ _) HP.out
        have hxe : (x.toList == path.toList) = false := by
          rw [toList_str, toList_str]; exact beq_eq_false_iff_ne.2 (fun e => hxp (str_inj e))
        obtain ⟨v, hv⟩ : ∃ v, within (str x) (str path) = v := ⟨_, rfl⟩
        have HP := Lib.hid (show v = (false || insP path x) by unfold insP; rw [decide_eq_false hxp, hv]; simp); rw [hv] at HWI; clear hxp hv
        go_wp2_with fail
        refine HWI.out.mono ?_
        rintro e w5 ⟨rfl, ho5⟩
        go_wp2_with fail
        exact FIN.out _ _ ho5 HP.out
      go_wp2_with fail
      exact FIN.out _ _ (Off.refl _ _) (by simp)
  have HS2 := Lib.hid (show D.edited.remove path = (er, E) by rw [HS.out, if_pos h0]); have hne : (er == 0) = false := beq_eq_false_iff_ne.2 h0
  clear h0
  go_wp2_with fail
  go_ret
  rw [HS2.out]; obtain ⟨G1, h1, ho1, hp1⟩ := HT.out; refine ⟨rfl, DSETo.step (G1 := G1) ((HOF.out.mono (fun _ _ h => by simp at h)).trans ho1 (fun _ _ h => h)) (fun b hb => ?_) (h1.refl.le (by omega))⟩
  rcases hp1 b hb with h | h
  · exact .inl h
  exact .inr (Nat.le_trans HOF.out.size h)
end
section
open Go.RowKit Go.Op Go.Maps
def PDisk.mkdir_ (D : PDisk) (full : Bool) (p : ByteArray) : Int × PDisk := D.lay p ⟨⟨#[]⟩, 2, ⟨#[]⟩, 0⟩ full [PDisk.no p, D.parentE p, D.there p]
def PDisk.mkdir (D : PDisk) (p : ByteArray) : Int × PDisk := D.call ⟨#[77, 107, 100, 105, 114]⟩ p ⟨#[]⟩ fun E full => E.mkdir_ full p
theorem PDisk.mkdir__ok {D : PDisk} {n : Nat} (h : Ok D n) (full : Bool) (p : ByteArray) : Ok (D.mkdir_ full p).2 (n + 1) :=
  PDisk.lay_ok h _ _ _ _ (by intro x hx; simp only [List.mem_cons, List.not_mem_nil, or_false] at hx; rcases hx with rfl | rfl | rfl <;> simp [PDisk.no, PDisk.parentE, PDisk.there]) (by simp)
set_option maxRecDepth 100000 in
set_option maxHeartbeats 16000000 in
theorem dmkdir_callE (p n : Nat) (G : Geo) (D : PDisk) (path : ByteArray) (w : World) (h : DSE w p G D n) (hE : EditsOk D n) (hn : n ≤ 50000000) (hs : path.size ≤ 9223372036854775807) :
    Calls Tryz.prog 141 #[.pointer (some ⟨p, 0, none⟩), .string path] w fun e w' => e = .returned (.int .i64 (D.edited.mkdir path).1) ∧ DSETo w p G.parts w' (D.edited.mkdir path).2 (n + 2) := by
  have HST := Lib.hid (dstep_oneE p n G D ⟨#[77, 107, 100, 105, 114]⟩ path w h hE hn); have HS := Lib.hid (show D.edited.mkdir path = match D.edited.step ⟨#[77, 107, 100, 105, 114]⟩ path ⟨#[]⟩ with | (full, e, E) => if e ≠ 0 then (e, E) else E.mkdir_ full path from rfl); clear h; generalize D.edited.step ⟨#[77, 107, 100, 105, 114]⟩ path ⟨#[]⟩ = st at HST HS; obtain ⟨full, er, E⟩ := st
  have HS := Lib.hid (show D.edited.mkdir path = if er ≠ 0 then (er, E) else E.mkdir_ full path from HS.out)
  go_enter Tryz.func141, Tryz.ntmps141
  go_wp2_with fail
  refine HST.out.mono ?_
  rintro e w1 ⟨rfl, hT⟩; have HT := Lib.hid hT; clear hT HST
  by_cases h0 : er = 0
  · subst h0
    have HS2 := Lib.hid (show D.edited.mkdir path = E.mkdir_ full path by rw [HS.out]; simp); obtain ⟨G1, h1, ho1, hp1⟩ := HT.out; have HOP := Lib.hid (And.intro ho1 hp1); have H1 := Lib.hid h1; obtain ⟨x1, hx1⟩ : ∃ x, PDisk.no path = x := ⟨_, rfl⟩
    obtain ⟨x2, hx2⟩ : ∃ x, E.parentE path = x := ⟨_, rfl⟩
    obtain ⟨x3, hx3⟩ : ∃ x, E.there path = x := ⟨_, rfl⟩
    have HNO := Lib.hid (dno_any path w1 h1.tabs.tabs); have HPA := Lib.hid (fun (W : World) (ho : Off [] w1 W) => dparent_big p G1 E path W (h1.m.off ho (by simp) (by simp)) hs (fun x => h1.ok.look (by omega) x) (h1.tabs.off ho))
    have HTH := Lib.hid (fun (W : World) (ho : Off [] w1 W) => dthere_any p G1 E path W (h1.m.off ho (by simp) (by simp)) (by unfold maxLen; omega) (h1.ok.look (by omega) path)); have HX := Lib.hid (show E.mkdir_ full path = E.lay path ⟨⟨#[]⟩, 2, ⟨#[]⟩, 0⟩ full [x1, x2, x3] by unfold PDisk.mkdir_; rw [hx1, hx2, hx3]); rw [hx1] at HNO; rw [hx2] at HPA; rw [hx3] at HTH; unfold rsn at HNO HPA HTH
    clear HS hx1 hx2 hx3 h1 ho1 hp1
    go_wp2_with fail
    refine HNO.out.mono ?_
    rintro e wa ⟨rfl, hoa⟩; have HOA := Lib.hid hoa; clear hoa HNO
    go_wp2_with fail
    refine (HPA.out _ HOA.out).mono ?_
    rintro e wb ⟨rfl, hob⟩; have HOB := Lib.hid (HOA.out.trans_nil hob); clear hob HPA HOA
    go_wp2_with fail
    refine (HTH.out _ HOB.out).mono ?_
    rintro e wc ⟨rfl, hoc⟩; have HOC := Lib.hid (HOB.out.trans_nil hoc); have HOD := Lib.hid ((HOB.out.trans_nil hoc).alloc (.cells (rsnCells [x1, x2, x3]).toArray 156)); have HD := Lib.hid (H1.out.off HOD.out); clear hoc HTH HOB
    go_wp2_with fail
    refine (dlay_any p wc.heap.size 3 G1 E path ⟨⟨#[]⟩, 2, ⟨#[]⟩, 0⟩ full [x1, x2, x3] _ HD.out.m HD.out.sb (rsns_blk wc [x1, x2, x3] _ rfl) rfl (by omega) (by have := HD.out.ok.inos; omega) (by have := HD.out.ok.nlen; omega) (by have := HD.out.ok.llen; omega) (by unfold maxLen; omega)).mono ?_
    rintro e w5 ⟨rfl, hL⟩; have HL := Lib.hid hL; clear hL
    go_wp2_with fail
    go_ret
    rw [HS2.out, HX.out]; refine ⟨rfl, DSETo.step (HOP.out.1.trans_nil HOD.out) HOP.out.2 (HD.out.to (Off.refl _ _) HL.out ?_)⟩; rw [← HX.out]; exact PDisk.mkdir__ok HD.out.ok _ _
  have HS2 := Lib.hid (show D.edited.mkdir path = (er, E) by rw [HS.out, if_pos h0]); have hne : (er == 0) = false := beq_eq_false_iff_ne.2 h0
  clear h0
  go_wp2_with fail
  go_ret
  rw [HS2.out]; exact ⟨rfl, HT.out.le (by omega)⟩
end
section
open Go.RowKit Go.Op Go.Maps
def linkBad (q : ByteArray) : Bool := decide (q = ⟨#[]⟩) || decide (400 < q.size) || (str q).contains 0
def PDisk.link_ (D : PDisk) (full : Bool) (p q : ByteArray) : Int × PDisk := D.lay p ⟨⟨#[]⟩, 3, q, 0⟩ full [PDisk.no p, (linkBad q, 2), D.parentE p, D.there p]
def PDisk.link (D : PDisk) (p q : ByteArray) : Int × PDisk := D.call ⟨#[76, 105, 110, 107]⟩ p q fun E full => E.link_ full p q
end
section
open Go.RowKit Go.Op Go.Maps
def PDisk.namesOn (D : PDisk) (p : ByteArray) : List ByteArray × Int :=
  let e := if p = ⟨#[]⟩ then 0 else firstE [PDisk.no p, D.gone p]
  if e ≠ 0 then ([], e) else if D.dir p then (namesR D.tree (str p), 0) else ([], 73)
def PDisk.namesC (D : PDisk) (p : ByteArray) : (List ByteArray × Int) × PDisk :=
  match D.step ⟨#[78, 97, 109, 101, 115]⟩ p ⟨#[]⟩ with
  | (_, e, E) => if e ≠ 0 then (([], e), E) else (E.namesOn p, E)
end
section
open Go.RowKit Go.Op Go.Maps
def mvP (p q x : ByteArray) : ByteArray := q ++ x.extract p.size x.size
def mvN (p q : ByteArray) (x : ByteArray × Nat) : ByteArray × Nat := if within (str x.1) (str p) then (mvP p q x.1, x.2) else x
def Free (p q : ByteArray) (l : NameL) : Prop := ∀ x ∈ l, within (str x.1) (str p) = true → hasN l (mvP p q x.1) = false
theorem mvP_inj {p q x y : ByteArray} (hp : okPath (str p) = true) (hx : within (str x) (str p) = true) (hy : within (str y) (str p) = true) (h : mvP p q x = mvP p q y) : x = y := by
  have key : ∀ z : ByteArray, within (str z) (str p) = true → str z = str p ++ str (z.extract p.size z.size) := fun z hz => by
    have hzk : okPath (str z) = true := by
      unfold within at hz; simp only [Bool.and_eq_true] at hz; exact hz.1
    have e : str (z.extract p.size z.size) = (str z).drop (str p).length := by
      rw [str_extract, str_size, ← str_size z]; exact List.take_of_length_le (by rw [List.length_drop]; exact Nat.le_refl _)
    rw [e]
    rcases (within_iff hzk hp).1 hz with h | ⟨s, h⟩
    · rw [h]; simp
    rw [h]; simp
  apply str_inj
  rw [key x hx, key y hy]; have h2 : str q ++ str (x.extract p.size x.size) = str q ++ str (y.extract p.size y.size) := by
    rw [← str_append, ← str_append]; exact congrArg str h
  rw [List.append_cancel_left h2]
end
section
open Go.RowKit Go.Op Go.Maps
end
section
open Go.RowKit Go.Op Go.Maps
def badP (p q x : ByteArray) : Bool := within (str x) (str p) && !okPath (str (mvP p q x))
def PDisk.badMv (D : PDisk) (p q : ByteArray) : Bool := D.names.any fun x => badP p q x.1
def PDisk.mvE (D : PDisk) (p q : ByteArray) : List (Bool × Int) := [PDisk.no p, PDisk.no q, (within (str q) (str p), 2), D.gone p, D.there q, D.parentE q]
def PDisk.move_ (D : PDisk) (p q : ByteArray) : Int × PDisk :=
  let e := firstE (D.mvE p q)
  if e ≠ 0 then (e, D) else if D.badMv p q then (11, D) else (0, D.change (D.names.map (mvN p q)))
def PDisk.move (D : PDisk) (p q : ByteArray) : Int × PDisk := D.call ⟨#[77, 111, 118, 101]⟩ p q fun E _ => E.move_ p q
end
section
open Go.RowKit Go.Op Go.Maps
def nmOf : List Node → Nat → NameL
  | [], _ => []
  | n :: t, i => (n.path, i + 1) :: nmOf t (i + 1)
theorem nmOf_append : ∀ (a b : List Node) (i : Nat), nmOf (a ++ b) i = nmOf a i ++ nmOf b (i + a.length)
  | [], b, i => by simp [nmOf]
  | n :: a, b, i => by
    rw [List.cons_append, nmOf, nmOf, nmOf_append a b (i + 1), List.cons_append, List.length_cons, show i + 1 + a.length = i + (a.length + 1) by omega]
theorem nmOf_has : ∀ (a : List Node) (i : Nat) (p : ByteArray), hasN (nmOf a i) p = true ↔ ∃ n ∈ a, n.path = p
  | [], i, p => by simp [nmOf, hasN]
  | n :: a, i, p => by simp [nmOf, hasN, nmOf_has a (i + 1) p]
theorem nmOf_len : ∀ (a : List Node) (i : Nat), (nmOf a i).length = a.length
  | [], _ => rfl
  | n :: a, i => by simp [nmOf, nmOf_len a (i + 1)]
def newD' (t : List Node) : PDisk := ⟨nmOf t 0, [], [], t.map fun n => ⟨n, 0, false⟩, false, 0, [], [], [], .slice none 0 0⟩
def newD (t : List Node) : PDisk := { newD' t with safe := nmOf t 0 }
theorem newD_step {t : List Node} (hs : Sorted t) {i : Nat} (hi : i < t.length) :
    { ((newD' (t.take i)).make t[i] 0 false) with names := putN (newD' (t.take i)).names t[i].path ((newD' (t.take i)).inos.length + 1) } = newD' (t.take (i + 1)) := by
  have ht : t.take (i + 1) = t.take i ++ [t[i]] := by rw [List.take_add_one, List.getElem?_eq_getElem hi]; rfl
  have hno : hasN (nmOf (t.take i) 0) t[i].path = false := by
    cases hh : hasN (nmOf (t.take i) 0) t[i].path
    · rfl
    obtain ⟨n, hn, e⟩ := (nmOf_has _ _ _).1 hh; obtain ⟨j, hj, rfl⟩ := List.getElem_of_mem hn; have hji : j < i := by rw [List.length_take] at hj; omega
    have h1 := List.pairwise_iff_getElem.1 hs j i (by omega) hi hji; rw [List.getElem_take] at e; have h2 : t[j].p = t[i].p := by show str _ = str _; rw [e]
    rw [h2, order_self] at h1; omega
  unfold newD' PDisk.make; dsimp only; rw [ht, nmOf_append, List.map_append]; unfold putN; rw [if_neg (by rw [hno]; decide)]; have hl : (t.take i).length = i := by rw [List.length_take]; omega
  simp [nmOf]
theorem newD_zero {w : World} {gd nb ib : Nat} (hB : Blk w gd 115 #[.map (some nb), .map none, .slice none 0 0, .map (some ib), .int .i64 1, .bool false, .int .i64 0, .slice none 0 0, .slice none 0 0, .slice none 0 0])
    (hN : w.ownsMap Tryz.prog 9 (plainElem Tryz.prog 3) nb 0 (.map [] : DataW Unit)) (hI : w.ownsMap Tryz.prog 3 ptrElem ib 0 (.map [] : DataW Unit)) (hne : ib ≠ nb) :
    DiskM w gd ⟨nb, none, ib, .slice none 0 0, .slice none 0 0, .slice none 0 0, [], [], []⟩ (newD' []) where
  blk := hB
  parts := {
    names := ⟨List.Pairwise.nil, _, hN, rfl, fun p => ⟨rfl, rfl⟩⟩
    safe := rfl
    later := World.ownsRow_nil w 0 _ 1
    lbl := rfl
    laters := fun i b l h1 _ => by simp at h1
    ino := ⟨_, hI, rfl, fun k q h => by simp at h, fun i _ => rfl⟩
    qsl := rfl
    inos := fun i q n h1 _ => by simp at h1
    nodup := List.nodup_nil
    trace := World.ownsRow_nil w 0 _ 3
    fates := ⟨⟨none, 0, rfl, Nat.le_refl _, fun h => absurd rfl h⟩, EditsAt.nil w _⟩
    fbl := fun g hg => by cases hg
    apart := ⟨hne, by simp, by simp⟩ }
def NewMid (w : World) (gd nb : Nat) (D : PDisk) (wr : World) : Prop :=
  ∃ G, DiskM wr gd G D ∧ G.nb = nb ∧ nb ∉ G.rest ∧ G.sb = none ∧ (∀ b ∈ G.parts, w.heap.size ≤ b) ∧ Off [] w wr
theorem NewMid.turned {w wr wU : World} {gd nb : Nat} {D D1 : PDisk} {G : Geo} {e : Ending} (h1 : DiskM wr gd G D) (hnb : G.nb = nb) (h4 : G.sb = none) (h5 : ∀ b ∈ G.parts, w.heap.size ≤ b) (h6 : Off [] w wr) (hgd : w.heap.size ≤ gd) (ht : TurnP gd nb G D1 wr e wU) : NewMid w gd nb D1 wU := by
  obtain ⟨-, G', a1, a2, a3, a4, a5, a6⟩ := ht; refine ⟨G', a3, a1, a4, a2.trans h4, fun b hb => ?_, h6.trans a5 (fun x hx hm => ?_)⟩
  · rcases List.mem_cons.1 hb with rfl | hb
    · rw [a1, ← hnb]; exact h5 _ (List.mem_cons_self ..)
    rcases a6 b hb with h | h
    · exact h5 b (List.mem_cons_of_mem _ h)
    exact Nat.le_trans h6.size h
  exfalso
  rcases List.mem_cons.1 hm with rfl | hm
  · omega
  rcases List.mem_cons.1 hm with rfl | hm
  · have := h5 G.nb (List.mem_cons_self ..); omega
  have := h5 x (List.mem_cons_of_mem _ hm); omega
set_option maxRecDepth 100000 in
set_option maxHeartbeats 8000000 in
theorem dnew_ok (fp : Option Addr) (t : List Node) (n c : Nat) (w : World) (hR : Row w fp t) (hn : t.length = n) (hc : n ≤ c) (hok : okTree t = true) (hF : Fits t) (hT : Tabs w) :
    Calls Tryz.prog 12 #[.slice fp n c] w fun e w' => ∃ gd G, e = .returned (.tuple #[.pointer (some ⟨gd, 0, none⟩), .int .i64 0]) ∧ DiskM w' gd G (newD t) ∧ w.heap.size ≤ gd ∧ (∀ b ∈ G.parts, w.heap.size ≤ b) ∧ G.sb.isSome = true ∧ Off [] w w' := by
  have hbig : n ≤ 1000 := by rw [← hn]; exact okTree_len hok
  have HCK := Lib.hid (check_any fp t n c w hR hn hc (by unfold maxLen; omega) hF hT); have hck : chkV t = 0 := by unfold chkV; rw [hok]; rfl
  rw [hck] at HCK; have HR := Lib.hid hR; have HN := Lib.hid hn; have HS := Lib.hid (okTree_sorted hok); have HSM := Lib.hid (fun (x : Node) (hx : x ∈ t) => okTree_small hok hx); clear hR hn hok hF hT hck
  go_enter Tryz.func12, Tryz.ntmps12
  go_wp2_with fail
  refine HCK.out.mono ?_
  rintro e w1 ⟨rfl, ho1⟩; have HO1 := Lib.hid ho1; clear HCK ho1
  go_wp2_with fail
  rw [run_makeMap]; simp only [Result.andThen]; rw [Oper.upon_value]
  go_wp2_with fail
  rw [run_makeMap]; simp only [Result.andThen]; rw [Oper.upon_value]
  go_upto_region 4 with fail
  obtain ⟨gd, hgd⟩ : ∃ gd, w1.heap.size + 1 + 1 = gd := ⟨_, rfl⟩
  obtain ⟨nb, hnb⟩ : ∃ nb, w1.heap.size = nb := ⟨_, rfl⟩
  have hm0 : NewMid w gd nb (newD' []) (((w1.alloc (Obj.map #[] 0)).alloc (Obj.map #[] 0)).alloc (.cells #[.map (some w1.heap.size), .map none, .slice none 0 0, .map (some (w1.heap.size + 1)), .int .i64 1, .bool false, .int .i64 0, .slice none 0 0, .slice none 0 0, .slice none 0 0] 115)) := by
    have hsz := HO1.out.size; refine ⟨⟨w1.heap.size, none, w1.heap.size + 1, .slice none 0 0, .slice none 0 0, .slice none 0 0, [], [], []⟩, newD_zero ?_ ?_ ?_ (by omega), hnb, ?_, rfl, ?_, (((HO1.out.alloc _).alloc _).alloc _)⟩
    · rw [← hgd]; exact Blk.new2 w1 _ _ _ _
    · exact ownsMap_off (World.ownsMap_made w1 Tryz.prog _ _) ((((Off.refl [] _).alloc _)).alloc _) (by simp)
    · have := ownsMap_off (World.ownsMap_made (w1.alloc (Obj.map #[] 0)) Tryz.prog 3 ptrElem (H := Unit)) ((Off.refl [] _).alloc (.cells #[.map (some w1.heap.size), .map none, .slice none 0 0, .map (some (w1.heap.size + 1)), .int .i64 1, .bool false, .int .i64 0, .slice none 0 0, .slice none 0 0, .slice none 0 0] 115)) (by simp)
      simpa using this
    · rw [← hnb]
      intro h
      simp [Geo.rest, Value.ownBlock] at h
    intro b hb
    simp [Geo.parts, Geo.rest, Value.ownBlock] at hb
    omega
  have hgn : w.heap.size ≤ gd := by have := HO1.out.size; omega
  refine code_gen (fun W => NewMid w gd nb (newD' []) W) hm0 ?_
  rw [hgd, hnb]; have HGN := Lib.hid hgn; clear hm0 hgd hnb hgn; rintro W0 hm0
  go_wp2_with fail
  go_loopw [16] (fun x wr => ∃ i : Nat, x = .int .i64 i ∧ i ≤ n ∧ NewMid w gd nb (newD' (t.take i)) wr) (fun x _ => n - (intOf x).toNat)
  case atStart => exact ⟨0, rfl, by omega, by rw [List.take_zero]; exact hm0⟩
  case round =>
    clear hm0; obtain ⟨i, rfl, hi, hmid⟩ := hrel; have HMID := Lib.hid hmid; obtain ⟨G, hM, hnb, hnr, hsb, hpl, hof⟩ := hmid
    by_cases hlt : i < n
    · have hil : i < t.length := by rw [HN.out]; exact hlt
      obtain ⟨a, rfl, hna, hab⟩ := (HR.out.off hof).get i hil; have HSTEP := Lib.hid (newD_step HS.out hil); have hps := HSM.out _ (List.getElem_mem hil); generalize t[i] = x at *; obtain ⟨D, hD⟩ : ∃ D, newD' (t.take i) = D := ⟨_, rfl⟩
      have HIL := Lib.hid (show D.inos.length ≤ 1000 from by rw [← hD]; simp [newD']; omega); have HNL := Lib.hid (show D.names.length ≤ 1000 from by rw [← hD]; simp [newD', nmOf_len]; omega); rw [hD] at hM HSTEP; have c0 := hna.path; have c1 := hna.kind; have c2 := hna.data; have c3 := hna.mode; have hilt : (i : Int) < n := by omega
      have HM := Lib.hid hM; have HX := Lib.hid (show G.nb = nb ∧ nb ∉ G.rest ∧ G.sb = none ∧ (∀ b ∈ G.parts, w.heap.size ≤ b) ∧ Off [] w wr from ⟨hnb, hnr, hsb, hpl, hof⟩); have HPS := Lib.hid hps; clear hM hnb hnr hsb hpl hof hna hil hD hps
      go_upto_region 7 with fail
      refine code_gen (fun W => Blk W wr.heap.size 30 #[.string x.path, .int .i64 x.kind, .string x.data, .int .i64 x.mode] ∧ Off [] wr W) ⟨Blk.new wr _ _, (Off.refl _ _).alloc _⟩ ?_
      rintro W ⟨hbn, hoW⟩; have HBN := Lib.hid hbn.drew; have HOW := Lib.hid hoW; have HMW := Lib.hid ((HM.out.off hoW (by simp) (by simp)).drew); have hS : (∀ i, W.drew.cell? ⟨wr.heap.size, i, none⟩ = (#[.string x.path, .int .i64 x.kind, .string x.data, .int .i64 x.mode] : Array Value)[i]?) ∧ W.drew.cell? ⟨gd, 0, none⟩ = some (.map (some nb)) :=
        ⟨hbn.drew.cell, by have := HMW.out.blk.cell 0; rw [show (diskCells G D)[0]? = some (.map (some G.nb)) from rfl, HX.out.1] at this; exact this⟩
      have KEEP := Lib.hid (show ∀ (wA wU : World) (q : Nat), DiskM wA gd { G with qs := G.qs ++ [q] } (D.make x 0 false) → Off [gd, G.ib] W.drew wA → wA.grownBy wU (some G.nb) →
          ((∀ i, wA.cell? ⟨wr.heap.size, i, none⟩ = (#[.string x.path, .int .i64 x.kind, .string x.data, .int .i64 x.mode] : Array Value)[i]?) ∧ wA.cell? ⟨gd, 0, none⟩ = some (.map (some nb))) ∧
          (∀ i, wU.cell? ⟨wr.heap.size, i, none⟩ = (#[.string x.path, .int .i64 x.kind, .string x.data, .int .i64 x.mode] : Array Value)[i]?) ∧ wU.cell? ⟨gd, 0, none⟩ = some (.map (some nb)) from
        fun wA wU q hMA hoA hgU => by
          have hib := HMW.out.parts.ino.isMap; have hmb := HMW.out.parts.names.isMap; have h1 := HBN.out.off hoA (fun h => by
            simp at h
            rcases h with h | h
            · exact HBN.out.ne_ HMW.out.blk (by decide) h
            exact hib.ne HBN.out h.symm)
          have h3 : some wr.heap.size ≠ some G.nb := fun e => hmb.ne HBN.out (by injection e with e; exact e.symm)
          have h4 : some gd ≠ some G.nb := fun e => hmb.ne HMW.out.blk (by injection e with e; exact e.symm)
          have h5 := hMA.blk.grown hgU h4; refine ⟨⟨h1.cell, ?_⟩, (h1.grown hgU h3).cell, ?_⟩
          · have := hMA.blk.cell 0
            rw [show (diskCells { G with qs := G.qs ++ [q] } (D.make x 0 false))[0]? = some (.map (some G.nb)) from rfl, HX.out.1] at this; exact this
          have := h5.cell 0; rw [show (diskCells { G with qs := G.qs ++ [q] } (D.make x 0 false))[0]? = some (.map (some G.nb)) from rfl, HX.out.1] at this; exact this)
      clear c0 c1 c2 c3 hbn hoW hab
      go_region_held3 (fun w' => (∀ i, w'.cell? ⟨wr.heap.size, i, none⟩ = (#[.string x.path, .int .i64 x.kind, .string x.data, .int .i64 x.mode] : Array Value)[i]?) ∧ w'.cell? ⟨gd, 0, none⟩ = some (.map (some nb))) (first | assumption) ((go_at_call 51; refine (dmake_any gd G D x 0 false _ HMW.out (by have := HIL.out; omega)).mono ?_; rintro e wA ⟨rfl, q, hMA, hoA, hq⟩; obtain ⟨wU, hrunU, hNU, hgU⟩ := hMA.parts.names.add (by show D.names.length ≤ _; have := HNL.out; omega) x.path (by have := HPS.out; unfold maxLen; omega) (D.inos.length + 1) (D.inos.length + 1) (by simp) (by have := HIL.out; omega); obtain ⟨hSA, hSU⟩ := KEEP.out wA wU q hMA hoA hgU; rw [show ({ G with qs := G.qs ++ [q] } : Geo).nb = nb from HX.out.1] at hrunU))
      have HEND := Lib.hid (show NewMid w gd nb (newD' (t.take (i + 1))) wU from by
        rw [← HSTEP.out]; have hMG : DiskM W.drew gd { G with nb := G.nb } D := HMW.out
        have htp := turn_end (path := x.path) (m := G.nb) hMG (by rw [HX.out.1]; exact HX.out.2.1) hMA hoA hq (by rw [show (D.make x 0 false).names = D.names from rfl] at hNU; exact hNU) hgU; rw [HX.out.1] at htp; exact NewMid.turned HMW.out HX.out.1 HX.out.2.2.1 HX.out.2.2.2.1 ((HX.out.2.2.2.2.trans_nil HOW.out).drew) HGN.out htp)
      clear hSA hSU hS hMA hoA hq hNU hgU hrunU
      go_wp2_with fail
      exact ⟨⟨i + 1, by congr 1, by omega, HEND.out⟩, by simp only [intOf]; omega⟩
    obtain rfl : i = n := by omega
    have ht : t.take i = t := List.take_of_length_le (by rw [HN.out]; exact Nat.le_refl _)
    rw [ht] at hM; have HCL := Lib.hid (mclone_any G.nb (nmOf t 0) wr hM.parts.names); have hc0 := hM.blk.cell; unfold diskCells at hc0; have HM := Lib.hid hM; have HX := Lib.hid (show G.nb = nb ∧ nb ∉ G.rest ∧ G.sb = none ∧ (∀ b ∈ G.parts, w.heap.size ≤ b) ∧ Off [] w wr from ⟨hnb, hnr, hsb, hpl, hof⟩); clear hM hnb hnr hsb hpl hof ht
    go_wp2_with fail
    refine HCL.out.mono ?_
    rintro e w3 ⟨rfl, hN3, ho3⟩; have hM3 := HM.out.off ho3 (by simp) (by simp); have HM3 := Lib.hid hM3; have HN3 := Lib.hid hN3; have HO3 := Lib.hid ho3; have hc3 := hM3.blk.cell; have hf3 := hM3.blk.frozen; have hl3 := hM3.blk.lt; unfold diskCells at hc3; clear hc0 hM3 hN3 ho3
    go_wp2_with fail
    go_ret2
    have hwg : wr.heap.size ∉ G.parts := fun h => Nat.lt_irrefl _ (HM.out.parts.lt h)
    refine ⟨gd, { G with sb := some wr.heap.size }, rfl, ⟨?_, ?_⟩, HGN.out, ?_, rfl, ?_⟩
    · have := HM3.out.blk.set_ 1 (.map (some wr.heap.size))
      unfold diskCells at this ⊢
      simpa [newD] using this
    · have hS : Off [gd] w3 (w3.setCell ⟨gd, 1, none⟩ (.map (some wr.heap.size))) := (Off.refl [gd] w3).setCell (.inr (by simp)) _
      have hPP := HM3.out.parts.off (k := [gd]) hS (fun b hb h => by simp at h; subst h; exact HM3.out.far hb); exact {
        names := hPP.names
        safe := HN3.out.off hS (by have := HM.out.blk.lt; simp; omega)
        later := hPP.later
        lbl := hPP.lbl
        laters := hPP.laters
        ino := hPP.ino
        qsl := hPP.qsl
        inos := hPP.inos
        nodup := hPP.nodup
        trace := hPP.trace
        fates := hPP.fates
        fbl := hPP.fbl
        apart := ⟨hPP.apart.1, fun e => hwg (by injection e with e; rw [e]; exact List.mem_cons_of_mem _ (mem_rest.2 (.inr (.inl rfl)))), hPP.apart.2.2⟩ }
    · intro b hb
      rcases List.mem_cons.1 hb with rfl | hb
      · exact HX.out.2.2.2.1 _ (List.mem_cons_self ..)
      rcases mem_rest.1 hb with h | h
      · simp at h; subst h; exact HX.out.2.2.2.2.size
      exact HX.out.2.2.2.1 b (List.mem_cons_of_mem _ (mem_rest.2 (.inr h)))
    exact (HX.out.2.2.2.2.trans_nil HO3.out).setCell (.inl HGN.out) _
end
end Go.Proofs.YtoicjadioiomkaaGreatDoor
