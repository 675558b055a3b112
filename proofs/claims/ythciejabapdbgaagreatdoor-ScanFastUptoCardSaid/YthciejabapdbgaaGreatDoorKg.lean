/- Texts of this claim, one behind the other: DWrite DRep DRem DMk DLk DNm MvLaw MvC DMv DNew. Conditions: what each lemma states. -/
import Derived.Test.YthciejabapdbgaaGreatDoorKf
import Derived.Test.YthciejabapdbgaaGreatDoorKd
import Derived.Carry
set_option linter.unusedVariables false
set_option linter.unusedSimpArgs false
namespace Go.Proofs.YthciejabapdbgaaGreatDoor
section
open Go.RowKit Go.Op Go.Maps
theorem put6 {w : World} {q : Nat} {c0 c1 c2 c3 c4 c5 a b c d x y : Value} (hq : Blk w q 159 #[c0, c1, c2, c3, c4, c5]) :
    Blk ((((((w.setCell ⟨q, 0, none⟩ a).setCell ⟨q, 1, none⟩ b).setCell ⟨q, 2, none⟩ c).setCell ⟨q, 3, none⟩ d).setCell ⟨q, 4, none⟩ x).setCell ⟨q, 5, none⟩ y) q 159 #[a, b, c, d, x, y] ∧
    Off [q] w ((((((w.setCell ⟨q, 0, none⟩ a).setCell ⟨q, 1, none⟩ b).setCell ⟨q, 2, none⟩ c).setCell ⟨q, 3, none⟩ d).setCell ⟨q, 4, none⟩ x).setCell ⟨q, 5, none⟩ y) := by
  refine ⟨?_, ?_⟩
  · have := (((((hq.set_ 0 a).set_ 1 b).set_ 2 c).set_ 3 d).set_ 4 x).set_ 5 y
    simpa using this
  exact ((((((Off.refl [q] w).setCell (.inr (by simp)) _).setCell (.inr (by simp)) _).setCell (.inr (by simp)) _).setCell (.inr (by simp)) _).setCell (.inr (by simp)) _).setCell (.inr (by simp)) _
theorem rsns_blk (w : World) (l : List (Bool × Int)) (cs : Array Value) (h : (rsnCells l).toArray = cs) : Rsns (w.alloc (.cells cs 164)) w.heap.size l := by
  subst h; exact Blk.new w 164 _
set_option maxRecDepth 100000 in
set_option maxHeartbeats 16000000 in
theorem dwrite_callE (p n : Nat) (G : Geo) (D : PDisk) (path data : ByteArray) (mode : Int) (w : World) (h : DSE w p G D n) (hE : EditsOk D n) (hn : n ≤ 50000000) (hs : path.size ≤ 9223372036854775807) :
    Calls Tryz.prog 29 #[.pointer (some ⟨p, 0, none⟩), .string path, .string data, .int .i64 mode] w fun e w' => e = .returned (.int .i64 (D.edited.write path data mode).1) ∧ DSETo w p G.parts w' (D.edited.write path data mode).2 (n + 2) := by
  obtain ⟨i0, hi0, hz0, hz1, hz2⟩ := info_parts infoRsn; have HST := Lib.hid (dstep_oneE p n G D ⟨#[87, 114, 105, 116, 101]⟩ path w h hE hn); have HS := Lib.hid (show D.edited.write path data mode = match D.edited.step ⟨#[87, 114, 105, 116, 101]⟩ path ⟨#[]⟩ with | (full, e, E) => if e ≠ 0 then (e, E) else E.write_ full path data mode from rfl); clear h
  generalize D.edited.step ⟨#[87, 114, 105, 116, 101]⟩ path ⟨#[]⟩ = st at HST HS
  obtain ⟨full, er, E⟩ := st; have HS := Lib.hid (show D.edited.write path data mode = if er ≠ 0 then (er, E) else E.write_ full path data mode from HS.out)
  go_enter Tryz.func29, Tryz.ntmps29
  go_wp2_with fail
  refine HST.out.mono ?_
  rintro e w1 ⟨rfl, hT⟩; have HT := Lib.hid hT; clear hT HST
  by_cases h0 : er = 0
  · subst h0
    have HS2 := Lib.hid (show D.edited.write path data mode = E.write_ full path data mode by rw [HS.out]; simp); obtain ⟨G1, h1, ho1, hp1⟩ := HT.out; have HOP := Lib.hid (And.intro ho1 hp1); obtain ⟨x1, hx1⟩ : ∃ x, PDisk.no path = x := ⟨_, rfl⟩
    obtain ⟨x3, hx3⟩ : ∃ x, E.parentE path = x := ⟨_, rfl⟩
    obtain ⟨b2, hb2⟩ : ∃ b, (decide (65536 < data.size) || decide (mode < 0) || decide (511 < mode)) = b := ⟨_, rfl⟩
    have HX := Lib.hid (And.intro hx1 hx3); have HB2 := Lib.hid hb2; have HNO := Lib.hid (fun (W : World) (ho : Off [] w1 W) => dno_any path W (h1.tabs.off ho)); have HPA := Lib.hid (fun (W : World) (ho : Off [] w1 W) => dparent_big p G1 E path W (h1.m.off ho (by simp) (by simp)) hs (fun x => h1.ok.look (by omega) x) (h1.tabs.off ho)); have H1 := Lib.hid h1; rw [hx1] at HNO; rw [hx3] at HPA
    unfold rsn at HNO HPA; clear HS hx1 hx3 hb2 h1 ho1 hp1
    go_upto_region 5 with fail
    refine code_gen (fun W => Blk W w1.heap.size 105 #[.string ⟨#[]⟩, .int .i64 1, .string data, .int .i64 mode] ∧ Off [] w1 W) ⟨Blk.new w1 _ _, (Off.refl _ _).alloc _⟩ ?_
    rintro W ⟨hbn, hof⟩; have HBN := Lib.hid hbn; have HOF := Lib.hid hof; have HW := H1.out.off hof; have HDW := Lib.hid HW
    cases ha : E.at_ path with
    | none =>
      have HAT := Lib.hid (dat_none p G1 E path W HW.m (by unfold maxLen; omega) (HW.ok.look (by omega) path) ha); have HWR := Lib.hid (show D.edited.write path data mode = E.lay path ⟨⟨#[]⟩, 1, data, mode⟩ full [x1, (b2, 2), x3, (false, 73)] by
        rw [HS2.out]; unfold PDisk.write_; rw [ha, HX.out.1, HX.out.2, HB2.out])
      clear hbn hof HW ha
      go_wp2_with fail
      refine HAT.out.mono ?_
      rintro e w2 ⟨rfl, ho2⟩; have HO2 := Lib.hid (HOF.out.trans_nil ho2); have HOW := Lib.hid ho2; clear ho2 HAT
      go_upto_region 6 with fail
      go_cut [13] from 31 to 59 (fun s wx => ∃ g, s = .slice (some ⟨g, 0, none⟩) 4 4 ∧ Rsns wx g [x1, (b2, 2), x3, (false, 73)] ∧ Off [] w2 wx)
      case first =>
        by_cases hA : 65536 < data.size
        · have hA1 : (65536 : Int) < data.size := by omega
          have hb2 : b2 = true := by rw [← HB2.out]; simp [hA]
          subst hb2; clear HB2 hA
          go_wp2_with fail
          refine (HNO.out _ HO2.out).mono ?_
          rintro e wa ⟨rfl, hoa⟩
          go_wp2_with fail
          refine (HPA.out _ (HO2.out.trans_nil hoa)).mono ?_
          rintro e wb ⟨rfl, hob⟩; have hab := (hoa.trans_nil hob).alloc (.cells (rsnCells [x1, (true, 2), x3, (false, 73)]).toArray 164); clear hoa hob
          go_wp2_with fail
          go_meet
          exact ⟨wb.heap.size, rfl, rsns_blk wb [x1, (true, 2), x3, (false, 73)] _ rfl, hab⟩
        have hA1 : ¬ (65536 : Int) < data.size := by omega
        by_cases hB : mode < 0
        · have hB1 := hB
          have hb2 : b2 = true := by rw [← HB2.out]; simp [hA, hB]
          subst hb2; clear HB2 hA hB
          go_wp2_with fail
          refine (HNO.out _ HO2.out).mono ?_
          rintro e wa ⟨rfl, hoa⟩
          go_wp2_with fail
          refine (HPA.out _ (HO2.out.trans_nil hoa)).mono ?_
          rintro e wb ⟨rfl, hob⟩; have hab := (hoa.trans_nil hob).alloc (.cells (rsnCells [x1, (true, 2), x3, (false, 73)]).toArray 164); clear hoa hob
          go_wp2_with fail
          go_meet
          exact ⟨wb.heap.size, rfl, rsns_blk wb [x1, (true, 2), x3, (false, 73)] _ rfl, hab⟩
        have hB1 := hB
        by_cases hC : 511 < mode
        · have hC1 := hC
          have hb2 : b2 = true := by rw [← HB2.out]; simp [hA, hB, hC]
          subst hb2; clear HB2 hA hB hC
          go_wp2_with fail
          refine (HNO.out _ HO2.out).mono ?_
          rintro e wa ⟨rfl, hoa⟩
          go_wp2_with fail
          refine (HPA.out _ (HO2.out.trans_nil hoa)).mono ?_
          rintro e wb ⟨rfl, hob⟩; have hab := (hoa.trans_nil hob).alloc (.cells (rsnCells [x1, (true, 2), x3, (false, 73)]).toArray 164); clear hoa hob
          go_wp2_with fail
          go_meet
          exact ⟨wb.heap.size, rfl, rsns_blk wb [x1, (true, 2), x3, (false, 73)] _ rfl, hab⟩
        have hC1 := hC; have hb2 : b2 = false := by rw [← HB2.out]; simp [hA, hB, hC]
        subst hb2; clear HB2 hA hB hC
        go_wp2_with fail
        refine (HNO.out _ HO2.out).mono ?_
        rintro e wa ⟨rfl, hoa⟩
        go_wp2_with fail
        refine (HPA.out _ (HO2.out.trans_nil hoa)).mono ?_
        rintro e wb ⟨rfl, hob⟩; have hab := (hoa.trans_nil hob).alloc (.cells (rsnCells [x1, (false, 2), x3, (false, 73)]).toArray 164); clear hoa hob
        go_wp2_with fail
        go_meet
        rw [show (decide ((65536 : Int) < data.size) || decide (mode < 0) || decide (511 < mode)) = false from by simp only [Bool.or_eq_false_iff, decide_eq_false_iff_not]; omega]; exact ⟨wb.heap.size, rfl, rsns_blk wb [x1, (false, 2), x3, (false, 73)] _ rfl, hab⟩
      case rest =>
        obtain ⟨g, rfl, hR, hox⟩ := hcut; have HR := Lib.hid hR; have HX2 := Lib.hid (HO2.out.trans_nil hox); have hbn := (HBN.out.off HOW.out (by simp)).off hox (by simp); have hcn := hbn.cell; have hln := hbn.lt; have HD2 := Lib.hid (H1.out.off HX2.out); clear hR hox hbn
        go_wp2_with fail
        refine (dlay_any p g 4 G1 E path ⟨⟨#[]⟩, 1, data, mode⟩ full [x1, (b2, 2), x3, (false, 73)] wc HD2.out.m HD2.out.sb HR.out rfl (by omega) (by have := HD2.out.ok.inos; omega) (by have := HD2.out.ok.nlen; omega) (by have := HD2.out.ok.llen; omega) (by unfold maxLen; omega)).mono ?_
        rintro e w5 ⟨rfl, hL⟩; have HL := Lib.hid hL; clear hL hcn hln
        go_wp2_with fail
        go_ret
        rw [HWR.out]; refine ⟨rfl, DSETo.step (HOP.out.1.trans_nil HX2.out) HOP.out.2 (HD2.out.to (Off.refl _ _) HL.out ?_)⟩; rw [← HX.out.1, ← HX.out.2]; exact PDisk.lay_ok HD2.out.ok path _ full _ (by intro x hx; simp only [List.mem_cons, List.not_mem_nil, or_false] at hx; rcases hx with rfl | rfl | rfl | rfl <;> simp [PDisk.no, PDisk.parentE]) (by simp)
    | some m =>
      obtain ⟨q, hq1, hq2, -, hq3, -⟩ := at_some HW.m ha; have HAT := Lib.hid (dat_some p G1 E path W HW.m (by unfold maxLen; omega) (HW.ok.look (by omega) path) q hq1); have HQ3 := Lib.hid hq3; have hb4 : (!decide (m.node.kind = 1)) = (m.node.kind != 1) := by
        by_cases hk : m.node.kind = 1
        · rw [hk]; rfl
        rw [decide_eq_false hk, bne_iff_ne.2 hk]; rfl
      have HWR := Lib.hid (show D.edited.write path data mode = if firstE [x1, (b2, 2), x3, (m.node.kind != 1, 73), (full, 71)] ≠ 0 then (firstE [x1, (b2, 2), x3, (m.node.kind != 1, 73), (full, 71)], E) else (0, { E with inos := E.inos.set (lookN E.names path - 1) ⟨⟨⟨#[]⟩, 1, data, mode⟩, E.clock, true⟩ }) by
        rw [HS2.out]; unfold PDisk.write_; rw [ha, HX.out.1, HX.out.2, HB2.out]; dsimp only; rw [hb4]
        rfl)
      have HQW := Lib.hid hq2; clear hbn hof HW ha hq1 hq2 hq3 hb4
      go_wp2_with fail
      refine HAT.out.mono ?_
      rintro e w2 ⟨rfl, ho2⟩; have HO2 := Lib.hid (HOF.out.trans_nil ho2); have HOW := Lib.hid ho2; have HQ := Lib.hid (HQW.out.off ho2 (by simp)); clear ho2 HAT
      go_upto_region 6 with fail
      go_cut [13] from 31 to 59 (fun s wx => ∃ g, s = .slice (some ⟨g, 0, none⟩) 4 4 ∧ Rsns wx g [x1, (b2, 2), x3, (m.node.kind != 1, 73)] ∧ Off [] w2 wx)
      case first =>
        by_cases hA : 65536 < data.size
        · have hA1 : (65536 : Int) < data.size := by omega
          have hb2 : b2 = true := by rw [← HB2.out]; simp [hA]
          subst hb2; clear HB2 hA
          go_wp2_with fail
          refine (HNO.out _ HO2.out).mono ?_
          rintro e wa ⟨rfl, hoa⟩
          go_wp2_with fail
          refine (HPA.out _ (HO2.out.trans_nil hoa)).mono ?_
          rintro e wb ⟨rfl, hob⟩; have hbq := (HQ.out.off hoa (by simp)).off hob (by simp); have hcq := hbq.cell; have hlq := hbq.lt; unfold inoCells at hcq; clear hbq; have hab := (hoa.trans_nil hob).alloc (.cells (rsnCells [x1, (true, 2), x3, (m.node.kind != 1, 73)]).toArray 164); clear hoa hob
          go_wp2_with fail
          go_meet
          exact ⟨wb.heap.size, rfl, rsns_blk wb [x1, (true, 2), x3, (m.node.kind != 1, 73)] _ rfl, hab⟩
        have hA1 : ¬ (65536 : Int) < data.size := by omega
        by_cases hB : mode < 0
        · have hB1 := hB
          have hb2 : b2 = true := by rw [← HB2.out]; simp [hA, hB]
          subst hb2; clear HB2 hA hB
          go_wp2_with fail
          refine (HNO.out _ HO2.out).mono ?_
          rintro e wa ⟨rfl, hoa⟩
          go_wp2_with fail
          refine (HPA.out _ (HO2.out.trans_nil hoa)).mono ?_
          rintro e wb ⟨rfl, hob⟩; have hbq := (HQ.out.off hoa (by simp)).off hob (by simp); have hcq := hbq.cell; have hlq := hbq.lt; unfold inoCells at hcq; clear hbq; have hab := (hoa.trans_nil hob).alloc (.cells (rsnCells [x1, (true, 2), x3, (m.node.kind != 1, 73)]).toArray 164); clear hoa hob
          go_wp2_with fail
          go_meet
          exact ⟨wb.heap.size, rfl, rsns_blk wb [x1, (true, 2), x3, (m.node.kind != 1, 73)] _ rfl, hab⟩
        have hB1 := hB
        by_cases hC : 511 < mode
        · have hC1 := hC
          have hb2 : b2 = true := by rw [← HB2.out]; simp [hA, hB, hC]
          subst hb2; clear HB2 hA hB hC
          go_wp2_with fail
          refine (HNO.out _ HO2.out).mono ?_
          rintro e wa ⟨rfl, hoa⟩
          go_wp2_with fail
          refine (HPA.out _ (HO2.out.trans_nil hoa)).mono ?_
          rintro e wb ⟨rfl, hob⟩; have hbq := (HQ.out.off hoa (by simp)).off hob (by simp); have hcq := hbq.cell; have hlq := hbq.lt; unfold inoCells at hcq; clear hbq; have hab := (hoa.trans_nil hob).alloc (.cells (rsnCells [x1, (true, 2), x3, (m.node.kind != 1, 73)]).toArray 164); clear hoa hob
          go_wp2_with fail
          go_meet
          exact ⟨wb.heap.size, rfl, rsns_blk wb [x1, (true, 2), x3, (m.node.kind != 1, 73)] _ rfl, hab⟩
        have hC1 := hC; have hb2 : b2 = false := by rw [← HB2.out]; simp [hA, hB, hC]
        subst hb2; clear HB2 hA hB hC
        go_wp2_with fail
        refine (HNO.out _ HO2.out).mono ?_
        rintro e wa ⟨rfl, hoa⟩
        go_wp2_with fail
        refine (HPA.out _ (HO2.out.trans_nil hoa)).mono ?_
        rintro e wb ⟨rfl, hob⟩; have hbq := (HQ.out.off hoa (by simp)).off hob (by simp); have hcq := hbq.cell; have hlq := hbq.lt; unfold inoCells at hcq; clear hbq; have hab := (hoa.trans_nil hob).alloc (.cells (rsnCells [x1, (false, 2), x3, (m.node.kind != 1, 73)]).toArray 164); clear hoa hob
        go_wp2_with fail
        go_meet
        rw [show (decide ((65536 : Int) < data.size) || decide (mode < 0) || decide (511 < mode)) = false from by simp only [Bool.or_eq_false_iff, decide_eq_false_iff_not]; omega]; exact ⟨wb.heap.size, rfl, rsns_blk wb [x1, (false, 2), x3, (m.node.kind != 1, 73)] _ rfl, hab⟩
      case rest =>
        obtain ⟨g, rfl, hR, hox⟩ := hcut; have HR := Lib.hid hR; have HX2 := Lib.hid (HO2.out.trans_nil hox); have HBN2 := Lib.hid ((HBN.out.off HOW.out (by simp)).off hox (by simp)); have HQ2 := Lib.hid (HQ.out.off hox (by simp)); have HD2 := Lib.hid (H1.out.off HX2.out); obtain ⟨v, hv⟩ : ∃ v, firstE [x1, (b2, 2), x3, (m.node.kind != 1, 73), (full, 71)] = v := ⟨_, rfl⟩
        rw [hv] at HWR; have HV := Lib.hid hv; clear hR hox hv
        go_wp2_with (at_builtin; refine wpList_append_grows _ rfl _ _ 166 rfl 164 i0 _ 2 16 Tryz.underlying166 hi0 hz0 hz1 hz2 rfl (by decide) (some ⟨g, 0, none⟩) 4 4 (rsnCells [x1, (b2, 2), x3, (m.node.kind != 1, 73)]) rfl (by intro h; cases h) rfl (HR.out.off ((Off.refl _ _).alloc _)).cells ⟨wc.heap.size, 0, none⟩ 1 1 [.bool full, .int .i64 71] rfl rfl (cell_two_at (Blk.new wc _ _)) (by simp [Value.oneCell']) (by omega) (by unfold maxLen; omega) (by omega) ?_; intro v' w5 hown hgrow; obtain ⟨g5, c5, rfl, hR5⟩ := rsns_own (l := [x1, (b2, 2), x3, (m.node.kind != 1, 73)] ++ [(full, 71)]) (by rw [rsnCells_snoc]; exact hown) (by omega))
        refine (dfirst_any g5 c5 5 [x1, (b2, 2), x3, (m.node.kind != 1, 73), (full, 71)] w5 hR5 rfl (by omega)).mono ?_
        rintro e w6 ⟨rfl, ho6⟩; rw [HV.out]; have hx := ((((Off.refl [] wc).alloc _).grown hgrow (fun k hk => by cases hk))).trans_nil ho6; have HX6 := Lib.hid (HX2.out.trans_nil hx); have HD6 := Lib.hid (HD2.out.off hx); have hbn := HBN2.out.off hx (by simp); have HBN6 := Lib.hid hbn; have hbq := HQ2.out.off hx (by simp); have HQ6 := Lib.hid hbq; clear hown hgrow ho6 hR5 hx
        by_cases hv0 : v = 0
        · subst hv0
          have HF := Lib.hid (show D.edited.write path data mode = (0, { E with inos := E.inos.set (lookN E.names path - 1) ⟨⟨⟨#[]⟩, 1, data, mode⟩, E.clock, true⟩ }) by rw [HWR.out]; simp); clear HWR; have hcn := hbn.cell; have hln := hbn.lt; have hcq := hbq.cell; have hfq := hbq.frozen; have hlq := hbq.lt; have hcd := HD6.out.m.blk.cell; have hld := HD6.out.m.blk.lt
          have hne1 : p ≠ q := HD6.out.m.blk.ne_ hbq (by decide)
          have hne2 : w1.heap.size ≠ q := hbn.ne_ hbq (by decide)
          obtain ⟨cl, hcl⟩ : ∃ cl : Int, (E.clock : Int) = cl := ⟨_, rfl⟩
          unfold diskCells at hcd; rw [hcl] at hcd HF; have HCL := Lib.hid hcl; unfold inoCells at hcq; clear hbn hbq hcl
          go_upto_region 12 with fail
          go_region
          obtain ⟨k1, k2⟩ := put6 (a := .string ⟨#[]⟩) (b := .int .i64 1) (c := .string data) (d := .int .i64 mode) (x := .int .i64 cl) (y := .bool true) HQ6.out; have K1 := Lib.hid k1.drew; have K2 := Lib.hid k2.drew; clear k1 k2 hcn hln hcq hfq hlq hcd hld
          go_wp2_with fail
          go_ret
          rw [HF.out]; refine ⟨rfl, DSETo.step (HOP.out.1.trans_nil HX6.out) HOP.out.2 ((sync_end HD6.out HQ3.out K2.out ?_ hne1).le (by omega))⟩; exact K1.out
        have HF := Lib.hid (show D.edited.write path data mode = (v, E) by rw [HWR.out, if_pos hv0]); have hne : (v == 0) = false := beq_eq_false_iff_ne.2 hv0
        clear hv0 HWR hbn hbq
        go_wp2_with fail
        go_ret
        rw [HF.out]; exact ⟨rfl, DSETo.step (HOP.out.1.trans_nil HX6.out) HOP.out.2 (HD6.out.refl.le (by omega))⟩
  have HS2 := Lib.hid (show D.edited.write path data mode = (er, E) by rw [HS.out, if_pos h0]); have hne : (er == 0) = false := beq_eq_false_iff_ne.2 h0
  clear h0
  go_wp2_with fail
  go_ret
  rw [HS2.out]; exact ⟨rfl, HT.out.le (by omega)⟩
end
section
open Go.RowKit Go.Op Go.Maps
theorem NMat.rem {w : World} {b : Nat} {l : NameL} (h : NMat w b l) (p : ByteArray) (hp : p.size ≤ maxLen) (ty : TypeId) :
    ∃ w', (Builtin.delete_ #[122, 9] ty #[.map (some b), .string p]).run Tryz.prog w = .ok (.tuple #[]) w' ∧ NMat w' b (delN l p) ∧ w.grownBy w' (some b) := by
  obtain ⟨ha, D, hD, hs, hr⟩ := h; obtain ⟨w', hrun, hown, ht⟩ := hD.drop strK Tryz.underlying122 (WideMaps.keyOf_string_mk Tryz.underlying9 hp) ty; exact ⟨w', hrun, NMat.del ha hD hs hr p hown, ht.grown⟩
set_option maxRecDepth 100000 in
set_option maxHeartbeats 8000000 in
theorem repc_any (p m gp gq : Nat) (G : Geo) (D : PDisk) (path q : ByteArray) (W : World) (hM : DiskM W p { G with nb := m } D) (hm : m ∉ G.rest) (hn : D.names.length ≤ 1000000000) (hi : lookN D.names path ≤ 4611686018427387904) (hs : path.size ≤ maxLen) (hq : q.size ≤ maxLen)
    (hbp : Blk W gp 9 #[.string path]) (hbq : Blk W gq 9 #[.string q]) :
    Calls Tryz.prog 96 #[.map (some m), .pointer (some ⟨gp, 0, none⟩), .pointer (some ⟨gq, 0, none⟩)] W
      (TurnP p m G { D with names := delN (putN D.names q (lookN D.names path)) path } W) := by
  have hl := hM.parts.names.look path hs; obtain ⟨w1, h1, hN1, hg1⟩ := hM.parts.names.add hn q hq (lookN D.names path : Int) (lookN D.names path) rfl hi; obtain ⟨w2, h2, hN2, hg2⟩ := hN1.rem path hs 0; have HM := Lib.hid hM; have HMM := Lib.hid hm; have HN2 := Lib.hid hN2; have HG := Lib.hid (And.intro hg1 hg2); have hmb := hM.parts.names.isMap
  have hp1 := hbp.grown hg1 (fun e => hmb.ne hbp (by injection e with e; exact e.symm)); have hcp := hbp.cell; have hcq := hbq.cell; have hcp1 := hp1.cell; have hlp := hbp.lt; have hlq := hbq.lt; have hlp1 := hp1.lt; generalize (lookN D.names path : Int) = ix at hl h1; clear hM hm hN1 hN2 hg1 hg2 hmb hp1 hbp hbq hn hi hs hq
  go_enter Tryz.func96, Tryz.ntmps96
  go_wp2_with fail
  refine bodyPost_end (results_none rfl _ _ _) rfl ?_
  exact turn_names HM.out HMM.out HN2.out (((Off.refl [m] W).grown HG.out.1 (fun k hk => by cases hk; exact .inr (by simp))).grown HG.out.2 (fun k hk => by cases hk; exact .inr (by simp)))
theorem REPEN : ∀ args w, (callFunc 96 args).run Tryz.prog w = .ok (.enter 96 args) w := enters_of Tryz.func96 (by kernel_rfl) rfl
theorem DSE.changed {w w' : World} {p n : Nat} {G : Geo} {D : PDisk} {l : NameL} (h : DSE w p G D n) (hT : DiskTo w p G.parts w' { ({ D with names := l } : PDisk) with later := D.later ++ [l] }) (hk : Ok (D.change l) (n + 1)) : DSETo w p G.parts w' (D.change l) (n + 1) :=
  h.to (Off.refl _ _) hT hk
structure Tells (f : FuncId) (args : Array Value) (w0 : World) (v : Value) : Prop where
  call : ∀ W, Off [] w0 W → Calls Tryz.prog f args W fun e w' => e = .returned v ∧ Off [] W w'
theorem tells_use {f : FuncId} {args : Array Value} {w0 W : World} {v : Value} (h : Tells f args w0 v) (ho : Off [] w0 W) : Calls Tryz.prog f args W fun e w' => e = .returned v ∧ Off [] W w' := h.call W ho
set_option maxRecDepth 100000 in
set_option maxHeartbeats 16000000 in
theorem dreplace_callE (p n : Nat) (G : Geo) (D : PDisk) (path q : ByteArray) (w : World) (h : DSE w p G D n) (hE : EditsOk D n) (hn : n ≤ 50000000) (hs : path.size ≤ 9223372036854775807) (hsq : q.size ≤ 9223372036854775807) :
    Calls Tryz.prog 32 #[.pointer (some ⟨p, 0, none⟩), .string path, .string q] w fun e w' => e = .returned (.int .i64 (D.edited.replace path q).1) ∧ DSETo w p G.parts w' (D.edited.replace path q).2 (n + 2) := by
  have H := Lib.hid h; have HST := Lib.hid (fun (W : World) (ho : Off [] w W) => dstep_twoE p n G D ⟨#[82, 101, 112, 108, 97, 99, 101]⟩ path q W (h.off ho) hE hn); have HS := Lib.hid (show D.edited.replace path q = match D.edited.step ⟨#[82, 101, 112, 108, 97, 99, 101]⟩ path q with | (full, e, E) => if e ≠ 0 then (e, E) else E.replace_ path q from rfl); clear h
  generalize D.edited.step ⟨#[82, 101, 112, 108, 97, 99, 101]⟩ path q = st at HST HS
  obtain ⟨full, er, E⟩ := st; have HS := Lib.hid (show D.edited.replace path q = if er ≠ 0 then (er, E) else E.replace_ path q from HS.out)
  go_enter Tryz.func32, Tryz.ntmps32
  go_upto_region 1 with fail
  refine code_gen (fun W => Blk W w.heap.size 9 #[.string path] ∧ Blk W (w.heap.size + 1) 9 #[.string q] ∧ Off [] w W ∧ w.heap.size + 1 < W.heap.size)
    ⟨(Blk.new w _ _).alloc _, Blk.new1 w _ _ _, ((Off.refl _ _).alloc _).alloc _, by simp⟩ ?_
  rintro W ⟨hbp, hbq, hof, hsz⟩; have HBP := Lib.hid hbp; have HBQ := Lib.hid hbq; have HOF := Lib.hid hof; have HSZ := Lib.hid hsz; have hcp := hbp.cell; have hcq := hbq.cell; clear hbp hbq hof hsz
  go_wp2_with fail
  refine (HST.out W HOF.out).mono ?_
  rintro e w1 ⟨rfl, hT⟩; have HT := Lib.hid hT; clear hT HST hcp hcq
  by_cases h0 : er = 0
  · subst h0
    have HS2 := Lib.hid (show D.edited.replace path q = E.replace_ path q by rw [HS.out]; simp); obtain ⟨G1, h1, ho1, hp1⟩ := HT.out; have hno : ∀ b, w.heap.size ≤ b → b < W.heap.size → b ∉ p :: G.parts := fun b hb _ hm => by
      rcases List.mem_cons.1 hm with rfl | hm
      · have := H.out.m.blk.lt; omega
      have := H.out.m.parts.lt hm; omega
    have hbp1 := HBP.out.off ho1 (hno _ (Nat.le_refl _) (by have := HSZ.out; omega)); have hbq1 := HBQ.out.off ho1 (hno _ (by omega) HSZ.out); have HBP1 := Lib.hid hbp1; have HBQ1 := Lib.hid hbq1
    have HOP := Lib.hid (And.intro (show Off (p :: G.parts) w w1 from (HOF.out.mono (fun _ _ h => by simp at h)).trans ho1 (fun _ _ h => h)) (show ∀ b ∈ G1.parts, b ∈ G.parts ∨ w.heap.size ≤ b from fun b hb => by
      rcases hp1 b hb with h | h
      · exact .inl h
      exact .inr (Nat.le_trans HOF.out.size h)))
    obtain ⟨x1, hx1⟩ : ∃ x, PDisk.no path = x := ⟨_, rfl⟩
    obtain ⟨x2, hx2⟩ : ∃ x, PDisk.no q = x := ⟨_, rfl⟩
    obtain ⟨x3, hx3⟩ : ∃ x, E.gone path = x := ⟨_, rfl⟩
    obtain ⟨x5, hx5⟩ : ∃ x, E.parentE q = x := ⟨_, rfl⟩
    obtain ⟨dp, hdp⟩ : ∃ x, E.dir path = x := ⟨_, rfl⟩
    obtain ⟨dq, hdq⟩ : ∃ x, E.dir q = x := ⟨_, rfl⟩
    obtain ⟨b, hb⟩ : ∃ b, decide (path = q) = b := ⟨_, rfl⟩
    have hbe : (path.toList == q.toList) = b := by
      rw [← hb]
      by_cases hpq : path = q
      · rw [hpq]; simp
      rw [decide_eq_false hpq]; rw [toList_str, toList_str]; exact beq_eq_false_iff_ne.2 (fun e => hpq (str_inj e))
    have HX := Lib.hid (show PDisk.no path = x1 ∧ PDisk.no q = x2 ∧ E.gone path = x3 ∧ E.parentE q = x5 ∧ E.dir path = dp ∧ E.dir q = dq ∧ decide (path = q) = b from ⟨hx1, hx2, hx3, hx5, hdp, hdq, hb⟩); have hdr : ∀ W, Off [] w1.drew W → Off [] w1 W := fun W ho => (Off.refl [] w1).drew.trans_nil ho
    have HN1 := Lib.hid (show Tells 84 #[.string path] w1.drew (.agg #[.bool x1.1, .int .i64 x1.2]) from ⟨fun W ho => by
      have := dno_any path W (h1.tabs.off (hdr W ho)); rw [hx1] at this; exact this⟩)
    have HN2 := Lib.hid (show Tells 84 #[.string q] w1.drew (.agg #[.bool x2.1, .int .i64 x2.2]) from ⟨fun W ho => by
      have := dno_any q W (h1.tabs.off (hdr W ho)); rw [hx2] at this; exact this⟩)
    have HGO := Lib.hid (show Tells 89 #[.pointer (some ⟨p, 0, none⟩), .string path] w1.drew (.agg #[.bool x3.1, .int .i64 x3.2]) from ⟨fun W ho => by
      have := dgone_any p G1 E path W (h1.m.off (hdr W ho) (by simp) (by simp)) (by unfold maxLen; omega) (h1.ok.look (by omega) path); rw [hx3] at this; exact this⟩)
    have HPA := Lib.hid (show Tells 85 #[.pointer (some ⟨p, 0, none⟩), .string q] w1.drew (.agg #[.bool x5.1, .int .i64 x5.2]) from ⟨fun W ho => by
      have := dparent_big p G1 E q W (h1.m.off (hdr W ho) (by simp) (by simp)) hsq (fun x => h1.ok.look (by omega) x) (h1.tabs.off (hdr W ho)); rw [hx5] at this; exact this⟩)
    have HDP := Lib.hid (show Tells 95 #[.pointer (some ⟨p, 0, none⟩), .string path] w1.drew (.bool dp) from ⟨fun W ho => ddir_v p G1 E path W (h1.m.off (hdr W ho) (by simp) (by simp)) (by unfold maxLen; omega) (h1.ok.look (by omega) path) dp hdp⟩)
    have HDQ := Lib.hid (show Tells 95 #[.pointer (some ⟨p, 0, none⟩), .string q] w1.drew (.bool dq) from ⟨fun W ho => ddir_v p G1 E q W (h1.m.off (hdr W ho) (by simp) (by simp)) (by unfold maxLen; omega) (h1.ok.look (by omega) q) dq hdq⟩); clear hdr; have H1 := Lib.hid h1
    have HRP := Lib.hid (show E.replace_ path q = if firstE [x1, x2, (b, 2), x3, (dp || dq, 73), x5] ≠ 0 then (firstE [x1, x2, (b, 2), x3, (dp || dq, 73), x5], E) else (0, E.change (delN (putN E.names q (lookN E.names path)) path)) by
      unfold PDisk.replace_; rw [hx1, hx2, hx3, hx5, hdp, hdq, hb])
    clear HS hx1 hx2 hx3 hx5 hdp hdq hb h1 ho1 hp1 hno hbp1 hbq1
    go_wp2_with fail
    go_cut [9] from 21 to 45 (fun s wx => s = .int .i64 (firstE [x1, x2, (b, 2), x3, (dp || dq, 73), x5]) ∧ Off [] w1 wx)
    case first =>
      have hch := Off.refl [] w1.drew; have hB := HBP1.out.drew; have hC := HBQ1.out.drew
      cases dp
      · go_region_held3 (fun w' => (∀ i, w'.cell? ⟨w.heap.size, i, none⟩ = (#[.string path] : Array Value)[i]?) ∧ (∀ i, w'.cell? ⟨w.heap.size + 1, i, none⟩ = (#[.string q] : Array Value)[i]?)) (first | assumption | exact ⟨hB.cell, hC.cell⟩ | exact ⟨(hB.alloc _).cell, (hC.alloc _).cell⟩) (first
          | (go_at_call 84; refine (tells_use (by exact HN1.out) hch).mono ?_; rintro e wA ⟨rfl, hoA⟩; have hch := hch.trans_nil hoA; have hB := hB.off hoA (by simp); have hC := hC.off hoA (by simp))
          | (go_at_call 84; refine (tells_use (by exact HN2.out) hch).mono ?_; rintro e wB ⟨rfl, hoB⟩; have hch := hch.trans_nil hoB; have hB := hB.off hoB (by simp); have hC := hC.off hoB (by simp))
          | (go_at_call 89; refine (tells_use (by exact HGO.out) hch).mono ?_; rintro e wC ⟨rfl, hoC⟩; have hch := hch.trans_nil hoC; have hB := hB.off hoC (by simp); have hC := hC.off hoC (by simp))
          | (go_at_call 95; refine (tells_use (by exact HDP.out) hch).mono ?_; rintro e wD ⟨rfl, hoD⟩; have hch := hch.trans_nil hoD; have hB := hB.off hoD (by simp); have hC := hC.off hoD (by simp))
          | (go_at_call 95; refine (tells_use (by exact HDQ.out) hch).mono ?_; rintro e wE ⟨rfl, hoE⟩; have hch := hch.trans_nil hoE; have hB := hB.off hoE (by simp); have hC := hC.off hoE (by simp))
          | (go_at_call 85; refine (tells_use (by exact HPA.out) hch).mono ?_; rintro e wF ⟨rfl, hoF⟩; have hch := hch.trans_nil hoF; have hB := hB.off hoF (by simp); have hC := hC.off hoF (by simp))
          | (go_at_call 87; refine (dfirst_any _ 6 6 [x1, x2, (b, 2), x3, (dq, 73), x5] _ (rsns_new _ [x1, x2, (b, 2), x3, (dq, 73), x5] _ rfl) rfl (by omega)).mono ?_; rintro e wG ⟨rfl, hoG⟩; have hch := (hch.alloc _).trans_nil hoG; have hB := (hB.alloc _).off hoG (by simp); have hC := (hC.alloc _).off hoG (by simp)))
        have hoe := (Off.refl [] w1).drew.trans_nil hch; clear hch hB hC
        go_wp2_with fail
        go_meet
        exact ⟨rfl, hoe⟩
      refine wp_region_held_drew (S := fun w' => (∀ i, w'.cell? ⟨w.heap.size, i, none⟩ = (#[.string path] : Array Value)[i]?) ∧ (∀ i, w'.cell? ⟨w.heap.size + 1, i, none⟩ = (#[.string q] : Array Value)[i]?)) (by kernel_rfl) ⟨hB.cell, hC.cell⟩ (fun hHeld => ?_)
      refine wpAnyH_take (i := 0) (v := ?_) rfl (by kernel_rfl) (by kernel_rfl) (by kernel_rfl) (fun _ _ _ h => h) (Or.inl ⟨by rfl, ?_⟩) (by assumption) ?_
      rotate_left
      · intro w hSw
        try dsimp only at hSw
        go_simp
        try with_reducible rfl
      try simp only [Act.put, List.setIfInBounds_toArray]
      refine wpAnyH_take (i := 2) (v := ?_) rfl (by kernel_rfl) (by kernel_rfl) (by kernel_rfl) (fun _ _ _ h => h) (Or.inl ⟨by rfl, ?_⟩) (by assumption) ?_
      rotate_left
      · intro w hSw
        try dsimp only at hSw
        go_simp
        try with_reducible rfl
      try simp only [Act.put]
      refine wpAnyH_take (i := 4) (v := ?_) rfl (by kernel_rfl) (by kernel_rfl) (by kernel_rfl) (fun _ _ _ h => h) (Or.inl ⟨by rfl, ?_⟩) (by assumption) ?_
      rotate_left
      · intro w hSw
        try dsimp only at hSw
        go_simp
        try with_reducible rfl
      try simp only [Act.put]
      refine wpAnyH_take (i := 5) (v := ?_) rfl (by kernel_rfl) (by kernel_rfl) (by kernel_rfl) (fun _ _ _ h => h) (Or.inl ⟨by rfl, ?_⟩) (by assumption) ?_
      rotate_left
      · intro w hSw
        try dsimp only at hSw
        go_simp
        try with_reducible rfl
      try simp only [Act.put]
      refine wpAnyH_take (i := 6) (v := ?_) rfl (by kernel_rfl) (by kernel_rfl) (by kernel_rfl) (fun _ _ _ h => h) (Or.inl ⟨by rfl, ?_⟩) (by assumption) ?_
      rotate_left
      · intro w hSw
        try dsimp only at hSw
        go_simp
        try with_reducible rfl
      try simp only [Act.put]
      refine wpAnyH_take (i := 7) (v := ?_) rfl (by kernel_rfl) (by kernel_rfl) (by kernel_rfl) (fun _ _ _ h => h) (Or.inl ⟨by rfl, ?_⟩) (by assumption) ?_
      rotate_left
      · intro w hSw
        try dsimp only at hSw
        go_simp
        try with_reducible rfl
      try simp only [Act.put]
      refine wpAnyH_take (i := 8) (v := ?_) rfl (by kernel_rfl) (by kernel_rfl) (by kernel_rfl) (fun _ _ _ h => h) (Or.inl ⟨by rfl, ?_⟩) (by assumption) ?_
      rotate_left
      · intro w hSw
        try dsimp only at hSw
        go_simp
        try with_reducible rfl
      try simp only [Act.put]
      refine wpAnyH_take (i := 9) (v := ?_) rfl (by kernel_rfl) (by kernel_rfl) (by kernel_rfl) (fun _ _ _ h => h) (Or.inl ⟨by rfl, ?_⟩) (by assumption) ?_
      rotate_left
      · intro w hSw
        try dsimp only at hSw
        go_simp
        try with_reducible rfl
      try simp only [Act.put]
      refine wpAnyH_take (i := 11) (v := ?_) rfl (by kernel_rfl) (by kernel_rfl) (by kernel_rfl) (fun _ _ _ h => h) (Or.inl ⟨by rfl, ?_⟩) (by assumption) ?_
      rotate_left
      · intro w hSw
        try dsimp only at hSw
        go_simp
        try with_reducible rfl
      try simp only [Act.put]
      refine wpAnyH_take (i := 12) (v := ?_) rfl (by kernel_rfl) (by kernel_rfl) (by kernel_rfl) (fun _ _ _ h => h) (Or.inl ⟨by rfl, ?_⟩) (by assumption) ?_
      rotate_left
      · intro w hSw
        try dsimp only at hSw
        go_simp
        try with_reducible rfl
      try simp only [Act.put]
      refine wpAnyH_take (i := 20) (v := ?_) rfl (by kernel_rfl) (by kernel_rfl) (by kernel_rfl) (fun _ _ _ h => h) (Or.inl ⟨by rfl, ?_⟩) (by assumption) ?_
      rotate_left
      · intro w hSw
        try dsimp only at hSw
        go_simp
        try with_reducible rfl
      try simp only [Act.put]
      refine wpAnyH_take (i := 21) (v := ?_) rfl (by kernel_rfl) (by kernel_rfl) (by kernel_rfl) (fun _ _ _ h => h) (Or.inl ⟨by rfl, ?_⟩) (by assumption) ?_
      rotate_left
      · intro w hSw
        try dsimp only at hSw
        go_simp
        try with_reducible rfl
      try simp only [Act.put]
      refine wpAnyH_ready (rs := [1]) (by kernel_rfl) (by simp) ?_
      refine AllReadyH.cons rfl (fun K hK => ?_) AllReadyH.nil
      go_simp
      refine (tells_use (by exact HN1.out) hch).mono ?_; rintro e wA ⟨rfl, hoA⟩; have hch := hch.trans_nil hoA; have hB := hB.off hoA (by simp); have hC := hC.off hoA (by simp)
      refine hK.out _ _ ?_ (fun hHeld => ?_)
      · exact ⟨hB.cell, hC.cell⟩
      clear hK K
      try simp only [Act.put, List.setIfInBounds_toArray, List.set_cons_zero, List.set_cons_succ]
      refine wpAnyH_ready (rs := [3]) (by kernel_rfl) (by simp) ?_
      refine AllReadyH.cons rfl (fun K hK => ?_) AllReadyH.nil
      go_simp
      refine (tells_use (by exact HN2.out) hch).mono ?_; rintro e wB ⟨rfl, hoB⟩; have hch := hch.trans_nil hoB; have hB := hB.off hoB (by simp); have hC := hC.off hoB (by simp)
      refine hK.out _ _ ?_ (fun hHeld => ?_)
      · exact ⟨hB.cell, hC.cell⟩
      clear hK K
      try simp only [Act.put, List.setIfInBounds_toArray, List.set_cons_zero, List.set_cons_succ]
      refine wpAnyH_ready (rs := [10]) (by kernel_rfl) (by simp) ?_
      refine AllReadyH.cons rfl (fun K hK => ?_) AllReadyH.nil
      go_simp
      refine (tells_use (by exact HGO.out) hch).mono ?_; rintro e wC ⟨rfl, hoC⟩; have hch := hch.trans_nil hoC; have hB := hB.off hoC (by simp); have hC := hC.off hoC (by simp)
      refine hK.out _ _ ?_ (fun hHeld => ?_)
      · exact ⟨hB.cell, hC.cell⟩
      clear hK K
      try simp only [Act.put, List.setIfInBounds_toArray, List.set_cons_zero, List.set_cons_succ]
      refine wpAnyH_ready (rs := [13]) (by kernel_rfl) (by simp) ?_
      refine AllReadyH.cons rfl (fun K hK => ?_) AllReadyH.nil
      go_simp
      refine (tells_use (by exact HDP.out) hch).mono ?_; rintro e wD ⟨rfl, hoD⟩; have hch := hch.trans_nil hoD; have hB := hB.off hoD (by simp); have hC := hC.off hoD (by simp)
      refine hK.out _ _ ?_ (fun hHeld => ?_)
      · exact ⟨hB.cell, hC.cell⟩
      clear hK K
      try simp only [Act.put, List.setIfInBounds_toArray, List.set_cons_zero, List.set_cons_succ]
      refine wpAnyH_take (i := 14) (v := ?_) rfl (by kernel_rfl) (by kernel_rfl) (by kernel_rfl) (fun _ _ _ h => h) (Or.inl ⟨by rfl, ?_⟩) (by assumption) ?_
      rotate_left
      · intro w hSw
        try dsimp only at hSw
        go_simp
        try with_reducible rfl
      try simp only [Act.put, List.setIfInBounds_toArray]
      refine wpAnyH_take (i := 15) (v := undef) rfl (by kernel_rfl) (by kernel_rfl) (by kernel_rfl) (fun _ _ _ h => h) (Or.inr ⟨by rfl, rfl⟩) (by assumption) ?_
      try simp only [Act.put]
      refine wpAnyH_take (i := 16) (v := undef) rfl (by kernel_rfl) (by kernel_rfl) (by kernel_rfl) (fun _ _ _ h => h) (Or.inr ⟨by rfl, rfl⟩) (by assumption) ?_
      try simp only [Act.put]
      refine wpAnyH_take (i := 17) (v := undef) rfl (by kernel_rfl) (by kernel_rfl) (by kernel_rfl) (fun _ _ _ h => h) (Or.inr ⟨by rfl, rfl⟩) (by assumption) ?_
      try simp only [Act.put]
      refine wpAnyH_take (i := 18) (v := ?_) rfl (by kernel_rfl) (by kernel_rfl) (by kernel_rfl) (fun _ _ _ h => h) (Or.inl ⟨by rfl, ?_⟩) (by assumption) ?_
      rotate_left
      · intro w hSw
        try dsimp only at hSw
        go_simp
        try with_reducible rfl
      try simp only [Act.put]
      refine wpAnyH_take (i := 19) (v := ?_) rfl (by kernel_rfl) (by kernel_rfl) (by kernel_rfl) (fun _ _ _ h => h) (Or.inl ⟨by rfl, ?_⟩) (by assumption) ?_
      rotate_left
      · intro w hSw
        try dsimp only at hSw
        go_simp
        try with_reducible rfl
      try simp only [Act.put]
      refine wpAnyH_ready (rs := [22]) (by kernel_rfl) (by simp) ?_
      refine AllReadyH.cons rfl (fun K hK => ?_) AllReadyH.nil
      go_simp
      refine (tells_use (by exact HPA.out) hch).mono ?_; rintro e wF ⟨rfl, hoF⟩; have hch := hch.trans_nil hoF; have hB := hB.off hoF (by simp); have hC := hC.off hoF (by simp)
      refine hK.out _ _ ?_ (fun hHeld => ?_)
      · exact ⟨hB.cell, hC.cell⟩
      clear hK K
      try simp only [Act.put, List.setIfInBounds_toArray, List.set_cons_zero, List.set_cons_succ]
      refine wpAnyH_ready (rs := [23]) (by kernel_rfl) (by simp) ?_
      refine AllReadyH.cons rfl (fun K hK => ?_) AllReadyH.nil
      go_simp
      refine hK.out _ _ ?_ (fun hHeld => ?_)
      · exact ⟨(hB.alloc _).cell, (hC.alloc _).cell⟩
      clear hK K
      try simp only [Act.put, List.setIfInBounds_toArray, List.set_cons_zero, List.set_cons_succ]
      refine wpAnyH_ready (rs := [24]) (by kernel_rfl) (by simp) ?_
      refine AllReadyH.cons rfl (fun K hK => ?_) AllReadyH.nil
      go_simp
      refine (dfirst_any _ 6 6 [x1, x2, (b, 2), x3, (true, 73), x5] _ (rsns_new _ [x1, x2, (b, 2), x3, (true, 73), x5] _ rfl) rfl (by omega)).mono ?_; rintro e wG ⟨rfl, hoG⟩; have hch := (hch.alloc _).trans_nil hoG; have hB := (hB.alloc _).off hoG (by simp); have hC := (hC.alloc _).off hoG (by simp)
      refine hK.out _ _ ?_ (fun hHeld => ?_)
      · exact ⟨hB.cell, hC.cell⟩
      clear hK K
      try simp only [Act.put, List.setIfInBounds_toArray, List.set_cons_zero, List.set_cons_succ]
      refine wpAnyH_ready (rs := [25]) (by kernel_rfl) (by simp) ?_
      refine AllReadyH.cons rfl (fun K hK => ?_) AllReadyH.nil
      go_simp
      refine hK.out _ _ ?_ (fun hHeld => ?_)
      · exact ⟨hB.cell, hC.cell⟩
      clear hK K
      try simp only [Act.put, List.setIfInBounds_toArray, List.set_cons_zero, List.set_cons_succ]
      refine wpAnyH_done (by kernel_rfl) ?_ _
      have hoe := (Off.refl [] w1).drew.trans_nil hch; clear hch hB hC
      go_wp2_with fail
      go_meet
      exact ⟨rfl, hoe⟩
    case rest =>
      obtain ⟨rfl, hox⟩ := hcut; have HOX := Lib.hid hox; have HD2 := Lib.hid (H1.out.off hox); obtain ⟨v, hv⟩ : ∃ v, firstE [x1, x2, (b, 2), x3, (dp || dq, 73), x5] = v := ⟨_, rfl⟩
      rw [hv] at HRP ⊢; have HV := Lib.hid hv; clear hox hv hbe
      by_cases hv0 : v = 0
      · subst hv0
        have HF := Lib.hid (show D.edited.replace path q = (0, E.change (delN (putN E.names q (lookN E.names path)) path)) by rw [HS2.out, HRP.out]; simp); have HOK := Lib.hid (show Ok (E.change (delN (putN E.names q (lookN E.names path)) path)) (n + 1 + 1) from by
          have h3 := PDisk.replace__ok H1.out.ok path q; rw [HRP.out] at h3
          simpa using h3)
        have HTN := Lib.hid (fun (W1 : World) (hW1 : DiskM W1 p { G1 with nb := wc.heap.size } E) (ho1 : Off [p] wc W1) =>
          show Calls Tryz.prog 96 (#[.map (some wc.heap.size)] ++ #[.pointer (some ⟨w.heap.size, 0, none⟩), .pointer (some ⟨w.heap.size + 1, 0, none⟩)]) W1 (TurnP p wc.heap.size G1 { E with names := delN (putN E.names q (lookN E.names path)) path } W1) from
          repc_any p wc.heap.size w.heap.size (w.heap.size + 1) G1 E path q W1 hW1 (fun h => Nat.lt_irrefl _ (HD2.out.m.parts.lt (List.mem_cons_of_mem _ h))) (by have := HD2.out.ok.nlen; omega) (HD2.out.ok.look (by omega) path) (by unfold maxLen; omega) (by unfold maxLen; omega)
            ((HBP1.out.off HOX.out (by simp)).off ho1 (by have := H.out.m.blk.lt; simp; omega)) ((HBQ1.out.off HOX.out (by simp)).off ho1 (by have := H.out.m.blk.lt; simp; omega)))
        have HCH := Lib.hid (dchange_any p G1 E { E with names := delN (putN E.names q (lookN E.names path)) path } 96 #[.pointer (some ⟨w.heap.size, 0, none⟩), .pointer (some ⟨w.heap.size + 1, 0, none⟩)] wc HD2.out.m HD2.out.sb (by have := HD2.out.ok.llen; show E.later.length ≤ _; omega) REPEN HTN.out); clear HRP
        go_wp2_with fail
        refine HCH.out.mono ?_
        rintro e w7 ⟨rfl, hT⟩; have HT7 := Lib.hid hT; clear hT
        go_wp2_with fail
        go_ret
        rw [HF.out]; exact ⟨rfl, DSETo.step (HOP.out.1.trans_nil HOX.out) HOP.out.2 (HD2.out.changed HT7.out HOK.out)⟩
      have HF := Lib.hid (show D.edited.replace path q = (v, E) by rw [HS2.out, HRP.out, if_pos hv0]); have hne : (v == 0) = false := beq_eq_false_iff_ne.2 hv0
      clear hv0 HRP
      go_wp2_with fail
      go_ret
      rw [HF.out]; exact ⟨rfl, DSETo.step (HOP.out.1.trans_nil HOX.out) HOP.out.2 (HD2.out.refl.le (by omega))⟩
  have HS2 := Lib.hid (show D.edited.replace path q = (er, E) by rw [HS.out, if_pos h0]); have hne : (er == 0) = false := beq_eq_false_iff_ne.2 h0
  clear h0
  go_wp2_with fail
  go_ret
  rw [HS2.out]; obtain ⟨G1, h1, ho1, hp1⟩ := HT.out; refine ⟨rfl, DSETo.step (G1 := G1) ((HOF.out.mono (fun _ _ h => by simp at h)).trans ho1 (fun _ _ h => h)) (fun b hb => ?_) (h1.refl.le (by omega))⟩
  rcases hp1 b hb with h | h
  · exact .inl h
  exact .inr (Nat.le_trans HOF.out.size h)
end
section
open Go.RowKit Go.Op Go.Maps
def insP (path x : ByteArray) : Bool := !decide (x = path) && within (str x) (str path)
def PDisk.inside (D : PDisk) (path : ByteArray) : Bool := D.names.any fun x => insP path x.1
def PDisk.remove_ (D : PDisk) (p : ByteArray) : Int × PDisk :=
  let e := firstE [PDisk.no p, D.gone p, (D.inside p, 72)]
  if e ≠ 0 then (e, D) else (0, D.change (delN D.names p))
def PDisk.remove (D : PDisk) (p : ByteArray) : Int × PDisk := D.call ⟨#[82, 101, 109, 111, 118, 101]⟩ p ⟨#[]⟩ fun E _ => E.remove_ p
theorem PDisk.remove__ok {D : PDisk} {n : Nat} (h : Ok D n) (p : ByteArray) : Ok (D.remove_ p).2 (n + 1) := by
  unfold PDisk.remove_; dsimp only
  split
  · exact PDisk.ok_mono h (Nat.le_succ n)
  refine PDisk.change_ok h h.names.del ?_
  have h1 := length_delN_le D.names p; have h3 := h.nlen; omega
set_option maxRecDepth 100000 in
set_option maxHeartbeats 8000000 in
theorem remc_any (p m gp : Nat) (G : Geo) (D : PDisk) (path : ByteArray) (W : World) (hM : DiskM W p { G with nb := m } D) (hm : m ∉ G.rest) (hs : path.size ≤ maxLen) (hbp : Blk W gp 9 #[.string path]) :
    Calls Tryz.prog 91 #[.map (some m), .pointer (some ⟨gp, 0, none⟩)] W (TurnP p m G { D with names := delN D.names path } W) := by
  obtain ⟨w2, h2, hN2, hg2⟩ := hM.parts.names.rem path hs 0; have HM := Lib.hid hM; have HMM := Lib.hid hm; have HN2 := Lib.hid hN2; have HG := Lib.hid hg2; have hcp := hbp.cell; have hlp := hbp.lt; clear hM hm hN2 hg2 hbp hs
  go_enter Tryz.func91, Tryz.ntmps91
  go_wp2_with fail
  refine bodyPost_end (results_none rfl _ _ _) rfl ?_
  exact turn_names HM.out HMM.out HN2.out ((Off.refl [m] W).grown HG.out (fun k hk => by cases hk; exact .inr (by simp)))
theorem REMEN : ∀ args w, (callFunc 91 args).run Tryz.prog w = .ok (.enter 91 args) w := enters_of Tryz.func91 (by kernel_rfl) rfl
theorem name_came {Dm : DataW Unit} {l : NameL} {x : ByteArray} {kl : Lit} {yd : DataW Unit} (hr : ∀ p, has Dm (strL p) = hasN l p) (hk : keyOf Tryz.prog 9 (.string x) = some kl) (hat : ∀ zd, Dm.atKey kl zd = yd) : kl = strL x ∧ hasN l x = true := by
  obtain ⟨z, hz, hkl, _⟩ := Maps.keyOf_str Tryz.underlying9 hk; have hxz : x = ⟨z.toArray⟩ := by
    unfold encStr at hz; injection hz
  have hkx : kl = strL x := by rw [hkl, hxz]; simp [strL]
  refine ⟨hkx, ?_⟩
  rw [← hr, ← hkx]; exact has_true_of_atKey hat
theorem name_shape {key : Value} {kl : Lit} (h : keyOf Tryz.prog 9 key = some kl) : ∃ x : ByteArray, key = Value.string x := by
  obtain ⟨z, rfl, -, -⟩ := Maps.keyOf_str Tryz.underlying9 h; exact ⟨_, rfl⟩
theorem num_shape {v : Value} {y : DataW Unit × List MemPlace} (h : plainElem Tryz.prog 3 v = some y) : ∃ c : Int, v = Value.int .i64 c := by
  obtain ⟨c, rfl, -⟩ := plainElem_int_inv Tryz.underlying3 h; exact ⟨c, rfl⟩
def AskI (l : NameL) (P : ByteArray → Bool) (left : Lit → Bool) (b : Bool) : Prop :=
  (b = true → l.any (fun x => P x.1) = true) ∧ ∀ x ∈ l, left (strL x.1) = false → P x.1 = true → b = true
theorem AskI.start {l : NameL} {P : ByteArray → Bool} {left : Lit → Bool} (h : ∀ x ∈ l, left (strL x.1) = true) : AskI l P left false := ⟨(fun h => by cases h), (fun x hx h1 => by rw [h x hx] at h1; cases h1)⟩
theorem AskI.done {l : NameL} {P : ByteArray → Bool} {left : Lit → Bool} {b : Bool} (h : AskI l P left b) (hl : ∀ z, left z = false) : b = l.any fun x => P x.1 := by
  cases hb : l.any (fun x => P x.1)
  · cases b
    · rfl
    rw [h.1 rfl] at hb; cases hb
  obtain ⟨x, hx, hP⟩ := List.any_eq_true.1 hb; exact h.2 x hx (hl _) hP
theorem AskI.next {l : NameL} {P : ByteArray → Bool} {left : Lit → Bool} {b c : Bool} {x : ByteArray} (h : AskI l P left b) (hx : hasN l x = true) (hc : c = (b || P x)) : AskI l P (fun z => left z && !z.sameKey (strL x)) c := by
  subst hc; refine ⟨fun h1 => ?_, fun y hy h1 h2 => ?_⟩
  · rw [Bool.or_eq_true] at h1
    rcases h1 with h1 | h1
    · exact h.1 h1
    obtain ⟨y, hy, rfl⟩ := (hasN_iff l x).1 hx; exact List.any_eq_true.2 ⟨y, hy, h1⟩
  rw [Bool.or_eq_true]
  by_cases e : y.1 = x
  · right; rw [← e]; exact h2
  left
  refine h.2 y hy ?_ h2
  have h1 : (left (strL y.1) && !(strL y.1).sameKey (strL x)) = false := h1
  rw [sameKey_ne (fun e' => e (strL_inj e'))] at h1
  simpa using h1
set_option maxRecDepth 100000 in
set_option maxHeartbeats 16000000 in
theorem dremove_callE (p n : Nat) (G : Geo) (D : PDisk) (path : ByteArray) (w : World) (h : DSE w p G D n) (hE : EditsOk D n) (hn : n ≤ 50000000) (hs : path.size ≤ 9223372036854775807) :
    Calls Tryz.prog 30 #[.pointer (some ⟨p, 0, none⟩), .string path] w fun e w' => e = .returned (.int .i64 (D.edited.remove path).1) ∧ DSETo w p G.parts w' (D.edited.remove path).2 (n + 2) := by
  have H := Lib.hid h; have HST := Lib.hid (fun (W : World) (ho : Off [] w W) => dstep_oneE p n G D ⟨#[82, 101, 109, 111, 118, 101]⟩ path W (h.off ho) hE hn); have HS := Lib.hid (show D.edited.remove path = match D.edited.step ⟨#[82, 101, 109, 111, 118, 101]⟩ path ⟨#[]⟩ with | (full, e, E) => if e ≠ 0 then (e, E) else E.remove_ path from rfl); clear h
  generalize D.edited.step ⟨#[82, 101, 109, 111, 118, 101]⟩ path ⟨#[]⟩ = st at HST HS
  obtain ⟨full, er, E⟩ := st; have HS := Lib.hid (show D.edited.remove path = if er ≠ 0 then (er, E) else E.remove_ path from HS.out)
  go_enter Tryz.func30, Tryz.ntmps30
  go_upto_region 1 with fail
  refine code_gen (fun W => Blk W w.heap.size 9 #[.string path] ∧ Off [] w W ∧ w.heap.size < W.heap.size) ⟨Blk.new w _ _, (Off.refl _ _).alloc _, by simp⟩ ?_
  rintro W ⟨hbp, hof, hsz⟩; have HBP := Lib.hid hbp; have HOF := Lib.hid hof; have HSZ := Lib.hid hsz; have hcp := hbp.cell; clear hbp hof hsz
  go_wp2_with fail
  refine (HST.out W HOF.out).mono ?_
  rintro e w1 ⟨rfl, hT⟩; have HT := Lib.hid hT; clear hT HST hcp
  by_cases h0 : er = 0
  · subst h0
    have HS2 := Lib.hid (show D.edited.remove path = E.remove_ path by rw [HS.out]; simp); obtain ⟨G1, h1, ho1, hp1⟩ := HT.out; have hbp1 := HBP.out.off ho1 (fun hm => by
      rcases List.mem_cons.1 hm with h | hm
      · have := H.out.m.blk.lt; omega
      have := H.out.m.parts.lt hm; omega)
    have HBP1 := Lib.hid hbp1; have HOP := Lib.hid (And.intro (show Off (p :: G.parts) w w1 from (HOF.out.mono (fun _ _ h => by simp at h)).trans ho1 (fun _ _ h => h)) (show ∀ b ∈ G1.parts, b ∈ G.parts ∨ w.heap.size ≤ b from fun b hb => by
      rcases hp1 b hb with h | h
      · exact .inl h
      exact .inr (Nat.le_trans HOF.out.size h)))
    have H1 := Lib.hid h1; obtain ⟨ha, Dm, hDm, hsz, hr⟩ := h1.m.parts.names; have HR := Lib.hid hr; have HA := Lib.hid ha; have hc := h1.m.blk.cell; unfold diskCells at hc; obtain ⟨nl, hnl⟩ : ∃ nl, E.names.length = nl := ⟨_, rfl⟩
    rw [hnl] at hDm; clear HS h1 ho1 hp1 hbp1 ha hr hsz hnl
    go_wp2_with (at_range; refine wpList_range_own _ rfl _ 122 rfl 9 3 strK Tryz.underlying122 (plainElem Tryz.prog 3) G1.nb nl Dm rfl hDm ?_; intro w3 hrg hg3 hs3)
    have HG3 := Lib.hid hg3; have HS3 := Lib.hid hs3; have hst : Hid (AskI E.names (insP path) (has Dm) false) := Lib.hid (AskI.start (fun x hx => by rw [(HR.out x.1).1]; exact (hasN_iff _ _).2 ⟨x, hx, rfl⟩))
    clear hg3 hs3 hc hDm
    go_frame
    go_loopw [7] (fun s wr => ∃ left cnt b, s = .bool b ∧ wr.ranges Tryz.prog 9 (plainElem Tryz.prog 3) G1.nb w1.heap.size nl Dm left cnt ∧ Off [w1.heap.size] w3 wr ∧ Hid (AskI E.names (insP path) left b)) (fun _ wr => wr.rangeLeft G1.nb w1.heap.size)
    case atStart => exact ⟨_, _, _, rfl, hrg, Off.refl _ _, hst⟩
    case round =>
      clear hst hrg; obtain ⟨left, cnt, b, rfl, hrel, ho, HI⟩ := hrel; have HO3 := Lib.hid ho; have HO13 := Lib.hid (show Off [] w1 wr from ((Off.refl [] w1).grown HG3.out (fun k hk => by cases hk)).trans ho (fun x hx hm => by simp at hm; omega)); clear ho
      go_wp2_with (at_next; refine wpList_next_ranges _ rfl _ rfl 9 strK (plainElem Tryz.prog 3) Value.string (Value.int .i64) (fun _ _ h => name_shape h) (fun _ _ h => num_shape h) G1.nb w1.heap.size nl Dm _ _ rfl hrel ?_ ?_)
      · intro hc0 hl0
        have HBI := Lib.hid (HI.out.done hl0); clear hl0 hc0 hrel HI; have hbe : b = E.inside path := HBI.out
        obtain ⟨x1, hx1⟩ : ∃ x, PDisk.no path = x := ⟨_, rfl⟩
        obtain ⟨x2, hx2⟩ : ∃ x, E.gone path = x := ⟨_, rfl⟩
        have HDR := Lib.hid (H1.out.off HO13.out); have hdr : ∀ W, Off [] wr.drew W → Off [] wr W := fun W ho => (Off.refl [] wr).drew.trans_nil ho
        have HN1 := Lib.hid (show Tells 84 #[.string path] wr.drew (.agg #[.bool x1.1, .int .i64 x1.2]) from ⟨fun W ho => by
          have := dno_any path W (HDR.out.tabs.off (hdr W ho)); rw [hx1] at this; exact this⟩)
        have HGO := Lib.hid (show Tells 89 #[.pointer (some ⟨p, 0, none⟩), .string path] wr.drew (.agg #[.bool x2.1, .int .i64 x2.2]) from ⟨fun W ho => by
          have := dgone_any p G1 E path W (HDR.out.m.off (hdr W ho) (by simp) (by simp)) (by unfold maxLen; omega) (HDR.out.ok.look (by omega) path); rw [hx2] at this; exact this⟩)
        have HBR := Lib.hid (HBP1.out.off HO13.out (by simp)); have HRM := Lib.hid (show E.remove_ path = if firstE [x1, x2, (b, 72)] ≠ 0 then (firstE [x1, x2, (b, 72)], E) else (0, E.change (delN E.names path)) by
          unfold PDisk.remove_; rw [hx1, hx2, hbe])
        clear hx1 hx2 hdr hbe
        go_wp2_with fail
        go_cut [9] from 40 to 48 (fun s wx => s = .int .i64 (firstE [x1, x2, (b, 72)]) ∧ Off [] wr wx)
        case first =>
          have hch := Off.refl [] wr.drew; have hB := HBR.out.drew
          go_region_held3 (fun w' => ∀ i, w'.cell? ⟨w.heap.size, i, none⟩ = (#[.string path] : Array Value)[i]?) (first | assumption | exact hB.cell | exact (hB.alloc _).cell) (first
            | (go_at_call 84; refine (tells_use (by exact HN1.out) hch).mono ?_; rintro e wA ⟨rfl, hoA⟩; have hch := hch.trans_nil hoA; have hB := hB.off hoA (by simp))
            | (go_at_call 89; refine (tells_use (by exact HGO.out) hch).mono ?_; rintro e wC ⟨rfl, hoC⟩; have hch := hch.trans_nil hoC; have hB := hB.off hoC (by simp))
            | (go_at_call 87; refine (dfirst_any _ 3 3 [x1, x2, (b, 72)] _ (rsns_new _ [x1, x2, (b, 72)] _ rfl) rfl (by omega)).mono ?_; rintro e wG ⟨rfl, hoG⟩; have hch := (hch.alloc _).trans_nil hoG; have hB := (hB.alloc _).off hoG (by simp)))
          have hoe := (Off.refl [] wr).drew.trans_nil hch; clear hch hB
          go_wp2_with fail
          go_meet
          exact ⟨rfl, hoe⟩
        case rest =>
          obtain ⟨rfl, hox⟩ := hcut; have HOX := Lib.hid (HO13.out.trans_nil hox); have HD2 := Lib.hid (HDR.out.off hox); obtain ⟨v, hv⟩ : ∃ v, firstE [x1, x2, (b, 72)] = v := ⟨_, rfl⟩
          rw [hv] at HRM ⊢; have HV := Lib.hid hv; have HBX := Lib.hid (HBR.out.off hox (by simp)); clear hox hv
          by_cases hv0 : v = 0
          · subst hv0
            have HF := Lib.hid (show D.edited.remove path = (0, E.change (delN E.names path)) by rw [HS2.out, HRM.out]; simp); have HOK := Lib.hid (show Ok (E.change (delN E.names path)) (n + 1 + 1) from by
              have h3 := PDisk.remove__ok H1.out.ok path; rw [HRM.out] at h3
              simpa using h3)
            have HTN := Lib.hid (fun (W1 : World) (hW1 : DiskM W1 p { G1 with nb := wc.heap.size } E) (ho1 : Off [p] wc W1) =>
              show Calls Tryz.prog 91 (#[.map (some wc.heap.size)] ++ #[.pointer (some ⟨w.heap.size, 0, none⟩)]) W1 (TurnP p wc.heap.size G1 { E with names := delN E.names path } W1) from
              remc_any p wc.heap.size w.heap.size G1 E path W1 hW1 (fun h => Nat.lt_irrefl _ (HD2.out.m.parts.lt (List.mem_cons_of_mem _ h))) (by unfold maxLen; omega) (HBX.out.off ho1 (by have := H.out.m.blk.lt; simp; omega)))
            have HCH := Lib.hid (dchange_any p G1 E { E with names := delN E.names path } 91 #[.pointer (some ⟨w.heap.size, 0, none⟩)] wc HD2.out.m HD2.out.sb (by have := HD2.out.ok.llen; show E.later.length ≤ _; omega) REMEN HTN.out); clear HRM
            go_wp2_with fail
            refine HCH.out.mono ?_
            rintro e w7 ⟨rfl, hT⟩; have HT7 := Lib.hid hT; clear hT
            go_wp2_with fail
            go_ret
            rw [HF.out]; exact ⟨rfl, DSETo.step (HOP.out.1.trans_nil HOX.out) HOP.out.2 (HD2.out.changed HT7.out HOK.out)⟩
          have HF := Lib.hid (show D.edited.remove path = (v, E) by rw [HS2.out, HRM.out, if_pos hv0]); have hne : (v == 0) = false := beq_eq_false_iff_ne.2 hv0
          clear hv0 HRM
          go_wp2_with fail
          go_ret
          rw [HF.out]; exact ⟨rfl, DSETo.step (HOP.out.1.trans_nil HOX.out) HOP.out.2 (HD2.out.refl.le (by omega))⟩
      intro x c kl yd yp w4 cnt1 hkey hlk hy hat hrg1 hlt1 hg1 hs1 hen
      obtain ⟨rfl, hhas⟩ := name_came (fun p => (HR.out p).1) hkey hat; have ho4 : Off [w1.heap.size] w3 w4 := HO3.out.grown hg1 (fun k hk => by cases hk; exact .inr (by simp))
      have ho14 : Off [] w1 w4 := HO13.out.grown hg1 (fun k hk => by cases hk; exact .inl (Nat.le_refl _))
      have HLE := Lib.hid (show w4.rangeLeft G1.nb w1.heap.size < wr.rangeLeft G1.nb w1.heap.size by rw [hrg1.left_eq, hrel.left_eq]; exact hlt1); have HRG := Lib.hid hrg1; have HO4 := Lib.hid ho4; have HO14 := Lib.hid ho14; have hcp := (HBP1.out.off ho14 (by simp)).cell; have hlp := (HBP1.out.off ho14 (by simp)).lt; have HHAS := Lib.hid hhas
      have HWI := Lib.hid (nwithin_any x path w4 ((H1.out.off ho14).tabs.tabs)); clear hkey hlk hy hat hrg1 hlt1 hg1 hs1 hrel ho4 ho14 hhas
      change (Instr.entry (.pointer (some ⟨w1.heap.size, 0, none⟩))).run Tryz.prog w4 = .ok (.tuple #[.string x, .int .i64 c]) w4 at hen
      have FIN := Lib.hid (show ∀ (w5 : World) (b2 : Bool), Off [] w4 w5 → b2 = (b || insP path x) → (∃ left cnt b', Value.bool b2 = .bool b' ∧ w5.ranges Tryz.prog 9 (plainElem Tryz.prog 3) G1.nb w1.heap.size nl Dm left cnt ∧ Off [w1.heap.size] w3 w5 ∧ Hid (AskI E.names (insP path) left b')) ∧ w5.rangeLeft G1.nb w1.heap.size < wr.rangeLeft G1.nb w1.heap.size from fun w5 b2 ho5 hb2 => by
        have hg5 : w4.grownBy w5 none := ⟨ho5.os, ho5.tape, ho5.output, ho5.size, fun i hi _ => ho5.block i hi (by simp)⟩
        have hr5 := HRG.out.kept hg5 (by simp) (by simp); refine ⟨⟨_, _, b2, rfl, hr5, HO4.out.trans_nil ho5, Lib.hid (HI.out.next HHAS.out hb2)⟩, ?_⟩; have := HLE.out; rw [HRG.out.left_eq] at this; rw [hr5.left_eq]; exact this)
      cases b
      · by_cases hxp : x = path
        · have hxe : (x.toList == path.toList) = true := by rw [hxp]; simp
          have HP := Lib.hid (show false = (false || insP path x) by unfold insP; rw [decide_eq_true hxp]; rfl); clear hxp
          go_wp2_with fail
          exact FIN.out _ _ (Off.refl _ _) HP.out
        have hxe : (x.toList == path.toList) = false := by
          rw [toList_str, toList_str]; exact beq_eq_false_iff_ne.2 (fun e => hxp (str_inj e))
        obtain ⟨v, hv⟩ : ∃ v, within (str x) (str path) = v := ⟨_, rfl⟩
        have HP := Lib.hid (show v = (false || insP path x) by unfold insP; rw [decide_eq_false hxp, hv]; simp); rw [hv] at HWI; clear hxp hv
        go_wp2_with fail
        refine HWI.out.mono ?_
        rintro e w5 ⟨rfl, ho5⟩
        go_wp2_with fail
        exact FIN.out _ _ ho5 HP.out
      go_wp2_with fail
      exact FIN.out _ _ (Off.refl _ _) (by simp)
  have HS2 := Lib.hid (show D.edited.remove path = (er, E) by rw [HS.out, if_pos h0]); have hne : (er == 0) = false := beq_eq_false_iff_ne.2 h0
  clear h0
  go_wp2_with fail
  go_ret
  rw [HS2.out]; obtain ⟨G1, h1, ho1, hp1⟩ := HT.out; refine ⟨rfl, DSETo.step (G1 := G1) ((HOF.out.mono (fun _ _ h => by simp at h)).trans ho1 (fun _ _ h => h)) (fun b hb => ?_) (h1.refl.le (by omega))⟩
  rcases hp1 b hb with h | h
  · exact .inl h
  exact .inr (Nat.le_trans HOF.out.size h)
end
section
open Go.RowKit Go.Op Go.Maps
def PDisk.mkdir_ (D : PDisk) (full : Bool) (p : ByteArray) : Int × PDisk := D.lay p ⟨⟨#[]⟩, 2, ⟨#[]⟩, 0⟩ full [PDisk.no p, D.parentE p, D.there p]
def PDisk.mkdir (D : PDisk) (p : ByteArray) : Int × PDisk := D.call ⟨#[77, 107, 100, 105, 114]⟩ p ⟨#[]⟩ fun E full => E.mkdir_ full p
end
section
open Go.RowKit Go.Op Go.Maps
def linkBad (q : ByteArray) : Bool := decide (q = ⟨#[]⟩) || decide (400 < q.size) || (str q).contains 0
def PDisk.link_ (D : PDisk) (full : Bool) (p q : ByteArray) : Int × PDisk := D.lay p ⟨⟨#[]⟩, 3, q, 0⟩ full [PDisk.no p, (linkBad q, 2), D.parentE p, D.there p]
def PDisk.link (D : PDisk) (p q : ByteArray) : Int × PDisk := D.call ⟨#[76, 105, 110, 107]⟩ p q fun E full => E.link_ full p q
end
section
open Go.RowKit Go.Op Go.Maps
def PDisk.namesOn (D : PDisk) (p : ByteArray) : List ByteArray × Int :=
  let e := if p = ⟨#[]⟩ then 0 else firstE [PDisk.no p, D.gone p]
  if e ≠ 0 then ([], e) else if D.dir p then (namesR D.tree (str p), 0) else ([], 73)
def PDisk.namesC (D : PDisk) (p : ByteArray) : (List ByteArray × Int) × PDisk :=
  match D.step ⟨#[78, 97, 109, 101, 115]⟩ p ⟨#[]⟩ with
  | (_, e, E) => if e ≠ 0 then (([], e), E) else (E.namesOn p, E)
set_option maxRecDepth 100000 in
set_option maxHeartbeats 16000000 in
theorem dnames_callE (p n : Nat) (G : Geo) (D : PDisk) (path : ByteArray) (w : World) (h : DSE w p G D n) (hE : EditsOk D n) (hn : n ≤ 40000000) (hs : path.size ≤ 9223372036854775807) (hF : Light D.edited) :
    Calls Tryz.prog 102 #[.pointer (some ⟨p, 0, none⟩), .string path] w fun e w' => ∃ v wm, e = .returned (.tuple #[v, .int .i64 (D.edited.namesC path).1.2]) ∧ w'.ownsRow wm.heap.size 9 1 v (D.edited.namesC path).1.1.length ((D.edited.namesC path).1.1.map Value.string) ∧ DSETo w p G.parts wm (D.edited.namesC path).2 (n + 1) ∧ Off [] wm w' := by
  have HST := Lib.hid (dstep_oneE p n G D ⟨#[78, 97, 109, 101, 115]⟩ path w h hE (by omega)); have HLI := Lib.hid (hF.step ⟨#[78, 97, 109, 101, 115]⟩ path ⟨#[]⟩); have HS := Lib.hid (show D.edited.namesC path = match D.edited.step ⟨#[78, 97, 109, 101, 115]⟩ path ⟨#[]⟩ with | (_, e, E) => if e ≠ 0 then (([], e), E) else (E.namesOn path, E) from rfl); clear h hF
  generalize D.edited.step ⟨#[78, 97, 109, 101, 115]⟩ path ⟨#[]⟩ = st at HST HS HLI
  obtain ⟨full, er, E⟩ := st; have HS := Lib.hid (show D.edited.namesC path = if er ≠ 0 then (([], er), E) else (E.namesOn path, E) from HS.out); have HLI := Lib.hid (show Light E from HLI.out); have hres : Tryz.f102.results = #[.tmp 4, .tmp 5] := rfl
  go_enter Tryz.func102, Tryz.ntmps102
  go_wp2_with fail
  refine HST.out.mono ?_
  rintro e w1 ⟨rfl, hT⟩; have HT := Lib.hid hT; clear hT HST
  by_cases h0 : er = 0
  · subst h0
    obtain ⟨G1, h1, ho1, hp1⟩ := HT.out; have H1 := Lib.hid h1; have HDI := Lib.hid (fun (W : World) (ho : Off [] w1 W) (v : Bool) (hv : E.dir path = v) => ddir_v p G1 E path W (h1.m.off ho (by simp) (by simp)) (by unfold maxLen; omega) (h1.ok.look (by omega) path) v hv); have HTR := Lib.hid (fun (W : World) (ho : Off [] w1 W) => dtree_callE p (n + 1) G1 E W (h1.off ho) (by omega))
    have HFI := Lib.hid (HLI.out.fits h1.ok); have HNM := Lib.hid (fun (W : World) (ho : Off [] w1 W) (q : Option Addr) (m c : Nat) (hm : E.tree.length = m) (hmc : m ≤ c) (hb : m ≤ maxLen) (hr : Row W q E.tree) => names_any q E.tree m c path W hr hm hmc hb HFI.out (by unfold maxLen; omega) (h1.tabs.off ho)); have HTL := Lib.hid (show E.tree.length ≤ 1000000 by
      have h5 := h1.ok.tree h1.m.parts.names.1; rw [h5, List.length_map, sortN_len]; have := h1.ok.nlen; omega)
    by_cases hp : path = ⟨#[]⟩
    · have HS2 := Lib.hid (show D.edited.namesC path = (if E.dir path then (namesR E.tree (str path), 0) else ([], 73), E) by
        rw [HS.out]; unfold PDisk.namesOn; rw [if_pos hp]; simp)
      have hoo : Off [] w1 w1 := Off.refl _ _
      have HOO := Lib.hid hoo; clear HS h1 ho1 hp1 hoo; have hpe : path.toList.isEmpty = true := by rw [hp, Lib.toList_data]; rfl
      have hpe2 : path.toList = [] := by rw [hp, Lib.toList_data]
      clear hp
      go_upto_region 8 with fail
      by_cases hd : E.dir path = true
      · have HDD := Lib.hid (HDI.out _ HOO.out true hd)
        have HF := Lib.hid (show D.edited.namesC path = ((namesR E.tree (str path), 0), E) by rw [HS2.out, hd]; rfl); clear hd HDI HS2
        go_wp2_with fail
        refine HDD.out.mono ?_
        rintro e wb ⟨rfl, hob⟩; have HOB := Lib.hid (HOO.out.trans_nil hob); clear hob HDD
        go_wp2_with fail
        refine (HTR.out _ HOB.out).mono ?_
        rintro e wc ⟨v, rfl, hrow, hoc⟩; have HOC := Lib.hid (HOB.out.trans_nil hoc); obtain ⟨m, hm⟩ : ∃ m, E.tree.length = m := ⟨_, rfl⟩
        obtain ⟨q, c, hv, hr, hc, -⟩ := own_row hrow; rw [hm] at hv hc; subst hv; have HNN := Lib.hid (HNM.out wc HOC.out q m c hm hc (by have := HTL.out; unfold maxLen; omega) hr); clear hrow hoc hr HNM HTR hm
        go_wp2_with fail
        refine HNN.out.mono ?_
        rintro e wd ⟨u, rfl, hown, hod⟩; have HOW := Lib.hid hown; have HOD := Lib.hid hod; clear hown hod HNN
        go_wp2_with fail
        refine bodyPost_ret (v := .tuple #[u, .int .i64 0]) ?_ rfl ?_
        · simp only [results, hres]
          go_simp
        rw [HF.out]; exact ⟨u, wc, rfl, HOW.out, HT.out.off HOC.out, HOD.out⟩
      have hd : E.dir path = false := by simpa using hd
      have HDD := Lib.hid (HDI.out _ HOO.out false hd); have HF := Lib.hid (show D.edited.namesC path = (([], 73), E) by rw [HS2.out, hd]; rfl); clear hd HDI HS2
      go_wp2_with fail
      refine HDD.out.mono ?_
      rintro e wb ⟨rfl, hob⟩; have HOB := Lib.hid (HOO.out.trans_nil hob); clear hob HDD
      go_wp2_with fail
      refine bodyPost_ret (v := .tuple #[.slice none 0 0, .int .i64 73]) ?_ rfl ?_
      · simp only [results, hres]
        go_simp
      rw [HF.out]; exact ⟨_, wb, rfl, ⟨rfl, .inl ⟨rfl, rfl⟩⟩, HT.out.off HOB.out, Off.refl _ _⟩
    obtain ⟨hpe1, hpe2⟩ := emp_ne hp; obtain ⟨x1, hx1⟩ : ∃ x, PDisk.no path = x := ⟨_, rfl⟩
    obtain ⟨x2, hx2⟩ : ∃ x, E.gone path = x := ⟨_, rfl⟩
    have hno := dno_any path w1 h1.tabs.tabs; have hgo := fun (W : World) (ho : Off [] w1 W) => dgone_any p G1 E path W (h1.m.off ho (by simp) (by simp)) (by unfold maxLen; omega) (h1.ok.look (by omega) path)
    rw [hx1] at hno; rw [hx2] at hgo; unfold rsn at hno hgo; have HNO := Lib.hid hno; have HGO := Lib.hid hgo; have HS2 := Lib.hid (show D.edited.namesC path = (if firstE [x1, x2] ≠ 0 then ([], firstE [x1, x2]) else if E.dir path then (namesR E.tree (str path), 0) else ([], 73), E) by
      rw [HS.out]; unfold PDisk.namesOn; rw [if_neg hp, hx1, hx2]; simp)
    clear HS h1 ho1 hp1 hx1 hx2 hno hgo hp
    go_wp2_with fail
    refine HNO.out.mono ?_
    rintro e w2 ⟨rfl, ho2⟩; have HO2 := Lib.hid ho2; clear ho2 HNO
    go_wp2_with fail
    refine (HGO.out _ HO2.out).mono ?_
    rintro e w3 ⟨rfl, ho3⟩; have HO3 := Lib.hid ((HO2.out.trans_nil ho3).alloc (.cells (rsnCells [x1, x2]).toArray 164)); clear ho3 HGO HO2
    go_wp2_with fail
    refine (dfirst_any w3.heap.size 2 2 [x1, x2] _ (rsns_new w3 [x1, x2] _ rfl) rfl (by omega)).mono ?_
    rintro e w4 ⟨rfl, ho4⟩; have HOO := Lib.hid (HO3.out.trans_nil ho4); clear ho4 HO3
    by_cases hv0 : firstE [x1, x2] = 0
    · have HS3 := Lib.hid (show D.edited.namesC path = (if E.dir path then (namesR E.tree (str path), 0) else ([], 73), E) by rw [HS2.out, hv0]; simp)
      have HS2 := HS3; rw [hv0]; clear hv0 HS3
      go_upto_region 8 with fail
      by_cases hd : E.dir path = true
      · have HDD := Lib.hid (HDI.out _ HOO.out true hd)
        have HF := Lib.hid (show D.edited.namesC path = ((namesR E.tree (str path), 0), E) by rw [HS2.out, hd]; rfl); clear hd HDI HS2
        go_wp2_with fail
        refine HDD.out.mono ?_
        rintro e wb ⟨rfl, hob⟩; have HOB := Lib.hid (HOO.out.trans_nil hob); clear hob HDD
        go_wp2_with fail
        refine (HTR.out _ HOB.out).mono ?_
        rintro e wc ⟨v, rfl, hrow, hoc⟩; have HOC := Lib.hid (HOB.out.trans_nil hoc); obtain ⟨m, hm⟩ : ∃ m, E.tree.length = m := ⟨_, rfl⟩
        obtain ⟨q, c, hv, hr, hc, -⟩ := own_row hrow; rw [hm] at hv hc; subst hv; have HNN := Lib.hid (HNM.out wc HOC.out q m c hm hc (by have := HTL.out; unfold maxLen; omega) hr); clear hrow hoc hr HNM HTR hm
        go_wp2_with fail
        refine HNN.out.mono ?_
        rintro e wd ⟨u, rfl, hown, hod⟩; have HOW := Lib.hid hown; have HOD := Lib.hid hod; clear hown hod HNN
        go_wp2_with fail
        refine bodyPost_ret (v := .tuple #[u, .int .i64 0]) ?_ rfl ?_
        · simp only [results, hres]
          go_simp
        rw [HF.out]; exact ⟨u, wc, rfl, HOW.out, HT.out.off HOC.out, HOD.out⟩
      have hd : E.dir path = false := by simpa using hd
      have HDD := Lib.hid (HDI.out _ HOO.out false hd); have HF := Lib.hid (show D.edited.namesC path = (([], 73), E) by rw [HS2.out, hd]; rfl); clear hd HDI HS2
      go_wp2_with fail
      refine HDD.out.mono ?_
      rintro e wb ⟨rfl, hob⟩; have HOB := Lib.hid (HOO.out.trans_nil hob); clear hob HDD
      go_wp2_with fail
      refine bodyPost_ret (v := .tuple #[.slice none 0 0, .int .i64 73]) ?_ rfl ?_
      · simp only [results, hres]
        go_simp
      rw [HF.out]; exact ⟨_, wb, rfl, ⟨rfl, .inl ⟨rfl, rfl⟩⟩, HT.out.off HOB.out, Off.refl _ _⟩
    obtain ⟨ee, hee⟩ : ∃ ee, firstE [x1, x2] = ee := ⟨_, rfl⟩
    have HF := Lib.hid (show D.edited.namesC path = (([], ee), E) by rw [HS2.out, if_pos hv0, hee]); rw [hee]; have hne : (ee == 0) = false := beq_eq_false_iff_ne.2 (by rw [← hee]; exact hv0)
    clear hv0 hee HS2
    go_wp2_with fail
    refine bodyPost_ret (v := .tuple #[.slice none 0 0, .int .i64 ee]) ?_ rfl ?_
    · simp only [results, hres]
      go_simp
    rw [HF.out]; exact ⟨_, w4, rfl, ⟨rfl, .inl ⟨rfl, rfl⟩⟩, HT.out.off HOO.out, Off.refl _ _⟩
  have HS2 := Lib.hid (show D.edited.namesC path = (([], er), E) by rw [HS.out, if_pos h0]); have hne : (er == 0) = false := beq_eq_false_iff_ne.2 h0
  clear h0
  go_wp2_with fail
  refine bodyPost_ret (v := .tuple #[.slice none 0 0, .int .i64 er]) ?_ rfl ?_
  · simp only [results, hres]
    go_simp
  rw [HS2.out]; exact ⟨_, w1, rfl, ⟨rfl, .inl ⟨rfl, rfl⟩⟩, HT.out, Off.refl _ _⟩
end
section
open Go.RowKit Go.Op Go.Maps
def mvP (p q x : ByteArray) : ByteArray := q ++ x.extract p.size x.size
def mvN (p q : ByteArray) (x : ByteArray × Nat) : ByteArray × Nat := if within (str x.1) (str p) then (mvP p q x.1, x.2) else x
def mvF (p q : ByteArray) (left : Lit → Bool) (x : ByteArray × Nat) : ByteArray × Nat := if left (strL x.1) then x else mvN p q x
def mvL (p q : ByteArray) (l : NameL) (left : Lit → Bool) : NameL := l.map (mvF p q left)
def Free (p q : ByteArray) (l : NameL) : Prop := ∀ x ∈ l, within (str x.1) (str p) = true → hasN l (mvP p q x.1) = false
theorem hasN_perm {l m : NameL} (h : l.Perm m) (z : ByteArray) : hasN l z = hasN m z := by
  rw [Bool.eq_iff_iff, hasN_iff, hasN_iff]; exact ⟨fun ⟨x, hx, e⟩ => ⟨x, h.mem_iff.1 hx, e⟩, fun ⟨x, hx, e⟩ => ⟨x, h.mem_iff.2 hx, e⟩⟩
theorem Apart.perm {l m : NameL} (h : l.Perm m) (ha : Apart l) : Apart m := by
  rw [apart_iff] at ha ⊢; exact (h.map _).nodup_iff.1 ha
theorem lookN_perm {l m : NameL} (h : l.Perm m) (ha : Apart l) (z : ByteArray) : lookN l z = lookN m z := by
  cases hz : hasN l z
  · rw [lookN_of_not hz, lookN_of_not (by rw [← hasN_perm h]; exact hz)]
  obtain ⟨x, hx, rfl⟩ := (hasN_iff l z).1 hz; rw [lookN_mem ha hx, lookN_mem (ha.perm h) (h.mem_iff.1 hx)]
theorem NMat.perm {w : World} {b : Nat} {l m : NameL} (h : NMat w b l) (hp : l.Perm m) : NMat w b m := by
  obtain ⟨ha, D, hD, hs, hr⟩ := h; refine ⟨ha.perm hp, D, ?_, ?_, fun z => ?_⟩
  · rw [← hp.length_eq]; exact hD
  · rw [← hp.length_eq]; exact hs
  rw [← hasN_perm hp, ← lookN_perm hp ha]; exact hr z
theorem mvP_inj {p q x y : ByteArray} (hp : okPath (str p) = true) (hx : within (str x) (str p) = true) (hy : within (str y) (str p) = true) (h : mvP p q x = mvP p q y) : x = y := by
  have key : ∀ z : ByteArray, within (str z) (str p) = true → str z = str p ++ str (z.extract p.size z.size) := fun z hz => by
    have hzk : okPath (str z) = true := by
      unfold within at hz; simp only [Bool.and_eq_true] at hz; exact hz.1
    have e : str (z.extract p.size z.size) = (str z).drop (str p).length := by
      rw [str_extract, str_size, ← str_size z]; exact List.take_of_length_le (by rw [List.length_drop]; exact Nat.le_refl _)
    rw [e]
    rcases (within_iff hzk hp).1 hz with h | ⟨s, h⟩
    · rw [h]; simp
    rw [h]; simp
  apply str_inj
  rw [key x hx, key y hy]; have h2 : str q ++ str (x.extract p.size x.size) = str q ++ str (y.extract p.size y.size) := by
    rw [← str_append, ← str_append]; exact congrArg str h
  rw [List.append_cancel_left h2]
theorem mv_step {p q : ByteArray} {l : NameL} {left : Lit → Bool} {x : ByteArray} {i : Nat} (ha : Apart l) (hp : okPath (str p) = true) (hf : Free p q l) (hx : (x, i) ∈ l) (hl : left (strL x) = true) (hw : within (str x) (str p) = true) :
    (putN (delN (mvL p q l left) x) (mvP p q x) i).Perm (mvL p q l fun z => left z && !z.sameKey (strL x)) := by
  obtain ⟨a, b, rfl⟩ := List.append_of_mem hx; have hne : ∀ y ∈ a ++ b, y.1 ≠ x := by
    unfold Apart at ha; rw [List.pairwise_append] at ha; obtain ⟨_, h2, h3⟩ := ha
    intro y hy
    rcases List.mem_append.1 hy with hy | hy
    · exact h3 y hy (x, i) (List.mem_cons_self ..)
    exact fun e => (List.pairwise_cons.1 h2).1 y hy e.symm
  have hmem : ∀ y ∈ a ++ b, y ∈ a ++ (x, i) :: b := fun y hy => by
    rcases List.mem_append.1 hy with hy | hy
    · exact List.mem_append_left _ hy
    exact List.mem_append_right _ (List.mem_cons_of_mem _ hy)
  have hno : ∀ y z, y ∈ a ++ (x, i) :: b → within (str y.1) (str p) = true → z ∈ a ++ (x, i) :: b → mvP p q y.1 ≠ z.1 := fun y z hy hyw hz e => by
    have := hf y hy hyw; rw [show hasN (a ++ (x, i) :: b) (mvP p q y.1) = true from (hasN_iff _ _).2 ⟨z, hz, e.symm⟩] at this
    cases this
  have hfst : ∀ y ∈ a ++ b, (mvF p q left y).1 ≠ x := fun y hy => by
    unfold mvF mvN
    split
    · exact hne y hy
    split
    · rename_i h; exact hno y (x, i) (hmem y hy) h hx
    exact hne y hy
  have hfst2 : ∀ y ∈ a ++ b, (mvF p q left y).1 ≠ mvP p q x := fun y hy => by
    unfold mvF mvN
    split
    · exact (hno (x, i) y hx hw (hmem y hy)).symm
    split
    · rename_i h
      exact fun e => hne y hy (mvP_inj hp h hw e)
    exact (hno (x, i) y hx hw (hmem y hy)).symm
  have hfx : mvF p q left (x, i) = (x, i) := by unfold mvF; rw [if_pos hl]
  have h1 : delN (mvL p q (a ++ (x, i) :: b) left) x = (a ++ b).map (mvF p q left) := by
    unfold mvL delN; rw [List.map_append, List.map_cons, hfx, List.filter_append, List.filter_cons_of_neg (by simp), ← List.filter_append, ← List.map_append]; refine List.filter_eq_self.2 fun y hy => ?_
    obtain ⟨z, hz, rfl⟩ := List.mem_map.1 hy
    simpa using hfst z hz
  have h2 : putN (delN (mvL p q (a ++ (x, i) :: b) left) x) (mvP p q x) i = (a ++ b).map (mvF p q left) ++ [(mvP p q x, i)] := by
    rw [h1]; unfold putN; rw [if_neg (fun h => by
      obtain ⟨y, hy, e⟩ := (hasN_iff _ _).1 h; obtain ⟨z, hz, rfl⟩ := List.mem_map.1 hy; exact hfst2 z hz e)]
  have h3 : ∀ y ∈ a ++ b, mvF p q (fun z => left z && !z.sameKey (strL x)) y = mvF p q left y := fun y hy => by
    have e1 : (left (strL y.1) && !(strL y.1).sameKey (strL x)) = left (strL y.1) := by
      rw [sameKey_ne (fun e => hne y hy (strL_inj e))]; simp
    unfold mvF; simp only [e1]
  have h4 : mvF p q (fun z => left z && !z.sameKey (strL x)) (x, i) = (mvP p q x, i) := by
    have e1 : (left (strL x) && !(strL x).sameKey (strL x)) = false := by
      rw [WideAt.sameKey_self (isKey_str x)]; simp
    unfold mvF mvN; simp only [e1, hw]
    rfl
  rw [h2]; unfold mvL; rw [List.map_append, List.map_append, List.map_cons, h4, List.map_congr_left (f := mvF p q fun z => left z && !z.sameKey (strL x)) (g := mvF p q left) (fun y hy => h3 y (List.mem_append_left _ hy)), List.map_congr_left (l := b) (f := mvF p q fun z => left z && !z.sameKey (strL x)) (g := mvF p q left) (fun y hy => h3 y (List.mem_append_right _ hy)), List.append_assoc]
  exact List.Perm.append_left _ (List.perm_append_comm (l₁ := b.map (mvF p q left)) (l₂ := [(mvP p q x, i)]))
theorem mv_skip {p q : ByteArray} {l : NameL} {left : Lit → Bool} {x : ByteArray} (hw : within (str x) (str p) = false) : mvL p q l (fun z => left z && !z.sameKey (strL x)) = mvL p q l left := by
  unfold mvL; refine List.map_congr_left fun y hy => ?_
  by_cases e : y.1 = x
  · unfold mvF mvN
    rw [e, hw]; simp
  have e1 : (left (strL y.1) && !(strL y.1).sameKey (strL x)) = left (strL y.1) := by
    rw [sameKey_ne (fun h => e (strL_inj h))]; simp
  unfold mvF; simp only [e1]
theorem mv_start {p q : ByteArray} {l : NameL} {left : Lit → Bool} (h : ∀ x ∈ l, left (strL x.1) = true) : mvL p q l left = l := by
  unfold mvL
  conv => rhs; rw [← List.map_id l]
  exact List.map_congr_left fun y hy => by unfold mvF; rw [if_pos (h y hy)]; rfl
theorem mv_done {p q : ByteArray} {l : NameL} {left : Lit → Bool} (h : ∀ z, left z = false) : mvL p q l left = l.map (mvN p q) := by
  unfold mvL; exact List.map_congr_left fun y hy => by unfold mvF; rw [h]; rfl
end
section
open Go.RowKit Go.Op Go.Maps
theorem MOVEN : ∀ args w, (callFunc 94 args).run Tryz.prog w = .ok (.enter 94 args) w := enters_of Tryz.func94 (by kernel_rfl) rfl
theorem within_size {x p : ByteArray} (h : within (str x) (str p) = true) (hp : okPath (str p) = true) : p.size ≤ x.size := by
  have hk : okPath (str x) = true := by
    unfold within at h; simp only [Bool.and_eq_true] at h; exact h.1
  rw [← str_size p, ← str_size x]
  rcases (within_iff hk hp).1 h with e | ⟨s, e⟩
  · rw [e]; exact Nat.le_refl _
  rw [e, List.length_append]; omega
set_option maxRecDepth 100000 in
set_option maxHeartbeats 16000000 in
theorem movc_any (p m gp gq : Nat) (G : Geo) (D : PDisk) (path q : ByteArray) (W : World) (hM : DiskM W p { G with nb := m } D) (hm : m ∉ G.rest) (hn : D.names.length ≤ 1000000000) (hp : okPath (str path) = true) (hf : Free path q D.names) (hsz : ∀ x ∈ D.names, x.1.size ≤ 400 ∧ x.2 ≤ 4611686018427387904) (hq : q.size ≤ 400)
    (hbp : Blk W gp 9 #[.string path]) (hbq : Blk W gq 9 #[.string q]) (hT : ∀ W', Off [m] W W' → Tabs W') :
    Calls Tryz.prog 94 #[.map (some m), .pointer (some ⟨gp, 0, none⟩), .pointer (some ⟨gq, 0, none⟩)] W
      (TurnP p m G { D with names := D.names.map (mvN path q) } W) := by
  have HCL := Lib.hid (mclone_any m D.names W hM.parts.names); have HNM := Lib.hid hM.parts.names; have ha := hM.parts.names.1; have HA := Lib.hid ha; have HM := Lib.hid hM; have HMM := Lib.hid hm; have HP := Lib.hid hp; have HF := Lib.hid hf; have HSZ := Lib.hid hsz; have HT := Lib.hid hT; have HBP := Lib.hid hbp; have HBQ := Lib.hid hbq; have hmb := hM.parts.names.isMap
  have HNE := Lib.hid (show gp ≠ m ∧ gq ≠ m ∧ m < W.heap.size from ⟨fun e => hmb.ne hbp e.symm, fun e => hmb.ne hbq e.symm, hM.parts.names.lt⟩); clear hM hm hp hf hsz hT hbp hbq hmb ha
  go_enter Tryz.func94, Tryz.ntmps94
  go_wp2_with fail
  refine HCL.out.mono ?_
  rintro e w1 ⟨rfl, hN1, ho1⟩; have HO1 := Lib.hid ho1; have HN0 := Lib.hid (HNM.out.off ho1 (by simp)); have HLT := Lib.hid hN1.lt; obtain ⟨-, Dm, hDm, hs, hr⟩ := hN1; have HR := Lib.hid hr; obtain ⟨cb, hcb⟩ : ∃ cb, W.heap.size = cb := ⟨_, rfl⟩
  obtain ⟨nl, hnl⟩ : ∃ nl, D.names.length = nl := ⟨_, rfl⟩
  rw [hcb] at hDm HLT ⊢; rw [hnl] at hDm; have HCB := Lib.hid (show m < cb by rw [← hcb]; exact HNE.out.2.2); clear hs hr ho1 HCL hnl hcb
  go_wp2_with (at_range; refine wpList_range_own _ rfl _ 122 rfl 9 3 strK Tryz.underlying122 (plainElem Tryz.prog 3) cb nl Dm rfl hDm ?_; intro w3 hrg hg3 hs3)
  have HO3 := Lib.hid (show Off [] w1 w3 from (Off.refl [] w1).grown hg3 (fun k hk => by cases hk)); have hst : NMat w3 m (mvL path q D.names (has Dm)) := by
    rw [mv_start (fun x hx => by rw [(HR.out x.1).1]; exact (hasN_iff _ _).2 ⟨x, hx, rfl⟩)]; exact HN0.out.off HO3.out (by simp)
  have HST := Lib.hid hst; have HIT := Lib.hid (show cb < w1.heap.size from HLT.out); clear hg3 hs3 hDm hst
  go_frame
  go_loopw [4] (fun _ wr => ∃ left cnt, wr.ranges Tryz.prog 9 (plainElem Tryz.prog 3) cb w1.heap.size nl Dm left cnt ∧ Off [m, w1.heap.size] w3 wr ∧ Hid (NMat wr m (mvL path q D.names left))) (fun _ wr => wr.rangeLeft cb w1.heap.size)
  case atStart => exact ⟨_, _, hrg, Off.refl _ _, HST⟩
  case round =>
    clear hrg HST; obtain ⟨left, cnt, hrel, ho, HI⟩ := hrel; have HO := Lib.hid ho; clear ho
    go_wp2_with (at_next; refine wpList_next_ranges _ rfl _ rfl 9 strK (plainElem Tryz.prog 3) Value.string (Value.int .i64) (fun _ _ h => name_shape h) (fun _ _ h => num_shape h) cb w1.heap.size nl Dm _ _ rfl hrel ?_ ?_)
    · intro hc0 hl0
      have hN := HI.out; rw [mv_done hl0] at hN; have HN := Lib.hid hN; clear hN hl0 hc0 hrel HI
      go_wp2_with fail
      refine bodyPost_end (results_none rfl _ _ _) rfl ?_
      refine turn_names HM.out HMM.out HN.out ?_
      have h1 := HO1.out.trans_nil HO3.out; refine (h1.mono (fun _ _ h => by simp at h)).trans HO.out (fun x hx hm => ?_); simp at hm ⊢
      rcases hm with h | h
      · exact h
      have := HO1.out.size; omega
    intro x c kl yd yp w4 cnt1 hkey hlk hy hat hrg1 hlt1 hg1 hs1 hen
    obtain ⟨rfl, hhas⟩ := name_came (fun p => (HR.out p).1) hkey hat; obtain ⟨c', e1, e2, -⟩ := plainElem_int_inv Tryz.underlying3 hy; have hcl : c = (lookN D.names x : Int) := by
      have h1 := hat (.lit (.int .i64 0)); rw [(HR.out x).2] at h1
      cases e1
      cases e2
      cases h1
      rfl
    clear e1 e2; subst hcl; obtain ⟨⟨x0, i⟩, hxi, rfl⟩ := (hasN_iff _ _).1 hhas; have hlook : lookN D.names x0 = i := lookN_mem HA.out hxi
    change (Instr.entry (.pointer (some ⟨w1.heap.size, 0, none⟩))).run Tryz.prog w4 = .ok (.tuple #[.string x0, .int .i64 (lookN D.names x0)]) w4 at hen
    rw [hlook] at hen
    replace hlk : left (strL x0) = true := hlk
    replace hrg1 : w4.ranges Tryz.prog 9 (plainElem Tryz.prog 3) cb w1.heap.size nl Dm (fun z => left z && !z.sameKey (strL x0)) cnt1 := hrg1
    have HOW := Lib.hid (show Off [] W w3 from HO1.out.trans_nil HO3.out); have HWS := Lib.hid (show W.heap.size ≤ w1.heap.size from HO1.out.size); have ho4 : Off [m, w1.heap.size] w3 w4 := HO.out.grown hg1 (fun k hk => by cases hk; exact .inr (by simp))
    have HO4 := Lib.hid ho4; have HK := Lib.hid (show ∀ w', Off [m, w1.heap.size] w3 w' → Off [m] W w' from fun w' h => (HOW.out.mono (fun _ _ h => by simp at h)).trans h (fun x hx hm => by
      simp at hm ⊢
      rcases hm with h | h
      · exact h
      have := HWS.out; omega))
    have HN4 := Lib.hid (HI.out.kept hg1 (by
      intro e
      injection e with e
      have := HCB.out; have := HIT.out; omega))
    have HLE := Lib.hid (show w4.rangeLeft cb w1.heap.size < wr.rangeLeft cb w1.heap.size by rw [hrg1.left_eq, hrel.left_eq]; exact hlt1); have HRG := Lib.hid hrg1; have HX := Lib.hid hxi; have HLK := Lib.hid hlk; have HBP4 := Lib.hid (HBP.out.off (HK.out _ ho4) (by have := HNE.out.1; simpa using this))
    have HBQ4 := Lib.hid (HBQ.out.off (HK.out _ ho4) (by have := HNE.out.2.1; simpa using this)); have hcp := HBP4.out.cell; have HWI := Lib.hid (nwithin_any x0 path w4 (HT.out _ (HK.out _ ho4)))
    have FIN := Lib.hid (show ∀ w5, Off [m] w4 w5 → Hid (NMat w5 m (mvL path q D.names fun z => left z && !z.sameKey (strL x0))) → (∃ left cnt, w5.ranges Tryz.prog 9 (plainElem Tryz.prog 3) cb w1.heap.size nl Dm left cnt ∧ Off [m, w1.heap.size] w3 w5 ∧ Hid (NMat w5 m (mvL path q D.names left))) ∧ w5.rangeLeft cb w1.heap.size < wr.rangeLeft cb w1.heap.size from fun w5 ho5 hN5 => by
      have hg5 : w4.grownBy w5 (some m) := ⟨ho5.os, ho5.tape, ho5.output, ho5.size, fun i hi hne => ho5.block i hi (by simp; intro e; exact hne (by rw [e]))⟩
      have hr5 := HRG.out.kept hg5 (by intro e; injection e with e; have := HCB.out; omega) (by intro e; injection e with e; have := HCB.out; have := HIT.out; omega); refine ⟨⟨_, _, hr5, HO4.out.trans ho5 (fun x hx hm => by simp at hm ⊢; exact .inl hm), hN5⟩, ?_⟩; have := HLE.out; rw [HRG.out.left_eq] at this; rw [hr5.left_eq]; exact this)
    clear hkey hlk hy hat hrg1 hlt1 hg1 hs1 hrel ho4 hhas hxi hlook HI HO; obtain ⟨v, hv⟩ : ∃ v, within (str x0) (str path) = v := ⟨_, rfl⟩
    rw [hv] at HWI
    cases v
    · have HV := Lib.hid hv
      clear hv
      go_wp2_with fail
      refine HWI.out.mono ?_
      rintro e w5 ⟨rfl, ho5⟩; have HO5 := Lib.hid ho5; clear ho5 hen
      go_wp2_with fail
      exact FIN.out w5 (HO5.out.mono (fun _ _ h => by simp at h)) (Lib.hid (by rw [mv_skip HV.out]; exact HN4.out.off HO5.out (by simp)))
    have HV := Lib.hid hv; have hxs : path.size ≤ x0.size := within_size hv HP.out
    clear hv
    go_wp2_with fail
    refine HWI.out.mono ?_
    rintro e w5 ⟨rfl, ho5⟩; have HO5 := Lib.hid ho5; obtain ⟨w6, h6, hN6, hg6⟩ := (HN4.out.off ho5 (by simp)).rem x0 (by have := (HSZ.out _ HX.out).1; unfold maxLen; dsimp only at this; omega) 0; have HN6 := Lib.hid hN6; have HO6 := Lib.hid ((Off.refl [m] w5).grown hg6 (fun k hk => by cases hk; exact .inr (by simp))); clear ho5 hen hcp hN6 hg6
    go_upto_region 5 with fail
    obtain ⟨w7, h7, hN7, hg7⟩ := (show NMat w6.drew m _ from HN6.out.off ((Off.refl [] w6).drew) (by simp)).add (by
      have h1 := length_delN_le (mvL path q D.names left) x0; have h2 : (mvL path q D.names left).length = D.names.length := by unfold mvL; rw [List.length_map]
      omega) (q ++ x0.extract path.size x0.size) (by
      rw [ByteArray.size_append, ByteArray.size_extract]; have := (HSZ.out _ HX.out).1; dsimp only at this; unfold maxLen; omega) (i : Int) i rfl (HSZ.out _ HX.out).2
    have HN7 := Lib.hid hN7; have HO7 := Lib.hid ((Off.refl [m] w6.drew).grown hg7 (fun k hk => by cases hk; exact .inr (by simp))); have HB6 := (HBP4.out.off HO5.out (by simp)).off HO6.out (by have := HNE.out.1; simpa using this); have HQ6 := (HBQ4.out.off HO5.out (by simp)).off HO6.out (by have := HNE.out.2.1; simpa using this); have hcp := HB6.cell; have hcq := HQ6.cell
    have hxi1 : (path.size : Int) ≤ x0.size := by omega
    have hxi0 : (0 : Int) ≤ path.size := by omega
    have hx4 : ¬ 9223372036854775807 < q.size + (x0.size - path.size) := by
      have := (HSZ.out _ HX.out).1; dsimp only at this; omega
    clear HB6 HQ6 h6 hN7 hg7
    go_region
    clear h7 hcp hcq
    go_wp2_with fail
    refine FIN.out w7 (((HO5.out.mono (fun _ _ h => by simp at h)).trans HO6.out (fun _ _ h => h)).trans ((Off.refl [m] w6).drew.trans HO7.out (fun _ _ h => h)) (fun _ _ h => h)) (Lib.hid (HN7.out.perm ?_))
    exact mv_step HA.out HP.out HF.out HX.out HLK.out HV.out
end
section
open Go.RowKit Go.Op Go.Maps
def badP (p q x : ByteArray) : Bool := within (str x) (str p) && !okPath (str (mvP p q x))
def PDisk.badMv (D : PDisk) (p q : ByteArray) : Bool := D.names.any fun x => badP p q x.1
def PDisk.mvE (D : PDisk) (p q : ByteArray) : List (Bool × Int) := [PDisk.no p, PDisk.no q, (within (str q) (str p), 2), D.gone p, D.there q, D.parentE q]
def PDisk.move_ (D : PDisk) (p q : ByteArray) : Int × PDisk :=
  let e := firstE (D.mvE p q)
  if e ≠ 0 then (e, D) else if D.badMv p q then (11, D) else (0, D.change (D.names.map (mvN p q)))
def PDisk.move (D : PDisk) (p q : ByteArray) : Int × PDisk := D.call ⟨#[77, 111, 118, 101]⟩ p q fun E _ => E.move_ p q
theorem lookN_some {l : NameL} {z : ByteArray} (h : hasN l z = true) : ∃ y ∈ l, y.1 = z ∧ lookN l z = y.2 := by
  induction l with
  | nil => simp [hasN] at h
  | cons x l ih =>
    unfold lookN
    by_cases e : x.1 = z
    · exact ⟨x, List.mem_cons_self .., e, by rw [if_pos e]⟩
    obtain ⟨y, h1, h2, h3⟩ := ih (by simpa [hasN, e] using h); exact ⟨y, List.mem_cons_of_mem _ h1, h2, by rw [if_neg e]; exact h3⟩
theorem NOk.of_mem {n : Nat} {l : NameL} (h : NOk n l) (ha : Apart l) {x : ByteArray × Nat} (hx : x ∈ l) : 1 ≤ x.2 ∧ x.2 ≤ n ∧ x.1.size ≤ 400 := by
  have h1 := h x.1; have h2 := lookN_mem ha hx; have h3 := h1.2 ((hasN_iff _ _).2 ⟨x, hx, rfl⟩); rw [h2] at h1 h3; exact ⟨h3.1, h1.1, h3.2⟩
theorem NOk.moved {n : Nat} {l : NameL} {p q : ByteArray} (h : NOk n l) (ha : Apart l) (hb : (l.any fun x => badP p q x.1) = false) : NOk n (l.map (mvN p q)) := fun z => by
  cases hz : hasN (l.map (mvN p q)) z
  · rw [lookN_of_not hz]
    exact ⟨Nat.zero_le _, fun e => by cases e⟩
  obtain ⟨y, hy, h1, h2⟩ := lookN_some hz; obtain ⟨x, hx, rfl⟩ := List.mem_map.1 hy; obtain ⟨k1, k2, k3⟩ := h.of_mem ha hx; have e2 : (mvN p q x).2 = x.2 := by unfold mvN; split <;> rfl
  rw [h2, e2]; refine ⟨k2, fun _ => ⟨k1, ?_⟩⟩; rw [← h1]; unfold mvN
  split
  · rename_i hw
    have hb2 := List.any_eq_false.1 hb x hx; have hk : okPath (str (mvP p q x.1)) = true := by
      unfold badP at hb2; rw [hw] at hb2
      simpa using hb2
    show (mvP p q x.1).size ≤ 400
    rw [← str_size]; exact okPath_size hk
  exact k3
set_option maxRecDepth 100000 in
set_option maxHeartbeats 16000000 in
theorem dmove_callE (p n : Nat) (G : Geo) (D : PDisk) (path q : ByteArray) (w : World) (h : DSE w p G D n) (hE : EditsOk D n) (hn : n ≤ 50000000) (hs : path.size ≤ 9223372036854775807) (hsq : q.size ≤ 9223372036854775807)
    (hfr : ∀ E, (D.edited.step ⟨#[77, 111, 118, 101]⟩ path q).2.2 = E → firstE (E.mvE path q) = 0 → Free path q E.names) :
    Calls Tryz.prog 31 #[.pointer (some ⟨p, 0, none⟩), .string path, .string q] w fun e w' => e = .returned (.int .i64 (D.edited.move path q).1) ∧ DSETo w p G.parts w' (D.edited.move path q).2 (n + 2) := by
  have H := Lib.hid h; have HST := Lib.hid (fun (W : World) (ho : Off [] w W) => dstep_twoE p n G D ⟨#[77, 111, 118, 101]⟩ path q W (h.off ho) hE hn); have HS := Lib.hid (show D.edited.move path q = match D.edited.step ⟨#[77, 111, 118, 101]⟩ path q with | (full, e, E) => if e ≠ 0 then (e, E) else E.move_ path q from rfl); have HFR := Lib.hid (hfr _ rfl); clear h hfr
  generalize D.edited.step ⟨#[77, 111, 118, 101]⟩ path q = st at HST HS HFR
  obtain ⟨full, er, E⟩ := st; have HS := Lib.hid (show D.edited.move path q = if er ≠ 0 then (er, E) else E.move_ path q from HS.out); have HFR := Lib.hid (show firstE (E.mvE path q) = 0 → Free path q E.names from HFR.out)
  go_enter Tryz.func31, Tryz.ntmps31
  go_upto_region 1 with fail
  refine code_gen (fun W => Blk W w.heap.size 9 #[.string path] ∧ Blk W (w.heap.size + 1) 9 #[.string q] ∧ Off [] w W ∧ w.heap.size + 1 < W.heap.size)
    ⟨(Blk.new w _ _).alloc _, Blk.new1 w _ _ _, ((Off.refl _ _).alloc _).alloc _, by simp⟩ ?_
  rintro W ⟨hbp, hbq, hof, hsz⟩; have HBP := Lib.hid hbp; have HBQ := Lib.hid hbq; have HOF := Lib.hid hof; have HSZ := Lib.hid hsz; have hcp := hbp.cell; have hcq := hbq.cell; clear hbp hbq hof hsz
  go_wp2_with fail
  refine (HST.out W HOF.out).mono ?_
  rintro e w1 ⟨rfl, hT⟩; have HT := Lib.hid hT; clear hT HST hcp hcq
  by_cases h0 : er = 0
  · subst h0
    have HS2 := Lib.hid (show D.edited.move path q = E.move_ path q by rw [HS.out]; simp); obtain ⟨G1, h1, ho1, hp1⟩ := HT.out; have hno : ∀ b, w.heap.size ≤ b → b < W.heap.size → b ∉ p :: G.parts := fun b hb _ hm => by
      rcases List.mem_cons.1 hm with rfl | hm
      · have := H.out.m.blk.lt; omega
      have := H.out.m.parts.lt hm; omega
    have hbp1 := HBP.out.off ho1 (hno _ (Nat.le_refl _) (by have := HSZ.out; omega)); have hbq1 := HBQ.out.off ho1 (hno _ (by omega) HSZ.out); have HBP1 := Lib.hid hbp1; have HBQ1 := Lib.hid hbq1
    have HOP := Lib.hid (And.intro (show Off (p :: G.parts) w w1 from (HOF.out.mono (fun _ _ h => by simp at h)).trans ho1 (fun _ _ h => h)) (show ∀ b ∈ G1.parts, b ∈ G.parts ∨ w.heap.size ≤ b from fun b hb => by
      rcases hp1 b hb with h | h
      · exact .inl h
      exact .inr (Nat.le_trans HOF.out.size h)))
    obtain ⟨x1, hx1⟩ : ∃ x, PDisk.no path = x := ⟨_, rfl⟩
    obtain ⟨x2, hx2⟩ : ∃ x, PDisk.no q = x := ⟨_, rfl⟩
    obtain ⟨b, hb⟩ : ∃ b, within (str q) (str path) = b := ⟨_, rfl⟩
    obtain ⟨x3, hx3⟩ : ∃ x, E.gone path = x := ⟨_, rfl⟩
    obtain ⟨x4, hx4⟩ : ∃ x, E.there q = x := ⟨_, rfl⟩
    obtain ⟨x5, hx5⟩ : ∃ x, E.parentE q = x := ⟨_, rfl⟩
    have HME := Lib.hid (show E.mvE path q = [x1, x2, (b, 2), x3, x4, x5] by unfold PDisk.mvE; rw [hx1, hx2, hb, hx3, hx4, hx5]); have HX1 := Lib.hid hx1; have hdr : ∀ W, Off [] w1.drew W → Off [] w1 W := fun W ho => (Off.refl [] w1).drew.trans_nil ho
    have HN1 := Lib.hid (show Tells 84 #[.string path] w1.drew (.agg #[.bool x1.1, .int .i64 x1.2]) from ⟨fun W ho => by
      have := dno_any path W (h1.tabs.off (hdr W ho)); rw [hx1] at this; exact this⟩)
    have HN2 := Lib.hid (show Tells 84 #[.string q] w1.drew (.agg #[.bool x2.1, .int .i64 x2.2]) from ⟨fun W ho => by
      have := dno_any q W (h1.tabs.off (hdr W ho)); rw [hx2] at this; exact this⟩)
    have HWQ := Lib.hid (show Tells 88 #[.string q, .string path] w1.drew (.bool b) from ⟨fun W ho => by
      have := nwithin_any q path W (h1.tabs.off (hdr W ho)); rw [hb] at this; exact this⟩)
    have HGO := Lib.hid (show Tells 89 #[.pointer (some ⟨p, 0, none⟩), .string path] w1.drew (.agg #[.bool x3.1, .int .i64 x3.2]) from ⟨fun W ho => by
      have := dgone_any p G1 E path W (h1.m.off (hdr W ho) (by simp) (by simp)) (by unfold maxLen; omega) (h1.ok.look (by omega) path); rw [hx3] at this; exact this⟩)
    have HTH := Lib.hid (show Tells 92 #[.pointer (some ⟨p, 0, none⟩), .string q] w1.drew (.agg #[.bool x4.1, .int .i64 x4.2]) from ⟨fun W ho => by
      have := dthere_any p G1 E q W (h1.m.off (hdr W ho) (by simp) (by simp)) (by unfold maxLen; omega) (h1.ok.look (by omega) q); rw [hx4] at this; exact this⟩)
    have HPA := Lib.hid (show Tells 85 #[.pointer (some ⟨p, 0, none⟩), .string q] w1.drew (.agg #[.bool x5.1, .int .i64 x5.2]) from ⟨fun W ho => by
      have := dparent_big p G1 E q W (h1.m.off (hdr W ho) (by simp) (by simp)) hsq (fun x => h1.ok.look (by omega) x) (h1.tabs.off (hdr W ho)); rw [hx5] at this; exact this⟩)
    have H1 := Lib.hid h1; have HMV := Lib.hid (show E.move_ path q = if firstE [x1, x2, (b, 2), x3, x4, x5] ≠ 0 then (firstE [x1, x2, (b, 2), x3, x4, x5], E) else if E.badMv path q then (11, E) else (0, E.change (E.names.map (mvN path q))) by
      unfold PDisk.move_; rw [HME.out])
    have HZ := Lib.hid (show firstE [x1, x2, (b, 2), x3, x4, x5] = 0 → x1.1 = false ∧ x2.1 = false from fun e => by
      have h5 : ∀ y ∈ [x1, x2, (b, 2), x3, x4, x5], y.2 ≠ 0 := by
        intro y hy
        simp only [List.mem_cons, List.not_mem_nil, or_false] at hy
        rcases hy with rfl | rfl | rfl | rfl | rfl | rfl
        · rw [← hx1]; simp [PDisk.no]
        · rw [← hx2]; simp [PDisk.no]
        · simp
        · rw [← hx3]; simp [PDisk.gone]
        · rw [← hx4]; simp [PDisk.there]
        rw [← hx5]; simp [PDisk.parentE]
      exact ⟨firstE_zero h5 e _ (by simp), firstE_zero h5 e _ (by simp)⟩)
    have HOKP := Lib.hid (show (x1.1 = false → okPath (str path) = true) ∧ (x2.1 = false → q.size ≤ 400) from ⟨fun e => by
      rw [← hx1] at e
      simpa [PDisk.no] using e, fun e => no_size (by rw [hx2]; exact e)⟩)
    clear HS hx1 hx2 hx3 hx4 hx5 hb h1 ho1 hp1 hno hbp1 hbq1 hdr
    go_wp2_with fail
    go_cut [9] from 22 to 40 (fun s wx => s = .int .i64 (firstE [x1, x2, (b, 2), x3, x4, x5]) ∧ Off [] w1 wx)
    case first =>
      have hch := Off.refl [] w1.drew; have hB := HBP1.out.drew; have hC := HBQ1.out.drew
      go_region_held3 (fun w' => (∀ i, w'.cell? ⟨w.heap.size, i, none⟩ = (#[.string path] : Array Value)[i]?) ∧ (∀ i, w'.cell? ⟨w.heap.size + 1, i, none⟩ = (#[.string q] : Array Value)[i]?)) (first | assumption | exact ⟨hB.cell, hC.cell⟩ | exact ⟨(hB.alloc _).cell, (hC.alloc _).cell⟩) (first
        | (go_at_call 84; refine (tells_use (by exact HN1.out) hch).mono ?_; rintro e wA ⟨rfl, hoA⟩; have hch := hch.trans_nil hoA; have hB := hB.off hoA (by simp); have hC := hC.off hoA (by simp))
        | (go_at_call 84; refine (tells_use (by exact HN2.out) hch).mono ?_; rintro e wB ⟨rfl, hoB⟩; have hch := hch.trans_nil hoB; have hB := hB.off hoB (by simp); have hC := hC.off hoB (by simp))
        | (go_at_call 88; refine (tells_use (by exact HWQ.out) hch).mono ?_; rintro e wC ⟨rfl, hoC⟩; have hch := hch.trans_nil hoC; have hB := hB.off hoC (by simp); have hC := hC.off hoC (by simp))
        | (go_at_call 89; refine (tells_use (by exact HGO.out) hch).mono ?_; rintro e wD ⟨rfl, hoD⟩; have hch := hch.trans_nil hoD; have hB := hB.off hoD (by simp); have hC := hC.off hoD (by simp))
        | (go_at_call 92; refine (tells_use (by exact HTH.out) hch).mono ?_; rintro e wE ⟨rfl, hoE⟩; have hch := hch.trans_nil hoE; have hB := hB.off hoE (by simp); have hC := hC.off hoE (by simp))
        | (go_at_call 85; refine (tells_use (by exact HPA.out) hch).mono ?_; rintro e wF ⟨rfl, hoF⟩; have hch := hch.trans_nil hoF; have hB := hB.off hoF (by simp); have hC := hC.off hoF (by simp))
        | (go_at_call 87; refine (dfirst_any _ 6 6 [x1, x2, (b, 2), x3, x4, x5] _ (rsns_new _ [x1, x2, (b, 2), x3, x4, x5] _ rfl) rfl (by omega)).mono ?_; rintro e wG ⟨rfl, hoG⟩; have hch := (hch.alloc _).trans_nil hoG; have hB := (hB.alloc _).off hoG (by simp); have hC := (hC.alloc _).off hoG (by simp)))
      have hoe := (Off.refl [] w1).drew.trans_nil hch; clear hch hB hC
      go_wp2_with fail
      go_meet
      exact ⟨rfl, hoe⟩
    case rest =>
      obtain ⟨rfl, hox⟩ := hcut; have HOX := Lib.hid hox; have HD2 := Lib.hid (H1.out.off hox); obtain ⟨v, hv⟩ : ∃ v, firstE [x1, x2, (b, 2), x3, x4, x5] = v := ⟨_, rfl⟩
      rw [hv] at HMV HZ ⊢; have HV := Lib.hid (show firstE (E.mvE path q) = v by rw [HME.out, hv]); clear hox hv
      by_cases hv0 : v = 0
      · subst hv0
        have HMV2 := Lib.hid (show D.edited.move path q = if E.badMv path q then (11, E) else (0, E.change (E.names.map (mvN path q))) by rw [HS2.out, HMV.out]; simp); have HFREE := Lib.hid (HFR.out HV.out); have HPP := Lib.hid (HOKP.out.1 (HZ.out rfl).1); have HQQ := Lib.hid (HOKP.out.2 (HZ.out rfl).2); clear HMV; have HBPc := Lib.hid (HBP1.out.off HOX.out (by simp))
        have HBQc := Lib.hid (HBQ1.out.off HOX.out (by simp)); obtain ⟨ha, Dm, hDm, hsz, hr⟩ := HD2.out.m.parts.names; have HR := Lib.hid hr; have HA := Lib.hid ha; have hc := HD2.out.m.blk.cell; unfold diskCells at hc; obtain ⟨nl, hnl⟩ : ∃ nl, E.names.length = nl := ⟨_, rfl⟩
        rw [hnl] at hDm; clear ha hr hsz hnl HN1 HN2 HWQ HGO HTH HPA HZ HOKP HME HX1
        go_wp2_with (at_range; refine wpList_range_own _ rfl _ 122 rfl 9 3 strK Tryz.underlying122 (plainElem Tryz.prog 3) G1.nb nl Dm rfl hDm ?_; intro w3 hrg hg3 hs3)
        have HG3 := Lib.hid hg3; have HST := Lib.hid (show AskI E.names (badP path q) (has Dm) false from AskI.start (fun x hx => by rw [(HR.out x.1).1]; exact (hasN_iff _ _).2 ⟨x, hx, rfl⟩)); clear hg3 hs3 hc hDm
        go_frame
        go_loopw [10] (fun _ wr => ∃ left cnt, wr.ranges Tryz.prog 9 (plainElem Tryz.prog 3) G1.nb wc.heap.size nl Dm left cnt ∧ Off [wc.heap.size] w3 wr ∧ Hid (AskI E.names (badP path q) left false)) (fun _ wr => wr.rangeLeft G1.nb wc.heap.size)
        case atStart => exact ⟨_, _, hrg, Off.refl _ _, HST⟩
        case round =>
          clear HST hrg; obtain ⟨left, cnt, hrel, ho, HI⟩ := hrel; have HO3 := Lib.hid ho; have HO13 := Lib.hid (show Off [] wc wr from ((Off.refl [] wc).grown HG3.out (fun k hk => by cases hk)).trans ho (fun x hx hm => by simp at hm; omega)); clear ho
          go_wp2_with (at_next; refine wpList_next_ranges _ rfl _ rfl 9 strK (plainElem Tryz.prog 3) Value.string (Value.int .i64) (fun _ _ h => name_shape h) (fun _ _ h => num_shape h) G1.nb wc.heap.size nl Dm _ _ rfl hrel ?_ ?_)
          · intro hc0 hl0
            have HBI := Lib.hid (HI.out.done hl0); clear hl0 hc0 hrel HI; have HF := Lib.hid (show D.edited.move path q = (0, E.change (E.names.map (mvN path q))) by
              rw [HMV2.out, if_neg]; have h5 : false = E.badMv path q := HBI.out
              rw [← h5]; decide)
            have HDR := Lib.hid (HD2.out.off HO13.out); have HOK := Lib.hid (show Ok (E.change (E.names.map (mvN path q))) (n + 1 + 1) from PDisk.change_ok HD2.out.ok (HD2.out.ok.names.moved HA.out HBI.out.symm) (by have := HD2.out.ok.nlen; rw [List.length_map]; omega)); have HBX := Lib.hid (HBPc.out.off HO13.out (by simp)); have HQX := Lib.hid (HBQc.out.off HO13.out (by simp))
            have HTN := Lib.hid (fun (W1 : World) (hW1 : DiskM W1 p { G1 with nb := wr.heap.size } E) (ho1 : Off [p] wr W1) =>
              show Calls Tryz.prog 94 (#[.map (some wr.heap.size)] ++ #[.pointer (some ⟨w.heap.size, 0, none⟩), .pointer (some ⟨w.heap.size + 1, 0, none⟩)]) W1 (TurnP p wr.heap.size G1 { E with names := E.names.map (mvN path q) } W1) from
              movc_any p wr.heap.size w.heap.size (w.heap.size + 1) G1 E path q W1 hW1 (fun h => Nat.lt_irrefl _ (HDR.out.m.parts.lt (List.mem_cons_of_mem _ h))) (by have := HDR.out.ok.nlen; omega) HPP.out HFREE.out
                (fun x hx => by
                  obtain ⟨k1, k2, k3⟩ := HDR.out.ok.names.of_mem HA.out hx; have := HDR.out.ok.inos; exact ⟨k3, by omega⟩) HQQ.out (HBX.out.off ho1 (by have := H.out.m.blk.lt; simp; omega)) (HQX.out.off ho1 (by have := H.out.m.blk.lt; simp; omega))
                (fun W' hW' => HDR.out.tabs W' ((ho1.mono (fun _ _ h => by simp at h; rw [h]; exact List.mem_cons_self ..)).trans hW' (fun x hx hm => by simp at hm; omega))))
            have HCH := Lib.hid (dchange_any p G1 E { E with names := E.names.map (mvN path q) } 94 #[.pointer (some ⟨w.heap.size, 0, none⟩), .pointer (some ⟨w.heap.size + 1, 0, none⟩)] wr HDR.out.m HDR.out.sb (by have := HDR.out.ok.llen; show E.later.length ≤ _; omega) MOVEN HTN.out); clear HMV2
            go_wp2_with fail
            refine HCH.out.mono ?_
            rintro e w7 ⟨rfl, hT⟩; have HT7 := Lib.hid hT; clear hT
            go_wp2_with fail
            go_ret
            rw [HF.out]; exact ⟨rfl, DSETo.step ((HOP.out.1.trans_nil HOX.out).trans_nil HO13.out) HOP.out.2 (HDR.out.changed HT7.out HOK.out)⟩
          intro x c kl yd yp w4 cnt1 hkey hlk hy hat hrg1 hlt1 hg1 hs1 hen
          obtain ⟨rfl, hhas⟩ := name_came (fun p => (HR.out p).1) hkey hat; have ho4 : Off [wc.heap.size] w3 w4 := HO3.out.grown hg1 (fun k hk => by cases hk; exact .inr (by simp))
          have ho14 : Off [] wc w4 := HO13.out.grown hg1 (fun k hk => by cases hk; exact .inl (Nat.le_refl _))
          have HLE := Lib.hid (show w4.rangeLeft G1.nb wc.heap.size < wr.rangeLeft G1.nb wc.heap.size by rw [hrg1.left_eq, hrel.left_eq]; exact hlt1); have HRG := Lib.hid hrg1; have HO4 := Lib.hid ho4; have HO14 := Lib.hid ho14; have HB4 := Lib.hid (HBPc.out.off ho14 (by simp)); have HC4 := Lib.hid (HBQc.out.off ho14 (by simp)); have HHAS := Lib.hid hhas
          have htab := (HD2.out.off ho14).tabs.tabs; have hdr : ∀ W, Off [] w4.drew W → Tabs W := fun W ho => htab.off ((Off.refl [] w4).drew.trans_nil ho)
          obtain ⟨v, hv⟩ : ∃ v, within (str x) (str path) = v := ⟨_, rfl⟩
          obtain ⟨r, hr⟩ : ∃ r, okPath (str (q ++ x.extract path.size x.size)) = r := ⟨_, rfl⟩
          have HBAD := Lib.hid (show badP path q x = (v && !r) by unfold badP mvP; rw [hv, hr]); have HWT := Lib.hid (show Tells 88 #[.string x, .string path] w4.drew (.bool v) from ⟨fun W ho => by
            have := nwithin_any x path W (hdr W ho); rw [hv] at this; exact this⟩)
          have HPT := Lib.hid (show Tells 93 #[.string (q ++ x.extract path.size x.size)] w4.drew (.bool r) from ⟨fun W ho => path_v (q ++ x.extract path.size x.size) W (hdr W ho) r hr⟩); have hx4 : ¬ 9223372036854775807 < q.size + (x.size - path.size) := by
            obtain ⟨y, hy, rfl⟩ := (hasN_iff _ _).1 hhas; have := (HD2.out.ok.names.of_mem HA.out hy).2.2; have := HQQ.out; omega
          have HSZX := Lib.hid (show v = true → path.size ≤ x.size from fun e => within_size (hv.trans e) HPP.out); clear hkey hlk hy hat hrg1 hlt1 hg1 hs1 hrel ho4 ho14 hhas htab hdr hv hr
          change (Instr.entry (.pointer (some ⟨wc.heap.size, 0, none⟩))).run Tryz.prog w4 = .ok (.tuple #[.string x, .int .i64 c]) w4 at hen
          have FIN := Lib.hid (show ∀ w5 : World, Off [] w4 w5 → (v && !r) = false → (∃ left cnt, w5.ranges Tryz.prog 9 (plainElem Tryz.prog 3) G1.nb wc.heap.size nl Dm left cnt ∧ Off [wc.heap.size] w3 w5 ∧ Hid (AskI E.names (badP path q) left false)) ∧ w5.rangeLeft G1.nb wc.heap.size < wr.rangeLeft G1.nb wc.heap.size from fun w5 ho5 hb2 => by
            have hg5 : w4.grownBy w5 none := ⟨ho5.os, ho5.tape, ho5.output, ho5.size, fun i hi _ => ho5.block i hi (by simp)⟩
            have hr5 := HRG.out.kept hg5 (by simp) (by simp); refine ⟨⟨_, _, hr5, HO4.out.trans_nil ho5, Lib.hid (HI.out.next HHAS.out (by rw [HBAD.out, hb2]; rfl))⟩, ?_⟩; have := HLE.out; rw [HRG.out.left_eq] at this; rw [hr5.left_eq]; exact this)
          go_upto_region 10 with fail
          have hch := Off.refl [] w4.drew; have hB := HB4.out.drew; have hC := HC4.out.drew; clear hen
          cases v
          · refine wp_region_held_drew (S := fun w' => (∀ i, w'.cell? ⟨w.heap.size, i, none⟩ = (#[.string path] : Array Value)[i]?) ∧ (∀ i, w'.cell? ⟨w.heap.size + 1, i, none⟩ = (#[.string q] : Array Value)[i]?)) (by kernel_rfl) ⟨hB.cell, hC.cell⟩ (fun hHeld => ?_)
            refine wpAnyH_take (i := 0) (v := ?_) rfl (by kernel_rfl) (by kernel_rfl) (by kernel_rfl) (fun _ _ _ h => h) (Or.inl ⟨by rfl, ?_⟩) (by assumption) ?_
            rotate_left
            · intro w hSw
              try dsimp only at hSw
              go_simp
              try with_reducible rfl
            try simp only [Act.put, List.setIfInBounds_toArray]
            refine wpAnyH_take (i := 1) (v := ?_) rfl (by kernel_rfl) (by kernel_rfl) (by kernel_rfl) (fun _ _ _ h => h) (Or.inl ⟨by rfl, ?_⟩) (by assumption) ?_
            rotate_left
            · intro w hSw
              try dsimp only at hSw
              go_simp
              try with_reducible rfl
            try simp only [Act.put]
            refine wpAnyH_ready (rs := [2]) (by kernel_rfl) (by simp) ?_
            refine AllReadyH.cons rfl (fun K hK => ?_) AllReadyH.nil
            go_simp
            refine (tells_use (by exact HWT.out) hch).mono ?_; rintro e wA ⟨rfl, hoA⟩; have hch := hch.trans_nil hoA; have hB := hB.off hoA (by simp); have hC := hC.off hoA (by simp)
            refine hK.out _ _ ?_ (fun hHeld => ?_)
            · exact ⟨hB.cell, hC.cell⟩
            clear hK K
            try simp only [Act.put, List.setIfInBounds_toArray, List.set_cons_zero, List.set_cons_succ]
            refine wpAnyH_take (i := 3) (v := ?_) rfl (by kernel_rfl) (by kernel_rfl) (by kernel_rfl) (fun _ _ _ h => h) (Or.inl ⟨by rfl, ?_⟩) (by assumption) ?_
            rotate_left
            · intro w hSw
              try dsimp only at hSw
              go_simp
              try with_reducible rfl
            try simp only [Act.put, List.setIfInBounds_toArray]
            refine wpAnyH_take (i := 4) (v := undef) rfl (by kernel_rfl) (by kernel_rfl) (by kernel_rfl) (fun _ _ _ h => h) (Or.inr ⟨by rfl, rfl⟩) (by assumption) ?_
            try simp only [Act.put]
            refine wpAnyH_take (i := 5) (v := undef) rfl (by kernel_rfl) (by kernel_rfl) (by kernel_rfl) (fun _ _ _ h => h) (Or.inr ⟨by rfl, rfl⟩) (by assumption) ?_
            try simp only [Act.put]
            refine wpAnyH_take (i := 6) (v := undef) rfl (by kernel_rfl) (by kernel_rfl) (by kernel_rfl) (fun _ _ _ h => h) (Or.inr ⟨by rfl, rfl⟩) (by assumption) ?_
            try simp only [Act.put]
            refine wpAnyH_take (i := 7) (v := undef) rfl (by kernel_rfl) (by kernel_rfl) (by kernel_rfl) (fun _ _ _ h => h) (Or.inr ⟨by rfl, rfl⟩) (by assumption) ?_
            try simp only [Act.put]
            refine wpAnyH_ready (rs := [8]) (by kernel_rfl) (by simp) ?_
            refine AllReadyH.cons rfl (fun K hK => ?_) AllReadyH.nil
            go_simp
            refine hK.out _ _ ?_ (fun hHeld => ?_)
            · exact ⟨hB.cell, hC.cell⟩
            clear hK K
            try simp only [Act.put, List.setIfInBounds_toArray, List.set_cons_zero, List.set_cons_succ]
            refine wpAnyH_take (i := 9) (v := undef) rfl (by kernel_rfl) (by kernel_rfl) (by kernel_rfl) (fun _ _ _ h => h) (Or.inr ⟨by rfl, rfl⟩) (by assumption) ?_
            try simp only [Act.put, List.setIfInBounds_toArray]
            refine wpAnyH_ready (rs := [10]) (by kernel_rfl) (by simp) ?_
            refine AllReadyH.cons rfl (fun K hK => ?_) AllReadyH.nil
            go_simp
            refine hK.out _ _ ?_ (fun hHeld => ?_)
            · exact ⟨hB.cell, hC.cell⟩
            clear hK K
            try simp only [Act.put, List.setIfInBounds_toArray, List.set_cons_zero, List.set_cons_succ]
            refine wpAnyH_ready (rs := [11]) (by kernel_rfl) (by simp) ?_
            refine AllReadyH.cons rfl (fun K hK => ?_) AllReadyH.nil
            go_simp
            refine hK.out _ _ ?_ (fun hHeld => ?_)
            · exact ⟨hB.cell, hC.cell⟩
            clear hK K
            try simp only [Act.put, List.setIfInBounds_toArray, List.set_cons_zero, List.set_cons_succ]
            refine wpAnyH_ready (rs := [12]) (by kernel_rfl) (by simp) ?_
            refine AllReadyH.cons rfl (fun K hK => ?_) AllReadyH.nil
            go_simp
            refine hK.out _ _ ?_ (fun hHeld => ?_)
            · exact ⟨hB.cell, hC.cell⟩
            clear hK K
            try simp only [Act.put, List.setIfInBounds_toArray, List.set_cons_zero, List.set_cons_succ]
            refine wpAnyH_done (by kernel_rfl) ?_ _
            have HOE := Lib.hid ((Off.refl [] w4).drew.trans_nil hch); clear hch hB hC
            go_wp2_with fail
            exact FIN.out _ HOE.out rfl
          have hxi1 : (path.size : Int) ≤ x.size := by have := HSZX.out rfl; omega
          have hxi0 : (0 : Int) ≤ path.size := by omega
          refine wp_region_held_drew (S := fun w' => (∀ i, w'.cell? ⟨w.heap.size, i, none⟩ = (#[.string path] : Array Value)[i]?) ∧ (∀ i, w'.cell? ⟨w.heap.size + 1, i, none⟩ = (#[.string q] : Array Value)[i]?)) (by kernel_rfl) ⟨hB.cell, hC.cell⟩ (fun hHeld => ?_)
          refine wpAnyH_take (i := 0) (v := ?_) rfl (by kernel_rfl) (by kernel_rfl) (by kernel_rfl) (fun _ _ _ h => h) (Or.inl ⟨by rfl, ?_⟩) (by assumption) ?_
          rotate_left
          · intro w hSw
            try dsimp only at hSw
            go_simp
            try with_reducible rfl
          try simp only [Act.put, List.setIfInBounds_toArray]
          refine wpAnyH_take (i := 1) (v := ?_) rfl (by kernel_rfl) (by kernel_rfl) (by kernel_rfl) (fun _ _ _ h => h) (Or.inl ⟨by rfl, ?_⟩) (by assumption) ?_
          rotate_left
          · intro w hSw
            try dsimp only at hSw
            go_simp
            try with_reducible rfl
          try simp only [Act.put]
          refine wpAnyH_ready (rs := [2]) (by kernel_rfl) (by simp) ?_
          refine AllReadyH.cons rfl (fun K hK => ?_) AllReadyH.nil
          go_simp
          refine (tells_use (by exact HWT.out) hch).mono ?_; rintro e wA ⟨rfl, hoA⟩; have hch := hch.trans_nil hoA; have hB := hB.off hoA (by simp); have hC := hC.off hoA (by simp)
          refine hK.out _ _ ?_ (fun hHeld => ?_)
          · exact ⟨hB.cell, hC.cell⟩
          clear hK K
          try simp only [Act.put, List.setIfInBounds_toArray, List.set_cons_zero, List.set_cons_succ]
          refine wpAnyH_take (i := 3) (v := ?_) rfl (by kernel_rfl) (by kernel_rfl) (by kernel_rfl) (fun _ _ _ h => h) (Or.inl ⟨by rfl, ?_⟩) (by assumption) ?_
          rotate_left
          · intro w hSw
            try dsimp only at hSw
            go_simp
            try with_reducible rfl
          try simp only [Act.put, List.setIfInBounds_toArray]
          refine wpAnyH_take (i := 4) (v := ?_) rfl (by kernel_rfl) (by kernel_rfl) (by kernel_rfl) (fun _ _ _ h => h) (Or.inl ⟨by rfl, ?_⟩) (by assumption) ?_
          rotate_left
          · intro w hSw
            try dsimp only at hSw
            go_simp
            try with_reducible rfl
          try simp only [Act.put]
          refine wpAnyH_take (i := 5) (v := ?_) rfl (by kernel_rfl) (by kernel_rfl) (by kernel_rfl) (fun _ _ _ h => h) (Or.inl ⟨by rfl, ?_⟩) (by assumption) ?_
          rotate_left
          · intro w hSw
            try dsimp only at hSw
            go_simp
            try with_reducible rfl
          try simp only [Act.put]
          refine wpAnyH_take (i := 6) (v := ?_) rfl (by kernel_rfl) (by kernel_rfl) (by kernel_rfl) (fun _ _ _ h => h) (Or.inl ⟨by rfl, ?_⟩) (by assumption) ?_
          rotate_left
          · intro w hSw
            try dsimp only at hSw
            go_simp
            try with_reducible rfl
          try simp only [Act.put]
          refine wpAnyH_take (i := 7) (v := ?_) rfl (by kernel_rfl) (by kernel_rfl) (by kernel_rfl) (fun _ _ _ h => h) (Or.inl ⟨by rfl, ?_⟩) (by assumption) ?_
          rotate_left
          · intro w hSw
            try dsimp only at hSw
            go_simp
            try with_reducible rfl
          try simp only [Act.put]
          refine wpAnyH_ready (rs := [8]) (by kernel_rfl) (by simp) ?_
          refine AllReadyH.cons rfl (fun K hK => ?_) AllReadyH.nil
          go_simp
          refine hK.out _ _ ?_ (fun hHeld => ?_)
          · exact ⟨hB.cell, hC.cell⟩
          clear hK K
          try simp only [Act.put, List.setIfInBounds_toArray, List.set_cons_zero, List.set_cons_succ]
          refine wpAnyH_take (i := 9) (v := ?_) rfl (by kernel_rfl) (by kernel_rfl) (by kernel_rfl) (fun _ _ _ h => h) (Or.inl ⟨by rfl, ?_⟩) (by assumption) ?_
          rotate_left
          · intro w hSw
            try dsimp only at hSw
            go_simp
            try with_reducible rfl
          try simp only [Act.put, List.setIfInBounds_toArray]
          refine wpAnyH_ready (rs := [10]) (by kernel_rfl) (by simp) ?_
          refine AllReadyH.cons rfl (fun K hK => ?_) AllReadyH.nil
          go_simp
          refine (tells_use (by exact HPT.out) hch).mono ?_; rintro e wB ⟨rfl, hoB⟩; have hch := hch.trans_nil hoB; have hB := hB.off hoB (by simp); have hC := hC.off hoB (by simp)
          refine hK.out _ _ ?_ (fun hHeld => ?_)
          · exact ⟨hB.cell, hC.cell⟩
          clear hK K
          try simp only [Act.put, List.setIfInBounds_toArray, List.set_cons_zero, List.set_cons_succ]
          refine wpAnyH_take (i := 11) (v := ?_) rfl (by kernel_rfl) (by kernel_rfl) (by kernel_rfl) (fun _ _ _ h => h) (Or.inl ⟨by rfl, ?_⟩) (by assumption) ?_
          rotate_left
          · intro w hSw
            try dsimp only at hSw
            go_simp
            try with_reducible rfl
          try simp only [Act.put, List.setIfInBounds_toArray]
          refine wpAnyH_take (i := 12) (v := ?_) rfl (by kernel_rfl) (by kernel_rfl) (by kernel_rfl) (fun _ _ _ h => h) (Or.inl ⟨by rfl, ?_⟩) (by assumption) ?_
          rotate_left
          · intro w hSw
            try dsimp only at hSw
            go_simp
            try with_reducible rfl
          try simp only [Act.put]
          refine wpAnyH_done (by kernel_rfl) ?_ _
          have HOE := Lib.hid ((Off.refl [] w4).drew.trans_nil hch); clear hch hB hC
          cases r
          · have HF := Lib.hid (show D.edited.move path q = (11, E) by
              rw [HMV2.out, if_pos]; unfold PDisk.badMv; obtain ⟨y, hy, e⟩ := (hasN_iff _ _).1 HHAS.out; exact List.any_eq_true.2 ⟨y, hy, by rw [e, HBAD.out]; rfl⟩)
            go_wp2_with fail
            go_ret
            rw [HF.out]; exact ⟨rfl, DSETo.step (((HOP.out.1.trans_nil HOX.out).trans_nil HO14.out).trans_nil HOE.out) HOP.out.2 (((HD2.out.off HO14.out).off HOE.out).refl.le (by omega))⟩
          go_wp2_with fail
          obtain ⟨⟨l, cn, k1, k2, k3⟩, k4⟩ := FIN.out _ HOE.out rfl; exact ⟨⟨l, ⟨cn, k1⟩, k2, k3⟩, k4⟩
      have HF := Lib.hid (show D.edited.move path q = (v, E) by rw [HS2.out, HMV.out, if_pos hv0]); have hne : (v == 0) = false := beq_eq_false_iff_ne.2 hv0
      clear hv0 HMV
      go_wp2_with fail
      go_ret
      rw [HF.out]; exact ⟨rfl, DSETo.step (HOP.out.1.trans_nil HOX.out) HOP.out.2 (HD2.out.refl.le (by omega))⟩
  have HS2 := Lib.hid (show D.edited.move path q = (er, E) by rw [HS.out, if_pos h0]); have hne : (er == 0) = false := beq_eq_false_iff_ne.2 h0
  clear h0
  go_wp2_with fail
  go_ret
  rw [HS2.out]; obtain ⟨G1, h1, ho1, hp1⟩ := HT.out; refine ⟨rfl, DSETo.step (G1 := G1) ((HOF.out.mono (fun _ _ h => by simp at h)).trans ho1 (fun _ _ h => h)) (fun b hb => ?_) (h1.refl.le (by omega))⟩
  rcases hp1 b hb with h | h
  · exact .inl h
  exact .inr (Nat.le_trans HOF.out.size h)
end
section
open Go.RowKit Go.Op Go.Maps
def nmOf : List Node → Nat → NameL
  | [], _ => []
  | n :: t, i => (n.path, i + 1) :: nmOf t (i + 1)
theorem nmOf_append : ∀ (a b : List Node) (i : Nat), nmOf (a ++ b) i = nmOf a i ++ nmOf b (i + a.length)
  | [], b, i => by simp [nmOf]
  | n :: a, b, i => by
    rw [List.cons_append, nmOf, nmOf, nmOf_append a b (i + 1), List.cons_append, List.length_cons, show i + 1 + a.length = i + (a.length + 1) by omega]
theorem nmOf_has : ∀ (a : List Node) (i : Nat) (p : ByteArray), hasN (nmOf a i) p = true ↔ ∃ n ∈ a, n.path = p
  | [], i, p => by simp [nmOf, hasN]
  | n :: a, i, p => by simp [nmOf, hasN, nmOf_has a (i + 1) p]
theorem nmOf_len : ∀ (a : List Node) (i : Nat), (nmOf a i).length = a.length
  | [], _ => rfl
  | n :: a, i => by simp [nmOf, nmOf_len a (i + 1)]
def newD' (t : List Node) : PDisk := ⟨nmOf t 0, [], [], t.map fun n => ⟨n, 0, false⟩, false, 0, [], [], [], .slice none 0 0⟩
def newD (t : List Node) : PDisk := { newD' t with safe := nmOf t 0 }
theorem newD_step {t : List Node} (hs : Sorted t) {i : Nat} (hi : i < t.length) :
    { ((newD' (t.take i)).make t[i] 0 false) with names := putN (newD' (t.take i)).names t[i].path ((newD' (t.take i)).inos.length + 1) } = newD' (t.take (i + 1)) := by
  have ht : t.take (i + 1) = t.take i ++ [t[i]] := by rw [List.take_add_one, List.getElem?_eq_getElem hi]; rfl
  have hno : hasN (nmOf (t.take i) 0) t[i].path = false := by
    cases hh : hasN (nmOf (t.take i) 0) t[i].path
    · rfl
    obtain ⟨n, hn, e⟩ := (nmOf_has _ _ _).1 hh; obtain ⟨j, hj, rfl⟩ := List.getElem_of_mem hn; have hji : j < i := by rw [List.length_take] at hj; omega
    have h1 := List.pairwise_iff_getElem.1 hs j i (by omega) hi hji; rw [List.getElem_take] at e; have h2 : t[j].p = t[i].p := by show str _ = str _; rw [e]
    rw [h2, order_self] at h1; omega
  unfold newD' PDisk.make; dsimp only; rw [ht, nmOf_append, List.map_append]; unfold putN; rw [if_neg (by rw [hno]; decide)]; have hl : (t.take i).length = i := by rw [List.length_take]; omega
  simp [nmOf]
theorem newD_zero {w : World} {gd nb ib : Nat} (hB : Blk w gd 126 #[.map (some nb), .map none, .slice none 0 0, .map (some ib), .int .i64 1, .bool false, .int .i64 0, .slice none 0 0, .slice none 0 0, .slice none 0 0])
    (hN : w.ownsMap Tryz.prog 9 (plainElem Tryz.prog 3) nb 0 (.map [] : DataW Unit)) (hI : w.ownsMap Tryz.prog 3 ptrElem ib 0 (.map [] : DataW Unit)) (hne : ib ≠ nb) :
    DiskM w gd ⟨nb, none, ib, .slice none 0 0, .slice none 0 0, .slice none 0 0, [], [], []⟩ (newD' []) where
  blk := hB
  parts := {
    names := ⟨List.Pairwise.nil, _, hN, rfl, fun p => ⟨rfl, rfl⟩⟩
    safe := rfl
    later := World.ownsRow_nil w 0 _ 1
    lbl := rfl
    laters := fun i b l h1 _ => by simp at h1
    ino := ⟨_, hI, rfl, fun k q h => by simp at h, fun i _ => rfl⟩
    qsl := rfl
    inos := fun i q n h1 _ => by simp at h1
    nodup := List.nodup_nil
    trace := World.ownsRow_nil w 0 _ 3
    fates := ⟨⟨none, 0, rfl, Nat.le_refl _, fun h => absurd rfl h⟩, EditsAt.nil w _⟩
    fbl := fun g hg => by cases hg
    apart := ⟨hne, by simp, by simp⟩ }
def NewMid (w : World) (gd nb : Nat) (D : PDisk) (wr : World) : Prop :=
  ∃ G, DiskM wr gd G D ∧ G.nb = nb ∧ nb ∉ G.rest ∧ G.sb = none ∧ (∀ b ∈ G.parts, w.heap.size ≤ b) ∧ Off [] w wr
theorem NewMid.turned {w wr wU : World} {gd nb : Nat} {D D1 : PDisk} {G : Geo} {e : Ending} (h1 : DiskM wr gd G D) (hnb : G.nb = nb) (h4 : G.sb = none) (h5 : ∀ b ∈ G.parts, w.heap.size ≤ b) (h6 : Off [] w wr) (hgd : w.heap.size ≤ gd) (ht : TurnP gd nb G D1 wr e wU) : NewMid w gd nb D1 wU := by
  obtain ⟨-, G', a1, a2, a3, a4, a5, a6⟩ := ht; refine ⟨G', a3, a1, a4, a2.trans h4, fun b hb => ?_, h6.trans a5 (fun x hx hm => ?_)⟩
  · rcases List.mem_cons.1 hb with rfl | hb
    · rw [a1, ← hnb]; exact h5 _ (List.mem_cons_self ..)
    rcases a6 b hb with h | h
    · exact h5 b (List.mem_cons_of_mem _ h)
    exact Nat.le_trans h6.size h
  exfalso
  rcases List.mem_cons.1 hm with rfl | hm
  · omega
  rcases List.mem_cons.1 hm with rfl | hm
  · have := h5 G.nb (List.mem_cons_self ..); omega
  have := h5 x (List.mem_cons_of_mem _ hm); omega
set_option maxRecDepth 100000 in
set_option maxHeartbeats 8000000 in
theorem dnew_ok (fp : Option Addr) (t : List Node) (n c : Nat) (w : World) (hR : Row w fp t) (hn : t.length = n) (hc : n ≤ c) (hok : okTree t = true) (hF : Fits t) (hT : Tabs w) :
    Calls Tryz.prog 10 #[.slice fp n c] w fun e w' => ∃ gd G, e = .returned (.tuple #[.pointer (some ⟨gd, 0, none⟩), .int .i64 0]) ∧ DiskM w' gd G (newD t) ∧ w.heap.size ≤ gd ∧ (∀ b ∈ G.parts, w.heap.size ≤ b) ∧ G.sb.isSome = true ∧ Off [] w w' := by
  have hbig : n ≤ 1000 := by rw [← hn]; exact okTree_len hok
  have HCK := Lib.hid (check_any fp t n c w hR hn hc (by unfold maxLen; omega) hF hT); have hck : chkV t = 0 := by unfold chkV; rw [hok]; rfl
  rw [hck] at HCK; have HR := Lib.hid hR; have HN := Lib.hid hn; have HS := Lib.hid (okTree_sorted hok); have HSM := Lib.hid (fun (x : Node) (hx : x ∈ t) => okTree_small hok hx); clear hR hn hok hF hT hck
  go_enter Tryz.func10, Tryz.ntmps10
  go_wp2_with fail
  refine HCK.out.mono ?_
  rintro e w1 ⟨rfl, ho1⟩; have HO1 := Lib.hid ho1; clear HCK ho1
  go_wp2_with fail
  rw [run_makeMap]; simp only [Result.andThen]; rw [Oper.upon_value]
  go_wp2_with fail
  rw [run_makeMap]; simp only [Result.andThen]; rw [Oper.upon_value]
  go_upto_region 4 with fail
  obtain ⟨gd, hgd⟩ : ∃ gd, w1.heap.size + 1 + 1 = gd := ⟨_, rfl⟩
  obtain ⟨nb, hnb⟩ : ∃ nb, w1.heap.size = nb := ⟨_, rfl⟩
  have hm0 : NewMid w gd nb (newD' []) (((w1.alloc (Obj.map #[] 0)).alloc (Obj.map #[] 0)).alloc (.cells #[.map (some w1.heap.size), .map none, .slice none 0 0, .map (some (w1.heap.size + 1)), .int .i64 1, .bool false, .int .i64 0, .slice none 0 0, .slice none 0 0, .slice none 0 0] 126)) := by
    have hsz := HO1.out.size; refine ⟨⟨w1.heap.size, none, w1.heap.size + 1, .slice none 0 0, .slice none 0 0, .slice none 0 0, [], [], []⟩, newD_zero ?_ ?_ ?_ (by omega), hnb, ?_, rfl, ?_, (((HO1.out.alloc _).alloc _).alloc _)⟩
    · rw [← hgd]; exact Blk.new2 w1 _ _ _ _
    · exact ownsMap_off (World.ownsMap_made w1 Tryz.prog _ _) ((((Off.refl [] _).alloc _)).alloc _) (by simp)
    · have := ownsMap_off (World.ownsMap_made (w1.alloc (Obj.map #[] 0)) Tryz.prog 3 ptrElem (H := Unit)) ((Off.refl [] _).alloc (.cells #[.map (some w1.heap.size), .map none, .slice none 0 0, .map (some (w1.heap.size + 1)), .int .i64 1, .bool false, .int .i64 0, .slice none 0 0, .slice none 0 0, .slice none 0 0] 126)) (by simp)
      simpa using this
    · rw [← hnb]
      intro h
      simp [Geo.rest, Value.ownBlock] at h
    intro b hb
    simp [Geo.parts, Geo.rest, Value.ownBlock] at hb
    omega
  have hgn : w.heap.size ≤ gd := by have := HO1.out.size; omega
  refine code_gen (fun W => NewMid w gd nb (newD' []) W) hm0 ?_
  rw [hgd, hnb]; have HGN := Lib.hid hgn; clear hm0 hgd hnb hgn; rintro W0 hm0
  go_wp2_with fail
  go_loopw [16] (fun x wr => ∃ i : Nat, x = .int .i64 i ∧ i ≤ n ∧ NewMid w gd nb (newD' (t.take i)) wr) (fun x _ => n - (intOf x).toNat)
  case atStart => exact ⟨0, rfl, by omega, by rw [List.take_zero]; exact hm0⟩
  case round =>
    clear hm0; obtain ⟨i, rfl, hi, hmid⟩ := hrel; have HMID := Lib.hid hmid; obtain ⟨G, hM, hnb, hnr, hsb, hpl, hof⟩ := hmid
    by_cases hlt : i < n
    · have hil : i < t.length := by rw [HN.out]; exact hlt
      obtain ⟨a, rfl, hna, hab⟩ := (HR.out.off hof).get i hil; have HSTEP := Lib.hid (newD_step HS.out hil); have hps := HSM.out _ (List.getElem_mem hil); generalize t[i] = x at *; obtain ⟨D, hD⟩ : ∃ D, newD' (t.take i) = D := ⟨_, rfl⟩
      have HIL := Lib.hid (show D.inos.length ≤ 1000 from by rw [← hD]; simp [newD']; omega); have HNL := Lib.hid (show D.names.length ≤ 1000 from by rw [← hD]; simp [newD', nmOf_len]; omega); rw [hD] at hM HSTEP; have c0 := hna.path; have c1 := hna.kind; have c2 := hna.data; have c3 := hna.mode; have hilt : (i : Int) < n := by omega
      have HM := Lib.hid hM; have HX := Lib.hid (show G.nb = nb ∧ nb ∉ G.rest ∧ G.sb = none ∧ (∀ b ∈ G.parts, w.heap.size ≤ b) ∧ Off [] w wr from ⟨hnb, hnr, hsb, hpl, hof⟩); have HPS := Lib.hid hps; clear hM hnb hnr hsb hpl hof hna hil hD hps
      go_upto_region 7 with fail
      refine code_gen (fun W => Blk W wr.heap.size 105 #[.string x.path, .int .i64 x.kind, .string x.data, .int .i64 x.mode] ∧ Off [] wr W) ⟨Blk.new wr _ _, (Off.refl _ _).alloc _⟩ ?_
      rintro W ⟨hbn, hoW⟩; have HBN := Lib.hid hbn.drew; have HOW := Lib.hid hoW; have HMW := Lib.hid ((HM.out.off hoW (by simp) (by simp)).drew); have hS : (∀ i, W.drew.cell? ⟨wr.heap.size, i, none⟩ = (#[.string x.path, .int .i64 x.kind, .string x.data, .int .i64 x.mode] : Array Value)[i]?) ∧ W.drew.cell? ⟨gd, 0, none⟩ = some (.map (some nb)) :=
        ⟨hbn.drew.cell, by have := HMW.out.blk.cell 0; rw [show (diskCells G D)[0]? = some (.map (some G.nb)) from rfl, HX.out.1] at this; exact this⟩
      have KEEP := Lib.hid (show ∀ (wA wU : World) (q : Nat), DiskM wA gd { G with qs := G.qs ++ [q] } (D.make x 0 false) → Off [gd, G.ib] W.drew wA → wA.grownBy wU (some G.nb) →
          ((∀ i, wA.cell? ⟨wr.heap.size, i, none⟩ = (#[.string x.path, .int .i64 x.kind, .string x.data, .int .i64 x.mode] : Array Value)[i]?) ∧ wA.cell? ⟨gd, 0, none⟩ = some (.map (some nb))) ∧
          (∀ i, wU.cell? ⟨wr.heap.size, i, none⟩ = (#[.string x.path, .int .i64 x.kind, .string x.data, .int .i64 x.mode] : Array Value)[i]?) ∧ wU.cell? ⟨gd, 0, none⟩ = some (.map (some nb)) from
        fun wA wU q hMA hoA hgU => by
          have hib := HMW.out.parts.ino.isMap; have hmb := HMW.out.parts.names.isMap; have h1 := HBN.out.off hoA (fun h => by
            simp at h
            rcases h with h | h
            · exact HBN.out.ne_ HMW.out.blk (by decide) h
            exact hib.ne HBN.out h.symm)
          have h3 : some wr.heap.size ≠ some G.nb := fun e => hmb.ne HBN.out (by injection e with e; exact e.symm)
          have h4 : some gd ≠ some G.nb := fun e => hmb.ne HMW.out.blk (by injection e with e; exact e.symm)
          have h5 := hMA.blk.grown hgU h4; refine ⟨⟨h1.cell, ?_⟩, (h1.grown hgU h3).cell, ?_⟩
          · have := hMA.blk.cell 0
            rw [show (diskCells { G with qs := G.qs ++ [q] } (D.make x 0 false))[0]? = some (.map (some G.nb)) from rfl, HX.out.1] at this; exact this
          have := h5.cell 0; rw [show (diskCells { G with qs := G.qs ++ [q] } (D.make x 0 false))[0]? = some (.map (some G.nb)) from rfl, HX.out.1] at this; exact this)
      clear c0 c1 c2 c3 hbn hoW hab
      go_region_held3 (fun w' => (∀ i, w'.cell? ⟨wr.heap.size, i, none⟩ = (#[.string x.path, .int .i64 x.kind, .string x.data, .int .i64 x.mode] : Array Value)[i]?) ∧ w'.cell? ⟨gd, 0, none⟩ = some (.map (some nb))) (first | assumption) ((go_at_call 62; refine (dmake_any gd G D x 0 false _ HMW.out (by have := HIL.out; omega)).mono ?_; rintro e wA ⟨rfl, q, hMA, hoA, hq⟩; obtain ⟨wU, hrunU, hNU, hgU⟩ := hMA.parts.names.add (by show D.names.length ≤ _; have := HNL.out; omega) x.path (by have := HPS.out; unfold maxLen; omega) (D.inos.length + 1) (D.inos.length + 1) (by simp) (by have := HIL.out; omega); obtain ⟨hSA, hSU⟩ := KEEP.out wA wU q hMA hoA hgU; rw [show ({ G with qs := G.qs ++ [q] } : Geo).nb = nb from HX.out.1] at hrunU))
      have HEND := Lib.hid (show NewMid w gd nb (newD' (t.take (i + 1))) wU from by
        rw [← HSTEP.out]; have hMG : DiskM W.drew gd { G with nb := G.nb } D := HMW.out
        have htp := turn_end (path := x.path) (m := G.nb) hMG (by rw [HX.out.1]; exact HX.out.2.1) hMA hoA hq (by rw [show (D.make x 0 false).names = D.names from rfl] at hNU; exact hNU) hgU; rw [HX.out.1] at htp; exact NewMid.turned HMW.out HX.out.1 HX.out.2.2.1 HX.out.2.2.2.1 ((HX.out.2.2.2.2.trans_nil HOW.out).drew) HGN.out htp)
      clear hSA hSU hS hMA hoA hq hNU hgU hrunU
      go_wp2_with fail
      exact ⟨⟨i + 1, by congr 1, by omega, HEND.out⟩, by simp only [intOf]; omega⟩
    obtain rfl : i = n := by omega
    have ht : t.take i = t := List.take_of_length_le (by rw [HN.out]; exact Nat.le_refl _)
    rw [ht] at hM; have HCL := Lib.hid (mclone_any G.nb (nmOf t 0) wr hM.parts.names); have hc0 := hM.blk.cell; unfold diskCells at hc0; have HM := Lib.hid hM; have HX := Lib.hid (show G.nb = nb ∧ nb ∉ G.rest ∧ G.sb = none ∧ (∀ b ∈ G.parts, w.heap.size ≤ b) ∧ Off [] w wr from ⟨hnb, hnr, hsb, hpl, hof⟩); clear hM hnb hnr hsb hpl hof ht
    go_wp2_with fail
    refine HCL.out.mono ?_
    rintro e w3 ⟨rfl, hN3, ho3⟩; have hM3 := HM.out.off ho3 (by simp) (by simp); have HM3 := Lib.hid hM3; have HN3 := Lib.hid hN3; have HO3 := Lib.hid ho3; have hc3 := hM3.blk.cell; have hf3 := hM3.blk.frozen; have hl3 := hM3.blk.lt; unfold diskCells at hc3; clear hc0 hM3 hN3 ho3
    go_wp2_with fail
    go_ret2
    have hwg : wr.heap.size ∉ G.parts := fun h => Nat.lt_irrefl _ (HM.out.parts.lt h)
    refine ⟨gd, { G with sb := some wr.heap.size }, rfl, ⟨?_, ?_⟩, HGN.out, ?_, rfl, ?_⟩
    · have := HM3.out.blk.set_ 1 (.map (some wr.heap.size))
      unfold diskCells at this ⊢
      simpa [newD] using this
    · have hS : Off [gd] w3 (w3.setCell ⟨gd, 1, none⟩ (.map (some wr.heap.size))) := (Off.refl [gd] w3).setCell (.inr (by simp)) _
      have hPP := HM3.out.parts.off (k := [gd]) hS (fun b hb h => by simp at h; subst h; exact HM3.out.far hb); exact {
        names := hPP.names
        safe := HN3.out.off hS (by have := HM.out.blk.lt; simp; omega)
        later := hPP.later
        lbl := hPP.lbl
        laters := hPP.laters
        ino := hPP.ino
        qsl := hPP.qsl
        inos := hPP.inos
        nodup := hPP.nodup
        trace := hPP.trace
        fates := hPP.fates
        fbl := hPP.fbl
        apart := ⟨hPP.apart.1, fun e => hwg (by injection e with e; rw [e]; exact List.mem_cons_of_mem _ (mem_rest.2 (.inr (.inl rfl)))), hPP.apart.2.2⟩ }
    · intro b hb
      rcases List.mem_cons.1 hb with rfl | hb
      · exact HX.out.2.2.2.1 _ (List.mem_cons_self ..)
      rcases mem_rest.1 hb with h | h
      · simp at h; subst h; exact HX.out.2.2.2.2.size
      exact HX.out.2.2.2.1 b (List.mem_cons_of_mem _ (mem_rest.2 (.inr h)))
    exact (HX.out.2.2.2.2.trans_nil HO3.out).setCell (.inl HGN.out) _
end
end Go.Proofs.YthciejabapdbgaaGreatDoor
